/-
  Meets and what is finer: plain mathematics, no program.
-/
import Derived.Test.YtniboaekigoheaaSjM2
import Derived.Test.YtniboaekigoheaaSjK
namespace Go.Sj
theorem zero_of {P : Program} {t : TypeId} {z : Value} (h : (P.info? t).bind (·.zero) = some z) (w : World) : (zeroValue t).run P w = .ok z w := by
  cases e : P.info? t with
  | none => rw [e] at h; cases h
  | some i =>
    rw [e] at h
    simp only [Option.bind_some] at h
    simp [zeroValue, typeInfo, e, h]
end Go.Sj
namespace Go.Sj.Part
set_option linter.unusedVariables false
set_option linter.unusedSimpArgs false

/-- The classes of an element in two partitions. -/
def keyI (p r : List Nat) (i : Nat) : List Int := [(p.getD i 0 : Nat), (r.getD i 0 : Nat)]
/-- The first element with the same classes. -/
def fstF (p r : List Nat) (k : Nat) : Nat := ((List.range (k + 1)).find? fun j => keyI p r j == keyI p r k).getD k
def meetN (p r : List Nat) : List Nat := (List.range p.length).map (fstF p r)

theorem fstF_spec (p r : List Nat) (k : Nat) : fstF p r k ≤ k ∧ keyI p r (fstF p r k) = keyI p r k ∧ ∀ j, j < fstF p r k → keyI p r j ≠ keyI p r k := by
  unfold fstF
  cases h : (List.range (k + 1)).find? fun j => keyI p r j == keyI p r k with
  | none =>
    rw [List.find?_eq_none] at h
    have := h k (by simp)
    simp at this
  | some j =>
    rw [List.find?_eq_some_iff_getElem] at h
    obtain ⟨h1, i, hi, h2, h3⟩ := h
    simp only [List.length_range] at hi
    simp only [List.getElem_range] at h2
    subst h2
    refine ⟨by simp only [Option.getD_some]; omega, by simpa using h1, fun j hj => ?_⟩
    have := h3 j hj
    simpa using this
theorem fstF_eq {p r : List Nat} {k j : Nat} (h1 : keyI p r j = keyI p r k) (h2 : ∀ i, i < j → keyI p r i ≠ keyI p r k) : fstF p r k = j := by
  obtain ⟨a, b, c⟩ := fstF_spec p r k
  rcases Nat.lt_trichotomy (fstF p r k) j with h | h | h
  · exact absurd b (h2 _ h)
  · exact h
  · exact absurd h1 (c _ h)
theorem fstF_key {p r : List Nat} {i k : Nat} (h : keyI p r i = keyI p r k) : fstF p r i = fstF p r k := by
  obtain ⟨a, b, c⟩ := fstF_spec p r k
  exact fstF_eq (by rw [b, h]) (fun j hj => by rw [h]; exact c j hj)
theorem fstF_idem (p r : List Nat) (k : Nat) : fstF p r (fstF p r k) = fstF p r k := fstF_key (fstF_spec p r k).2.1

theorem mpFind_append (k : List Int) : ∀ (m : List (List Int × Int)) (j : List Int) (x : Int), mpFind k (m ++ [(j, x)]) = match mpFind k m with | some y => some y | none => if k = j then some x else none
  | [], j, x => by simp [mpFind]
  | (a, b) :: m, j, x => by
    simp only [List.cons_append, mpFind]
    by_cases h : k = a
    · simp [h]
    · simp only [if_neg h, mpFind_append k m j x]

/-- What the map holds ahead of element k. -/
def MeetInv (p r : List Nat) (k : Nat) (m : List (List Int × Int)) : Prop := (∀ q ∈ m, q.1.length = 2) ∧ ∀ i, mpFind (keyI p r i) m = if fstF p r i < k then some (fstF p r i : Int) else none

theorem meet_zero (p r : List Nat) : MeetInv p r 0 [] := ⟨fun _ h => by simp at h, fun i => by simp [mpFind]⟩
theorem meet_old {p r : List Nat} {k : Nat} {m : List (List Int × Int)} (h : MeetInv p r k m) (hk : fstF p r k < k) : MeetInv p r (k + 1) m := by
  refine ⟨h.1, fun i => ?_⟩
  rw [h.2 i]
  by_cases e : fstF p r i < k
  · rw [if_pos e, if_pos (by omega)]
  · rw [if_neg e, if_neg]
    intro e2
    have e3 : fstF p r i = k := by omega
    have := fstF_idem p r i
    rw [e3] at this
    omega
theorem meet_new {p r : List Nat} {k : Nat} {m : List (List Int × Int)} (h : MeetInv p r k m) (hk : ¬ fstF p r k < k) : mpFind (keyI p r k) m = none ∧ MeetInv p r (k + 1) (m ++ [(keyI p r k, (k : Int))]) := by
  have hkk : fstF p r k = k := by have := (fstF_spec p r k).1; omega
  refine ⟨by rw [h.2 k, if_neg hk], fun q hq => ?_, fun i => ?_⟩
  · rcases List.mem_append.1 hq with hq | hq
    · exact h.1 q hq
    · simp at hq; subst hq; rfl
  · rw [mpFind_append, h.2 i]
    by_cases e : fstF p r i < k
    · rw [if_pos e, if_pos (show fstF p r i < k + 1 by omega)]
    · rw [if_neg e]
      by_cases e2 : keyI p r i = keyI p r k
      · simp only [if_pos e2]
        rw [fstF_key e2, hkk, if_pos (show k < k + 1 by omega)]
      · simp only [if_neg e2]
        rw [if_neg]
        intro e3
        exact e2 (by rw [← (fstF_spec p r i).2.1, show fstF p r i = k by omega])

theorem keyI_eq {p r : List Nat} {i k : Nat} : keyI p r i = keyI p r k ↔ p.getD i 0 = p.getD k 0 ∧ r.getD i 0 = r.getD k 0 := by
  simp only [keyI, List.cons.injEq, and_true, Int.ofNat_inj]

def meetR (a b : List Int) : List Int × Int := if twoE a b = 0 then (nI (meetN (toN a) (toN b)), 0) else ([], twoE a b)
theorem meetN_length (p r : List Nat) : (meetN p r).length = p.length := by simp [meetN]
theorem meetN_take {p r : List Nat} {k : Nat} (hk : k < p.length) : (meetN p r).take (k + 1) = (meetN p r).take k ++ [fstF p r k] := by
  rw [List.take_succ_eq_append_getElem (by rw [meetN_length]; exact hk)]
  simp [meetN]

/-- Finer: each class lies within one. -/
def finerN (p r : List Nat) : Bool := (List.range p.length).all fun k => r.getD k 0 == r.getD (p.getD k 0) 0
def finerR (a b : List Int) : Bool := decide (twoE a b = 0) && finerN (toN a) (toN b)
theorem finerN_true {p r : List Nat} (h : ∀ k, k < p.length → r.getD k 0 = r.getD (p.getD k 0) 0) : finerN p r = true := by
  simp only [finerN, List.all_eq_true, List.mem_range, beq_iff_eq]; exact h
theorem finerN_false {p r : List Nat} {k : Nat} (hk : k < p.length) (h : r.getD k 0 ≠ r.getD (p.getD k 0) 0) : finerN p r = false := by
  cases e : finerN p r with
  | false => rfl
  | true =>
    simp only [finerN, List.all_eq_true, List.mem_range, beq_iff_eq] at e
    exact absurd (e k hk) h

theorem get_getD {p : List Nat} {i : Nat} (h : i < p.length) : p[i]? = some (p.getD i 0) := by
  rw [List.getD_eq_getElem?_getD, List.getElem?_eq_getElem h]; rfl
theorem natAt {p : List Nat} {i : Nat} (h : i < p.length) : (rowI (nI p))[(i : Int).toNat]? = some (cI (p.getD i 0 : Nat)) := map_get (nI_get (get_getD h))

end Go.Sj.Part
