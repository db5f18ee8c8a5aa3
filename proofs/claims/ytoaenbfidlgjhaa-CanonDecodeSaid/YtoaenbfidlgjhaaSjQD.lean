/-
  General parts: M2, M3, M4, M5, M7, M8, N, N2, L27, L28. No condition; nothing here names a program.
-/
import Derived.Test.YtoaenbfidlgjhaaSjQ3
import Derived.Test.YtoaenbfidlgjhaaSjQ4
import Derived.Test.YtoaenbfidlgjhaaSjQ8
set_option linter.unusedVariables false
set_option linter.unusedSimpArgs false
/-
  Partitions of small sets, as lists of numbers: plain mathematics, no program.
-/
namespace Go.Sj.Part
set_option linter.unusedVariables false
set_option linter.unusedSimpArgs false

def okB (xs : List Int) (i : Nat) : Bool := match xs[i]? with
  | some x => decide (0 ≤ x) && decide (x ≤ i) && (xs[x.toNat]? == some x)
  | none => false
/-- Whether a list is a partition. -/
def rightB (xs : List Int) : Bool := (List.range xs.length).all (okB xs)

theorem rightB_true {xs : List Int} (h : ∀ i, i < xs.length → okB xs i = true) : rightB xs = true := by
  simp only [rightB, List.all_eq_true, List.mem_range]; exact h
theorem rightB_false {xs : List Int} {i : Nat} (hi : i < xs.length) (h : okB xs i = false) : rightB xs = false := by
  cases e : rightB xs with
  | false => rfl
  | true =>
    simp only [rightB, List.all_eq_true, List.mem_range] at e
    rw [e i hi] at h; cases h
theorem okB_of {xs : List Int} {i : Nat} {x : Int} (h : xs[i]? = some x) (h0 : 0 ≤ x) (h1 : x ≤ i) (h2 : xs[x.toNat]? = some x) : okB xs i = true := by
  simp [okB, h, h0, h1, h2]
theorem okB_not {xs : List Int} {i : Nat} {x : Int} (h : xs[i]? = some x) (hn : x < 0 ∨ (i : Int) < x ∨ xs[x.toNat]? ≠ some x) : okB xs i = false := by
  simp only [okB, h]
  rcases hn with h0 | h0 | h0
  · simp [show ¬ (0 ≤ x) by omega]
  · simp [show ¬ (x ≤ (i : Int)) by omega]
  · simp [h0]

/-- The error of one partition, of two. -/
def oneE (xs : List Int) : Int := if 80 < xs.length then 3 else if rightB xs then 0 else 1
def twoE (a b : List Int) : Int := if 80 < a.length ∨ 80 < b.length then 3 else if rightB a = false ∨ rightB b = false then 1 else if a.length ≠ b.length then 20 else 0


/-! ### Forests: each element points to a lesser one or to itself -/

def rootF (p : List Nat) : Nat → Nat → Nat
  | 0, i => i
  | f + 1, i => if p.getD i 0 = i then i else rootF p f (p.getD i 0)
def root (p : List Nat) (i : Nat) : Nat := rootF p i i
def Forest (p : List Nat) : Prop := ∀ i, i < p.length → p.getD i 0 ≤ i

theorem rootF_fuel {p : List Nat} (hp : Forest p) : ∀ (f i g : Nat), i < p.length → i ≤ f → i ≤ g → rootF p f i = rootF p g i
  | 0, i, 0, _, _, _ => rfl
  | 0, i, g + 1, hi, hf, hg => by
    obtain rfl : i = 0 := by omega
    have := hp 0 hi
    simp only [rootF]
    rw [if_pos (by omega)]
  | f + 1, i, 0, hi, hf, hg => by
    obtain rfl : i = 0 := by omega
    have := hp 0 hi
    simp only [rootF]
    rw [if_pos (by omega)]
  | f + 1, i, g + 1, hi, hf, hg => by
    have := hp i hi
    simp only [rootF]
    by_cases e : p.getD i 0 = i
    · rw [if_pos e, if_pos e]
    · rw [if_neg e, if_neg e]
      exact rootF_fuel hp f _ g (by omega) (by omega) (by omega)

theorem root_self {p : List Nat} {i : Nat} (h : p.getD i 0 = i) : root p i = i := by
  unfold root
  cases i with
  | zero => rfl
  | succ i => simp only [rootF]; rw [if_pos h]
theorem root_step {p : List Nat} (hp : Forest p) {i : Nat} (hi : i < p.length) (h : p.getD i 0 ≠ i) : root p i = root p (p.getD i 0) := by
  have := hp i hi
  unfold root
  cases i with
  | zero => omega
  | succ i =>
    simp only [rootF]
    rw [if_neg h]
    exact rootF_fuel hp _ _ _ (by omega) (by omega) (by omega)
theorem root_spec {p : List Nat} (hp : Forest p) : ∀ (i : Nat), i < p.length → root p i ≤ i ∧ p.getD (root p i) 0 = root p i := by
  intro i
  induction i using Nat.strongRecOn with
  | _ i ih =>
    intro hi
    by_cases h : p.getD i 0 = i
    · rw [root_self h]; exact ⟨Nat.le_refl _, h⟩
    · have h1 := hp i hi
      rw [root_step hp hi h]
      have := ih (p.getD i 0) (by omega) (by omega)
      omega

/-- Two elements made equivalent. -/
def uniteF (p : List Nat) (a b : Nat) : List Nat := p.set (max (root p a) (root p b)) (min (root p a) (root p b))
/-- Each element points to the least one of its class. -/
def flatF (p : List Nat) : List Nat := (List.range p.length).map (root p)
/-- The same in a flat list. -/
def mergeF (p : List Nat) (a b : Nat) : List Nat := p.map fun k => if k = max (p.getD a 0) (p.getD b 0) then min (p.getD a 0) (p.getD b 0) else k

theorem getD_set {p : List Nat} {i j x : Nat} (hi : i < p.length) : (p.set i x).getD j 0 = if i = j then x else p.getD j 0 := by
  simp only [List.getD_eq_getElem?_getD, List.getElem?_set]
  by_cases e : i = j
  · subst e; simp [hi]
  · simp [e]

theorem unite_forest {p : List Nat} (hp : Forest p) {a b : Nat} (ha : a < p.length) (hb : b < p.length) : Forest (uniteF p a b) ∧ (uniteF p a b).length = p.length := by
  have h1 := root_spec hp a ha
  have h2 := root_spec hp b hb
  refine ⟨fun i hi => ?_, by simp [uniteF]⟩
  simp only [uniteF, List.length_set] at hi ⊢
  rw [getD_set (by omega)]
  split
  · omega
  · exact hp i hi

theorem root_unite {p : List Nat} (hp : Forest p) {a b : Nat} (ha : a < p.length) (hb : b < p.length) : ∀ i, i < p.length →
    root (uniteF p a b) i = if root p i = max (root p a) (root p b) then min (root p a) (root p b) else root p i := by
  have h1 := root_spec hp a ha
  have h2 := root_spec hp b hb
  obtain ⟨hf, hl⟩ := unite_forest hp ha hb
  generalize hx : root p a = x at *
  generalize hy : root p b = y at *
  have hget : ∀ j, (uniteF p a b).getD j 0 = if max x y = j then min x y else p.getD j 0 := fun j => by
    simp only [uniteF, hx, hy]; rw [getD_set (by omega)]
  have hlo : p.getD (min x y) 0 = min x y := by
    rcases Nat.le_total x y with h | h
    · rw [Nat.min_eq_left h]; exact h1.2
    · rw [Nat.min_eq_right h]; exact h2.2
  have hhi : p.getD (max x y) 0 = max x y := by
    rcases Nat.le_total x y with h | h
    · rw [Nat.max_eq_right h]; exact h2.2
    · rw [Nat.max_eq_left h]; exact h1.2
  intro i
  induction i using Nat.strongRecOn with
  | _ i ih =>
    intro hi
    by_cases hr : p.getD i 0 = i
    · rw [root_self hr]
      by_cases he : i = max x y
      · rw [if_pos he]
        by_cases hm : min x y = max x y
        · rw [root_self (by rw [hget, if_pos he.symm]; omega)]; omega
        · rw [root_step hf (by omega) (by rw [hget, if_pos he.symm]; omega), hget, if_pos he.symm]
          exact root_self (by rw [hget, if_neg (by omega)]; exact hlo)
      · rw [if_neg he]
        exact root_self (by rw [hget, if_neg (by omega)]; exact hr)
    · have hne : max x y ≠ i := fun e => hr (by rw [← e]; exact hhi)
      have hlt := hp i hi
      have hg : (uniteF p a b).getD i 0 = p.getD i 0 := by rw [hget, if_neg hne]
      rw [root_step hf (by omega) (by rw [hg]; exact hr), hg, root_step hp hi hr]
      exact ih _ (by omega) (by omega)

theorem flatF_length (p : List Nat) : (flatF p).length = p.length := by simp [flatF]
theorem flatF_get {p : List Nat} {i : Nat} (hi : i < p.length) : (flatF p).getD i 0 = root p i := by
  simp [flatF, List.getD_eq_getElem?_getD, hi]

theorem flat_unite {p : List Nat} (hp : Forest p) {a b : Nat} (ha : a < p.length) (hb : b < p.length) : flatF (uniteF p a b) = mergeF (flatF p) a b := by
  have hl := (unite_forest hp ha hb).2
  simp only [mergeF, flatF_get ha, flatF_get hb]
  simp only [flatF, hl, List.map_map]
  apply List.map_congr_left
  intro i hi
  exact root_unite hp ha hb i (by simpa using hi)

theorem range_getD {n i : Nat} (hi : i < n) : (List.range n).getD i 0 = i := by simp [List.getD_eq_getElem?_getD, hi]
theorem range_forest (n : Nat) : Forest (List.range n) := fun i hi => by
  rw [range_getD (by simpa using hi)]; exact Nat.le_refl _
theorem flat_range (n : Nat) : flatF (List.range n) = List.range n := by
  simp only [flatF, List.length_range]
  conv => rhs; rw [← List.map_id (List.range n)]
  apply List.map_congr_left
  intro i hi
  exact root_self (range_getD (by simpa using hi))

/-- After k elements have been made to point to the least ones. -/
def flatTo (p : List Nat) (k : Nat) : List Nat := (List.range p.length).map fun j => if j < k then root p j else p.getD j 0

theorem flatTo_len (p : List Nat) (k : Nat) : (flatTo p k).length = p.length := by simp [flatTo]
theorem flatTo_get {p : List Nat} {k j : Nat} (hj : j < p.length) : (flatTo p k).getD j 0 = if j < k then root p j else p.getD j 0 := by
  simp [flatTo, List.getD_eq_getElem?_getD, hj]
theorem flatTo_zero (p : List Nat) : flatTo p 0 = p := by
  apply List.ext_getElem?
  intro i
  simp only [flatTo, List.getElem?_map, List.getElem?_range']
  by_cases hi : i < p.length
  · simp [hi, List.getD_eq_getElem?_getD]
  · simp [hi]
theorem flatTo_all (p : List Nat) : flatTo p p.length = flatF p := by
  simp only [flatTo, flatF]
  apply List.map_congr_left
  intro i hi
  rw [if_pos (by simpa using hi)]
theorem flatTo_forest {p : List Nat} (hp : Forest p) (k : Nat) : Forest (flatTo p k) := fun i hi => by
  rw [flatTo_len] at hi
  rw [flatTo_get hi]
  split
  · exact (root_spec hp i hi).1
  · exact hp i hi
theorem root_flatTo {p : List Nat} (hp : Forest p) (k : Nat) : ∀ i, i < p.length → root (flatTo p k) i = root p i := by
  intro i
  induction i using Nat.strongRecOn with
  | _ i ih =>
    intro hi
    have hs := root_spec hp i hi
    by_cases hk : i < k
    · by_cases hr : root p i = i
      · rw [hr]; exact root_self (by rw [flatTo_get hi, if_pos hk, hr])
      · rw [root_step (flatTo_forest hp k) (by rw [flatTo_len]; exact hi) (by rw [flatTo_get hi, if_pos hk]; exact hr), flatTo_get hi, if_pos hk, ih _ (by omega) (by omega)]
        exact root_self hs.2
    · by_cases hr : p.getD i 0 = i
      · rw [root_self hr]; exact root_self (by rw [flatTo_get hi, if_neg hk, hr])
      · have := hp i hi
        rw [root_step (flatTo_forest hp k) (by rw [flatTo_len]; exact hi) (by rw [flatTo_get hi, if_neg hk]; exact hr), flatTo_get hi, if_neg hk, ih _ (by omega) (by omega)]
        exact (root_step hp hi hr).symm
theorem flatTo_succ {p : List Nat} (hp : Forest p) {k : Nat} (hk : k < p.length) : (flatTo p k).set k (root p k) = flatTo p (k + 1) := by
  apply List.ext_getElem?
  intro i
  rw [List.getElem?_set]
  by_cases hi : i < p.length
  · simp only [flatTo, List.getElem?_map, List.length_map, List.length_range, List.getElem?_range hi, Option.map_some]
    by_cases e : k = i
    · subst e; simp [hk]
    · rw [if_neg e]
      congr 1
      by_cases h : i < k
      · rw [if_pos h, if_pos (by omega)]
      · rw [if_neg h, if_neg (by omega)]
  · have e1 : (flatTo p k)[i]? = none := by simp [flatTo]; omega
    have e2 : (flatTo p (k + 1))[i]? = none := by simp [flatTo]; omega
    rw [e1, e2, if_neg (by omega)]

/-! ### Join -/

def joinTo (a b : List Nat) : Nat → List Nat
  | 0 => List.range a.length
  | k + 1 => mergeF (mergeF (joinTo a b k) k (a.getD k 0)) k (b.getD k 0)
def joinN (a b : List Nat) : List Nat := joinTo a b a.length

theorem mergeF_length (p : List Nat) (a b : Nat) : (mergeF p a b).length = p.length := by simp [mergeF]
theorem joinTo_length (a b : List Nat) : ∀ k, (joinTo a b k).length = a.length
  | 0 => by simp [joinTo]
  | k + 1 => by simp [joinTo, mergeF_length, joinTo_length a b k]

/-- What a list of pairs generates. -/
def genN (n : Nat) (l : List (Nat × Nat)) : List Nat := l.foldl (fun p x => mergeF p x.1 x.2) (List.range n)

/-- Numbers that are not negative, as numbers. -/
def toN (xs : List Int) : List Nat := xs.map Int.toNat
def nI (p : List Nat) : List Int := p.map Int.ofNat
theorem toN_nI (p : List Nat) : toN (nI p) = p := by
  simp only [toN, nI, List.map_map]
  conv => rhs; rw [← List.map_id p]
  rfl
theorem nI_length (p : List Nat) : (nI p).length = p.length := by simp [nI]
theorem nI_get {p : List Nat} {i x : Nat} (h : p[i]? = some x) : (nI p)[i]? = some (x : Int) := by simp [nI, h]
theorem nI_set (p : List Nat) (i x : Nat) : (nI p).set i (x : Int) = nI (p.set i x) := by simp [nI, List.map_set]

/-- A partition in the sense of the document. -/
def PartN (p : List Nat) : Prop := ∀ i, i < p.length → p.getD i 0 ≤ i ∧ p.getD (p.getD i 0) 0 = p.getD i 0

theorem right_spec {xs : List Int} (h : rightB xs = true) : xs = nI (toN xs) ∧ PartN (toN xs) := by
  simp only [rightB, List.all_eq_true, List.mem_range] at h
  have key : ∀ i, i < xs.length → ∃ x : Nat, xs[i]? = some (x : Int) ∧ x ≤ i ∧ xs[x]? = some (x : Int) := by
    intro i hi
    have := h i hi
    simp only [okB, List.getElem?_eq_getElem hi, Bool.and_eq_true, decide_eq_true_eq, beq_iff_eq] at this
    obtain ⟨⟨h0, h1⟩, h2⟩ := this
    refine ⟨xs[i].toNat, ?_, by omega, ?_⟩
    · rw [List.getElem?_eq_getElem hi]; congr 1; omega
    · rw [h2]; congr 1; omega
  refine ⟨?_, fun i hi => ?_⟩
  · apply List.ext_getElem?
    intro i
    by_cases hi : i < xs.length
    · obtain ⟨x, hx, _⟩ := key i hi
      simp [nI, toN, hx]
    · have e1 : xs[i]? = none := by simp; omega
      simp [nI, toN, e1]
  · have hl : (toN xs).length = xs.length := by simp [toN]
    obtain ⟨x, hx, hle, hxx⟩ := key i (by omega)
    have e1 : (toN xs).getD i 0 = x := by simp [toN, List.getD_eq_getElem?_getD, hx]
    have e2 : (toN xs).getD x 0 = x := by simp [toN, List.getD_eq_getElem?_getD, hxx]
    rw [e1, e2]
    exact ⟨hle, rfl⟩
theorem PartN.forest {p : List Nat} (h : PartN p) : Forest p := fun i hi => (h i hi).1

/-- Join, Meet as the program and the reference have them. -/
def joinR (a b : List Int) : List Int × Int := if twoE a b = 0 then (nI (joinN (toN a) (toN b)), 0) else ([], twoE a b)

theorem twoE_ok {a b : List Int} (h : twoE a b = 0) : a.length ≤ 80 ∧ b.length = a.length ∧ rightB a = true ∧ rightB b = true := by
  unfold twoE at h
  split at h
  · cases h
  · split at h
    · cases h
    · split at h
      · cases h
      · rename_i h1 h2 h3
        simp only [not_or, Bool.not_eq_false] at h1 h2 h3
        exact ⟨by omega, by omega, h2.1, h2.2⟩

end Go.Sj.Part

/-
  Meets and what is finer: plain mathematics, no program.
-/
namespace Go.Sj
theorem zero_of {P : Program} {t : TypeId} {z : Value} (h : (P.info? t).bind (·.zero) = some z) (w : World) : (zeroValue t).run P w = .ok z w := by
  cases e : P.info? t with
  | none => rw [e] at h; cases h
  | some i =>
    rw [e] at h
    simp only [Option.bind_some] at h
    simp [zeroValue, typeInfo, e, h]
end Go.Sj
namespace Go.Sj.Part
set_option linter.unusedVariables false
set_option linter.unusedSimpArgs false

/-- The classes of an element in two partitions. -/
def keyI (p r : List Nat) (i : Nat) : List Int := [(p.getD i 0 : Nat), (r.getD i 0 : Nat)]
/-- The first element with the same classes. -/
def fstF (p r : List Nat) (k : Nat) : Nat := ((List.range (k + 1)).find? fun j => keyI p r j == keyI p r k).getD k
def meetN (p r : List Nat) : List Nat := (List.range p.length).map (fstF p r)

theorem fstF_spec (p r : List Nat) (k : Nat) : fstF p r k ≤ k ∧ keyI p r (fstF p r k) = keyI p r k ∧ ∀ j, j < fstF p r k → keyI p r j ≠ keyI p r k := by
  unfold fstF
  cases h : (List.range (k + 1)).find? fun j => keyI p r j == keyI p r k with
  | none =>
    rw [List.find?_eq_none] at h
    have := h k (by simp)
    simp at this
  | some j =>
    rw [List.find?_eq_some_iff_getElem] at h
    obtain ⟨h1, i, hi, h2, h3⟩ := h
    simp only [List.length_range] at hi
    simp only [List.getElem_range] at h2
    subst h2
    refine ⟨by simp only [Option.getD_some]; omega, by simpa using h1, fun j hj => ?_⟩
    have := h3 j hj
    simpa using this
theorem fstF_eq {p r : List Nat} {k j : Nat} (h1 : keyI p r j = keyI p r k) (h2 : ∀ i, i < j → keyI p r i ≠ keyI p r k) : fstF p r k = j := by
  obtain ⟨a, b, c⟩ := fstF_spec p r k
  rcases Nat.lt_trichotomy (fstF p r k) j with h | h | h
  · exact absurd b (h2 _ h)
  · exact h
  · exact absurd h1 (c _ h)
theorem fstF_key {p r : List Nat} {i k : Nat} (h : keyI p r i = keyI p r k) : fstF p r i = fstF p r k := by
  obtain ⟨a, b, c⟩ := fstF_spec p r k
  exact fstF_eq (by rw [b, h]) (fun j hj => by rw [h]; exact c j hj)
theorem fstF_idem (p r : List Nat) (k : Nat) : fstF p r (fstF p r k) = fstF p r k := fstF_key (fstF_spec p r k).2.1

theorem mpFind_append (k : List Int) : ∀ (m : List (List Int × Int)) (j : List Int) (x : Int), mpFind k (m ++ [(j, x)]) = match mpFind k m with | some y => some y | none => if k = j then some x else none
  | [], j, x => by simp [mpFind]
  | (a, b) :: m, j, x => by
    simp only [List.cons_append, mpFind]
    by_cases h : k = a
    · simp [h]
    · simp only [if_neg h, mpFind_append k m j x]

/-- What the map holds ahead of element k. -/
def MeetInv (p r : List Nat) (k : Nat) (m : List (List Int × Int)) : Prop := (∀ q ∈ m, q.1.length = 2) ∧ ∀ i, mpFind (keyI p r i) m = if fstF p r i < k then some (fstF p r i : Int) else none

theorem meet_zero (p r : List Nat) : MeetInv p r 0 [] := ⟨fun _ h => by simp at h, fun i => by simp [mpFind]⟩
theorem meet_old {p r : List Nat} {k : Nat} {m : List (List Int × Int)} (h : MeetInv p r k m) (hk : fstF p r k < k) : MeetInv p r (k + 1) m := by
  refine ⟨h.1, fun i => ?_⟩
  rw [h.2 i]
  by_cases e : fstF p r i < k
  · rw [if_pos e, if_pos (by omega)]
  · rw [if_neg e, if_neg]
    intro e2
    have e3 : fstF p r i = k := by omega
    have := fstF_idem p r i
    rw [e3] at this
    omega
theorem meet_new {p r : List Nat} {k : Nat} {m : List (List Int × Int)} (h : MeetInv p r k m) (hk : ¬ fstF p r k < k) : mpFind (keyI p r k) m = none ∧ MeetInv p r (k + 1) (m ++ [(keyI p r k, (k : Int))]) := by
  have hkk : fstF p r k = k := by have := (fstF_spec p r k).1; omega
  refine ⟨by rw [h.2 k, if_neg hk], fun q hq => ?_, fun i => ?_⟩
  · rcases List.mem_append.1 hq with hq | hq
    · exact h.1 q hq
    · simp at hq; subst hq; rfl
  · rw [mpFind_append, h.2 i]
    by_cases e : fstF p r i < k
    · rw [if_pos e, if_pos (show fstF p r i < k + 1 by omega)]
    · rw [if_neg e]
      by_cases e2 : keyI p r i = keyI p r k
      · simp only [if_pos e2]
        rw [fstF_key e2, hkk, if_pos (show k < k + 1 by omega)]
      · simp only [if_neg e2]
        rw [if_neg]
        intro e3
        exact e2 (by rw [← (fstF_spec p r i).2.1, show fstF p r i = k by omega])

theorem keyI_eq {p r : List Nat} {i k : Nat} : keyI p r i = keyI p r k ↔ p.getD i 0 = p.getD k 0 ∧ r.getD i 0 = r.getD k 0 := by
  simp only [keyI, List.cons.injEq, and_true, Int.ofNat_inj]

def meetR (a b : List Int) : List Int × Int := if twoE a b = 0 then (nI (meetN (toN a) (toN b)), 0) else ([], twoE a b)
theorem meetN_length (p r : List Nat) : (meetN p r).length = p.length := by simp [meetN]
theorem meetN_take {p r : List Nat} {k : Nat} (hk : k < p.length) : (meetN p r).take (k + 1) = (meetN p r).take k ++ [fstF p r k] := by
  rw [List.take_succ_eq_append_getElem (by rw [meetN_length]; exact hk)]
  simp [meetN]

/-- Finer: each class lies within one. -/
def finerN (p r : List Nat) : Bool := (List.range p.length).all fun k => r.getD k 0 == r.getD (p.getD k 0) 0
def finerR (a b : List Int) : Bool := decide (twoE a b = 0) && finerN (toN a) (toN b)
theorem finerN_true {p r : List Nat} (h : ∀ k, k < p.length → r.getD k 0 = r.getD (p.getD k 0) 0) : finerN p r = true := by
  simp only [finerN, List.all_eq_true, List.mem_range, beq_iff_eq]; exact h
theorem finerN_false {p r : List Nat} {k : Nat} (hk : k < p.length) (h : r.getD k 0 ≠ r.getD (p.getD k 0) 0) : finerN p r = false := by
  cases e : finerN p r with
  | false => rfl
  | true =>
    simp only [finerN, List.all_eq_true, List.mem_range, beq_iff_eq] at e
    exact absurd (e k hk) h

theorem get_getD {p : List Nat} {i : Nat} (h : i < p.length) : p[i]? = some (p.getD i 0) := by
  rw [List.getD_eq_getElem?_getD, List.getElem?_eq_getElem h]; rfl
theorem natAt {p : List Nat} {i : Nat} (h : i < p.length) : (rowI (nI p))[(i : Int).toNat]? = some (cI (p.getD i 0 : Nat)) := map_get (nI_get (get_getD h))

end Go.Sj.Part

/-
  What pairs generate; all partitions; quotients: plain mathematics, no program.
-/
namespace Go.Sj
theorem fzl_append {v : Value} {sz : Nat} {es : List (List AV)} : ∀ (l : List AV) {a b : List AV}, FZL v sz es a b → FZL v sz es (l ++ a) (l ++ b)
  | [], _, _, h => h
  | x :: l, _, _, h => ⟨.refl x, fzl_append l h⟩
theorem fzl_snoc {v : Value} {sz : Nat} {es A : List (List AV)} {x y : AV} (h : FZ v sz es x y) : FZL v sz es (A ++ [[x]]).flatten (A ++ [[y]]).flatten := by
  rw [List.flatten_append, List.flatten_append]
  exact fzl_append _ ⟨h, trivial⟩
/-- The last of the rows of a row changes no more. -/
theorem fzo_snoc {v u : Value} {sz E : Nat} {es A : List (List AV)} {x y : AV} (hA : ∀ a ∈ A, a.length = 1) (h : FZ v sz es x y) : FZO v sz es [(u, .row E 1 (A ++ [[x]]))] [(u, .row E 1 (A ++ [[y]]))] :=
  ⟨rfl, rfl, rfl, by simp, fun a ha => by
    rcases List.mem_append.1 ha with ha | ha
    · exact hA a ha
    · simp at ha; subst ha; rfl, fzl_snoc h, trivial⟩
end Go.Sj
namespace Go.Sj.Part
set_option linter.unusedVariables false
set_option linter.unusedSimpArgs false

def cP (q : Int × Int) : List AV := [AI q.1, AI q.2]
abbrev pairsA (l : List (Int × Int)) : AV := .im 2 (l.map cP)

def badP (n : Int) (q : Int × Int) : Bool := decide (q.1 < 0) || decide (n ≤ q.1) || decide (q.2 < 0) || decide (n ≤ q.2)
def prN (l : List (Int × Int)) : List (Nat × Nat) := l.map fun q => (q.1.toNat, q.2.toNat)
def genR (n : Int) (l : List (Int × Int)) : List Int × Int :=
  if 80 < n then ([], 3) else if n < 0 then ([], 6) else if l.any (badP n) then ([], 6) else (nI (genN n.toNat (prN l)), 0)

theorem genN_snoc (n : Nat) (l : List (Nat × Nat)) (q : Nat × Nat) : genN n (l ++ [q]) = mergeF (genN n l) q.1 q.2 := by
  simp [genN, List.foldl_append]
theorem genN_length (n : Nat) (l : List (Nat × Nat)) : (genN n l).length = n := by
  suffices ∀ p : List Nat, (l.foldl (fun p x => mergeF p x.1 x.2) p).length = p.length by
    rw [genN, this]; simp
  induction l with
  | nil => intro p; rfl
  | cons q l ih => intro p; rw [List.foldl_cons, ih, mergeF_length]
theorem prN_take {l : List (Int × Int)} {k : Nat} {q : Int × Int} (h : l[k]? = some q) : prN (l.take (k + 1)) = prN (l.take k) ++ [(q.1.toNat, q.2.toNat)] := by
  have : l.take (k + 1) = l.take k ++ [q] := by
    obtain ⟨hk, rfl⟩ := List.getElem?_eq_some_iff.1 h
    exact List.take_succ_eq_append_getElem hk
  rw [this]; simp [prN]

/-! ### All partitions -/

/-- One row and what may follow it at element i. -/
def nextRow (i : Nat) (row : List Nat) (v : Nat) : Bool := v == i || row.getD v 0 == v
def nextTo (i : Nat) (row : List Nat) (k : Nat) : List (List Nat) := ((List.range k).filter (nextRow i row)).map fun v => row ++ [v]
def nextAll (i : Nat) (rows : List (List Nat)) : List (List Nat) := rows.flatMap fun row => nextTo i row (i + 1)
def allTo : Nat → List (List Nat)
  | 0 => [[]]
  | i + 1 => nextAll i (allTo i)
def cR (row : List Nat) : List AV := [ints (nI row)]
abbrev rowsA (l : List (List Nat)) : AV := .im 1 (l.map cR)
def allR (n : Int) : List (List Nat) × Int := if 7 < n then ([], 3) else if n < 0 then ([], 6) else (allTo n.toNat, 0)

theorem nextTo_succ (i : Nat) (row : List Nat) (k : Nat) : nextTo i row (k + 1) = nextTo i row k ++ if nextRow i row k then [row ++ [k]] else [] := by
  simp only [nextTo, List.range_succ, List.filter_append, List.map_append]
  congr 1
  by_cases h : nextRow i row k = true
  · simp [h]
  · simp [h]
theorem nextTo_length (i : Nat) (row : List Nat) (k : Nat) : (nextTo i row k).length ≤ k := by
  simp only [nextTo, List.length_map]
  exact Nat.le_trans (List.length_filter_le _ _) (by simp)
theorem nextAll_snoc (i : Nat) (rows : List (List Nat)) (row : List Nat) : nextAll i (rows ++ [row]) = nextAll i rows ++ nextTo i row (i + 1) := by
  simp [nextAll]
theorem nextAll_length (i : Nat) (rows : List (List Nat)) : (nextAll i rows).length ≤ rows.length * (i + 1) := by
  induction rows with
  | nil => simp [nextAll]
  | cons r rows ih =>
    have := nextTo_length i r (i + 1)
    simp only [nextAll, List.flatMap_cons, List.length_append, List.length_cons] at ih ⊢
    rw [Nat.succ_mul]
    omega
theorem allTo_length : ∀ i, ∀ r ∈ allTo i, r.length = i
  | 0, r, h => by simp [allTo] at h; simp [h]
  | i + 1, r, h => by
    simp only [allTo, nextAll, List.mem_flatMap, nextTo, List.mem_map] at h
    obtain ⟨row, h1, v, h2, rfl⟩ := h
    simp [allTo_length i row h1]
theorem allTo_small (i : Nat) (h : i ≤ 7) : (allTo i).length ≤ 877 := by
  have : ∀ i : Fin 8, (allTo i.1).length ≤ 877 := by decide +kernel
  exact this ⟨i, by omega⟩

end Go.Sj.Part

/-
  Quotients and classes of a partition: plain mathematics; many rows that change no more.
-/
namespace Go.Sj.Part
set_option linter.unusedVariables false
set_option linter.unusedSimpArgs false

/-- The least elements of the classes, below k. -/
def repsTo (p : List Nat) (k : Nat) : List Nat := (List.range k).filter fun j => p.getD j 0 == j
def cnt (p : List Nat) (k : Nat) : Nat := (repsTo p k).length
def quoN (p : List Nat) : List Nat := (List.range p.length).map fun i => cnt p (p.getD i 0)
def clsN (p : List Nat) : List (List Nat) := (repsTo p p.length).map fun i => (List.range p.length).filter fun j => p.getD j 0 == i

theorem repsTo_succ (p : List Nat) (k : Nat) : repsTo p (k + 1) = repsTo p k ++ if p.getD k 0 = k then [k] else [] := by
  simp only [repsTo, List.range_succ, List.filter_append]
  congr 1
  by_cases h : p.getD k 0 = k
  · simp only [if_pos h]; simp [← List.getD_eq_getElem?_getD, h]
  · simp only [if_neg h]; simp [← List.getD_eq_getElem?_getD, h]
theorem cnt_succ (p : List Nat) (k : Nat) : cnt p (k + 1) = cnt p k + if p.getD k 0 = k then 1 else 0 := by
  simp only [cnt, repsTo_succ, List.length_append]
  split <;> simp
theorem cnt_le (p : List Nat) (k : Nat) : cnt p k ≤ k := by
  induction k with
  | zero => simp [cnt, repsTo]
  | succ k ih => rw [cnt_succ]; split <;> omega
theorem cnt_mono (p : List Nat) {j k : Nat} (h : j ≤ k) : cnt p j ≤ cnt p k := by
  induction k with
  | zero => obtain rfl : j = 0 := by omega
            exact Nat.le_refl _
  | succ k ih =>
    rcases Nat.lt_or_ge k j with h1 | h1
    · obtain rfl : j = k + 1 := by omega
      exact Nat.le_refl _
    · have := ih h1
      rw [cnt_succ]; omega
theorem quoN_length (p : List Nat) : (quoN p).length = p.length := by simp [quoN]
theorem quoN_get {p : List Nat} {i : Nat} (h : i < p.length) : (quoN p)[i]? = some (cnt p (p.getD i 0)) := by
  simp [quoN, h]
theorem quoN_take {p : List Nat} {k : Nat} (h : k < p.length) : (quoN p).take (k + 1) = (quoN p).take k ++ [cnt p (p.getD k 0)] := by
  rw [List.take_succ_eq_append_getElem (by rw [quoN_length]; exact h)]
  simp [quoN]
theorem cnt_lt {p : List Nat} {r k : Nat} (h : r < k) (hr : p.getD r 0 = r) : cnt p r < cnt p k := by
  have h1 := cnt_succ p r
  rw [if_pos hr] at h1
  have h2 := cnt_mono p (show r + 1 ≤ k by omega)
  omega

theorem reps_get {p : List Nat} {n r : Nat} (h : r < n) (hr : p.getD r 0 = r) : (repsTo p n)[cnt p r]? = some r := by
  induction n with
  | zero => omega
  | succ n ih =>
    rw [repsTo_succ]
    rcases Nat.lt_or_ge r n with h1 | h1
    · have h2 := cnt_lt h1 hr
      rw [List.getElem?_append_left (by simpa [cnt] using h2)]
      exact ih h1
    · obtain rfl : r = n := by omega
      rw [if_pos hr, List.getElem?_append_right (by simp [cnt])]
      simp [cnt]
theorem reps_mem {p : List Nat} {n c r : Nat} (h : (repsTo p n)[c]? = some r) : r < n ∧ p.getD r 0 = r := by
  have := List.mem_of_getElem? h
  simp only [repsTo, List.mem_filter, List.mem_range, beq_iff_eq] at this
  exact this
theorem reps_cnt {p : List Nat} {n c r : Nat} (h : (repsTo p n)[c]? = some r) : cnt p r = c := by
  induction n with
  | zero => simp [repsTo] at h
  | succ n ih =>
    rw [repsTo_succ] at h
    by_cases hc : c < (repsTo p n).length
    · rw [List.getElem?_append_left hc] at h
      exact ih h
    · rw [List.getElem?_append_right (by omega)] at h
      split at h
      · have h2 := (List.getElem?_eq_some_iff.1 h).1
        simp at h2
        rw [show c - (repsTo p n).length = 0 by omega] at h
        simp at h
        subst h
        simp only [cnt]; omega
      · simp at h

/-- The classes as the program gathers them: by the numbers of the classes. -/
def gathTo (p : List Nat) (n k : Nat) : List (List Nat) := (List.range n).map fun c => (List.range k).filter fun j => cnt p (p.getD j 0) == c
theorem gathTo_length (p : List Nat) (n k : Nat) : (gathTo p n k).length = n := by simp [gathTo]
theorem gath_all {p : List Nat} (hp : PartN p) : gathTo p (cnt p p.length) p.length = clsN p := by
  apply List.ext_getElem?
  intro c
  simp only [gathTo, clsN, List.getElem?_map]
  by_cases hc : c < cnt p p.length
  · rw [List.getElem?_range hc]
    have hc' : c < (repsTo p p.length).length := hc
    rw [List.getElem?_eq_getElem hc']
    simp only [Option.map_some]
    congr 1
    apply List.filter_congr
    intro j hj
    rw [List.mem_range] at hj
    have h1 := hp j hj
    have h3 : (repsTo p p.length)[c]? = some (repsTo p p.length)[c] := List.getElem?_eq_getElem hc'
    generalize (repsTo p p.length)[c] = r at h3
    have h2 := reps_get (n := p.length) (show p.getD j 0 < p.length by omega) h1.2
    by_cases e : p.getD j 0 = r
    · rw [e, reps_cnt h3]; simp
    · have : cnt p (p.getD j 0) ≠ c := by
        intro e2
        rw [e2, h3] at h2
        exact e (by simpa using h2.symm)
      rw [beq_eq_false_iff_ne.2 this, beq_eq_false_iff_ne.2 e]
  · rw [List.getElem?_eq_none (by simp; omega), List.getElem?_eq_none (by simpa [cnt] using hc)]
    rfl
theorem gath_succ {p : List Nat} {n k : Nat} (h : cnt p (p.getD k 0) < n) : gathTo p n (k + 1) = (gathTo p n k).set (cnt p (p.getD k 0)) ((gathTo p n k).getD (cnt p (p.getD k 0)) [] ++ [k]) := by
  apply List.ext_getElem?
  intro c
  rw [List.getElem?_set]
  by_cases hc : c < n
  · have g : ∀ m, (gathTo p n m)[c]? = some ((List.range m).filter fun j => cnt p (p.getD j 0) == c) := fun m => by simp [gathTo, hc]
    by_cases e : cnt p (p.getD k 0) = c
    · rw [if_pos e, if_pos (by rw [gathTo_length]; omega), g, List.getD_eq_getElem?_getD, e, g]
      simp [List.range_succ, List.filter_append, ← List.getD_eq_getElem?_getD, e]
    · rw [if_neg e, g, g]
      simp [List.range_succ, List.filter_append, ← List.getD_eq_getElem?_getD, e]
  · rw [List.getElem?_eq_none (by rw [gathTo_length]; omega), if_neg (by omega), List.getElem?_eq_none (by rw [gathTo_length]; omega)]
theorem gath_zero (p : List Nat) (n : Nat) : gathTo p n 0 = List.replicate n [] := by
  apply List.ext_getElem?
  intro i
  by_cases h : i < n
  · simp [gathTo, h]
  · rw [List.getElem?_eq_none (by simp [gathTo]; omega), List.getElem?_eq_none (by simp; omega)]

def quoR (a : List Int) : List Int × Int × Int := if oneE a = 0 then (nI (quoN (toN a)), cnt (toN a) a.length, 0) else ([], 0, oneE a)
def clsR (a : List Int) : List (List Nat) × Int := if oneE a = 0 then (clsN (toN a), 0) else ([], oneE a)
theorem oneE_ok {a : List Int} (h : oneE a = 0) : a.length ≤ 80 ∧ rightB a = true := by
  unfold oneE at h
  split at h
  · cases h
  · split at h
    · rename_i h1 h2; exact ⟨by omega, h2⟩
    · cases h
end Go.Sj.Part

/-
  Difference constraints: walks, potentials, the in-place relaxation: plain mathematics, no program.
-/
namespace Go.Sj.Dif
set_option linter.unusedVariables false
set_option linter.unusedSimpArgs false
set_option linter.unusedSectionVars false

/-- An arc: the test and the sign of its use, its places, its number. -/
structure Ar where
  u : Int
  s : Int
  f : Nat
  t : Nat
  c : Int
  deriving DecidableEq

def Sol (l : List Ar) (v : Nat → Int) : Prop := ∀ a ∈ l, v a.f ≤ v a.t + a.c
def Sat (l : List Ar) : Prop := ∃ v, Sol l v
def Inr (N : Nat) (l : List Ar) : Prop := ∀ a ∈ l, a.f < N ∧ a.t < N

def Wk (l : List Ar) : Nat → List Ar → Nat → Prop
  | i, [], j => i = j
  | i, a :: w, j => a ∈ l ∧ a.f = i ∧ Wk l a.t w j
def wt : List Ar → Int
  | [] => 0
  | a :: w => a.c + wt w
theorem wt_append : ∀ (w u : List Ar), wt (w ++ u) = wt w + wt u
  | [], u => by simp [wt]
  | a :: w, u => by simp only [List.cons_append, wt, wt_append w u]; omega
theorem wk_append {l : List Ar} : ∀ {w u : List Ar} {i j k : Nat}, Wk l i w j → Wk l j u k → Wk l i (w ++ u) k
  | [], u, i, j, k, h, h2 => by simp only [Wk] at h; subst h; exact h2
  | a :: w, u, i, j, k, ⟨h1, h2, h3⟩, h4 => ⟨h1, h2, wk_append h3 h4⟩
theorem sol_walk {l : List Ar} {v : Nat → Int} (h : Sol l v) : ∀ {w : List Ar} {i j : Nat}, Wk l i w j → v i ≤ v j + wt w
  | [], i, j, h => by simp only [Wk] at h; subst h; simp [wt]
  | a :: w, i, j, ⟨h1, h2, h3⟩ => by
    have := sol_walk h h3
    have h4 := h a h1
    subst h2
    simp only [wt]; omega
theorem sat_closed {l : List Ar} (h : Sat l) {w : List Ar} {i : Nat} (hw : Wk l i w i) : 0 ≤ wt w := by
  obtain ⟨v, hv⟩ := h
  have := sol_walk hv hw
  omega

/-- The place behind k arcs. -/
def plc : Nat → List Ar → Nat → Nat
  | i, _, 0 => i
  | i, [], _ + 1 => i
  | _, a :: w, k + 1 => plc a.t w k
theorem wk_split {l : List Ar} : ∀ (k : Nat) {w : List Ar} {i j : Nat}, k ≤ w.length → Wk l i w j → Wk l i (w.take k) (plc i w k) ∧ Wk l (plc i w k) (w.drop k) j
  | 0, w, i, j, _, h => by simp only [List.take_zero, List.drop_zero, plc]; exact ⟨rfl, h⟩
  | k + 1, [], i, j, hk, h => by simp at hk
  | k + 1, a :: w, i, j, hk, ⟨h1, h2, h3⟩ => by
    obtain ⟨k1, k2⟩ := wk_split k (by simpa using hk) h3
    simp only [List.take_succ_cons, List.drop_succ_cons, plc]
    exact ⟨⟨h1, h2, k1⟩, k2⟩
theorem plc_drop : ∀ (a b : Nat) (w : List Ar) (i : Nat), a ≤ w.length → plc (plc i w a) (w.drop a) b = plc i w (a + b)
  | 0, b, w, i, _ => by simp [plc]
  | a + 1, b, [], i, h => by simp at h
  | a + 1, b, x :: w, i, h => by
    simp only [plc, List.drop_succ_cons]
    rw [plc_drop a b w x.t (by simpa using h), show a + 1 + b = (a + b) + 1 by omega]
    rfl
theorem plc_lt {N : Nat} {l : List Ar} (hl : Inr N l) : ∀ (k : Nat) {w : List Ar} {i j : Nat}, i < N → Wk l i w j → plc i w k < N
  | 0, w, i, j, hi, _ => by simpa [plc] using hi
  | k + 1, [], i, j, hi, _ => by simpa [plc] using hi
  | k + 1, a :: w, i, j, hi, ⟨h1, h2, h3⟩ => by
    simp only [plc]
    exact plc_lt hl k (hl a h1).2 h3
theorem pigeon : ∀ (N : Nat) (f : Nat → Nat), (∀ k, k ≤ N → f k < N) → ∃ a b, a < b ∧ b ≤ N ∧ f a = f b
  | 0, f, h => by have := h 0 (Nat.le_refl _); omega
  | N + 1, f, h => by
    by_cases hx : ∃ a, a ≤ N ∧ f a = f (N + 1)
    · obtain ⟨a, ha, he⟩ := hx
      exact ⟨a, N + 1, by omega, Nat.le_refl _, he⟩
    · have hne : ∀ a, a ≤ N → f a ≠ f (N + 1) := fun a ha he => hx ⟨a, ha, he⟩
      have hl := h (N + 1) (Nat.le_refl _)
      obtain ⟨a, b, h1, h2, h3⟩ := pigeon N (fun k => if f k = N then f (N + 1) else f k) (fun k hk => by
        have h4 := h k (by omega)
        have h5 := hne k hk
        by_cases e : f k = N
        · simp only [if_pos e]; omega
        · simp only [if_neg e]; omega)
      refine ⟨a, b, h1, by omega, ?_⟩
      have ha := hne a (by omega)
      have hb := hne b (by omega)
      by_cases e1 : f a = N <;> by_cases e2 : f b = N
      · omega
      · simp only [if_pos e1, if_neg e2] at h3; exact absurd h3.symm hb
      · simp only [if_neg e1, if_pos e2] at h3; exact absurd h3 ha
      · simpa only [if_neg e1, if_neg e2] using h3

/-- A long walk goes through a short closed one. -/
theorem wk_loop {N : Nat} {l : List Ar} (hl : Inr N l) {w : List Ar} {i j : Nat} (hi : i < N) (hw : Wk l i w j) (hlen : N ≤ w.length) :
    ∃ w1 w2 w3 k, w = w1 ++ (w2 ++ w3) ∧ w2 ≠ [] ∧ w2.length ≤ N ∧ k < N ∧ Wk l i w1 k ∧ Wk l k w2 k ∧ Wk l k w3 j := by
  obtain ⟨a, b, h1, h2, h3⟩ := pigeon N (plc i w) (fun k _ => plc_lt hl k hi hw)
  obtain ⟨s1, s2⟩ := wk_split a (by omega) hw
  obtain ⟨s3, s4⟩ := wk_split (w := w.drop a) (b - a) (by simp; omega) s2
  rw [plc_drop a (b - a) w i (by omega), show a + (b - a) = b by omega, ← h3] at s3 s4
  refine ⟨_, _, _, _, ?_, ?_, ?_, plc_lt hl a hi hw, s1, s3, s4⟩
  · rw [List.take_append_drop, List.take_append_drop]
  · intro e
    have := congrArg List.length e
    simp at this
    omega
  · simp; omega

def NonNeg (N : Nat) (l : List Ar) : Prop := ∀ (k : Nat) (w : List Ar), k < N → Wk l k w k → w.length ≤ N → 0 ≤ wt w

theorem shorten {N : Nat} {l : List Ar} (hl : Inr N l) (H : NonNeg N l) : ∀ (n : Nat) (w : List Ar), w.length ≤ n → ∀ {i j : Nat}, i < N → Wk l i w j → ∃ w', Wk l i w' j ∧ w'.length < N ∧ wt w' ≤ wt w
  | 0, w, hn, i, j, hi, hw => ⟨w, hw, by omega, Int.le_refl _⟩
  | n + 1, w, hn, i, j, hi, hw => by
    by_cases hlen : w.length < N
    · exact ⟨w, hw, hlen, Int.le_refl _⟩
    · obtain ⟨w1, w2, w3, k, rfl, h1, h2, hk, h3, h4, h5⟩ := wk_loop hl hi hw (by omega)
      have h6 := H k w2 hk h4 h2
      have h7 : 0 < w2.length := List.length_pos_iff.2 h1
      obtain ⟨w', k1, k2, k3⟩ := shorten hl H n (w1 ++ w3) (by simp at hn ⊢; omega) hi (wk_append h3 h5)
      refine ⟨w', k1, k2, ?_⟩
      rw [wt_append] at k3
      rw [wt_append, wt_append]
      omega

/-- The least weights of walks from each place. -/
def IsMin (N : Nat) (l : List Ar) (d : Nat → Int) : Prop := ∀ i, i < N → (∃ w j, Wk l i w j ∧ wt w = d i) ∧ ∀ w j, Wk l i w j → d i ≤ wt w
theorem isMin_unique {N : Nat} {l : List Ar} {d e : Nat → Int} (h : IsMin N l d) (k : IsMin N l e) : ∀ i, i < N → d i = e i := fun i hi => by
  obtain ⟨⟨w, j, h1, h2⟩, h3⟩ := h i hi
  obtain ⟨⟨w', j', k1, k2⟩, k3⟩ := k i hi
  have := h3 w' j' k1
  have := k3 w j h1
  omega
theorem isMin_sol {N : Nat} {l : List Ar} (hl : Inr N l) {d : Nat → Int} (h : IsMin N l d) : Sol l d := fun a ha => by
  obtain ⟨h1, h2⟩ := hl a ha
  obtain ⟨w, j, h3, h4⟩ := (h a.t h2).1
  have := (h a.f h1).2 (a :: w) j ⟨ha, rfl, h3⟩
  simp only [wt] at this
  omega

/-! ### The relaxation in place -/

def gd (d : List Int) (i : Nat) : Int := d.getD i 0
theorem gd_set {d : List Int} {i j : Nat} {x : Int} (hi : i < d.length) : gd (d.set i x) j = if i = j then x else gd d j := by
  simp only [gd, List.getD_eq_getElem?_getD, List.getElem?_set]
  by_cases e : i = j
  · subst e; simp [hi]
  · simp [e]
def rel1 (d : List Int) (a : Ar) : List Int := if gd d a.t + a.c < gd d a.f then d.set a.f (gd d a.t + a.c) else d
def chg1 (d : List Int) (a : Ar) : Bool := decide (gd d a.t + a.c < gd d a.f)
/-- A round: the distances, and whether something was changed. -/
def rnd : List Ar → List Int × Bool → List Int × Bool
  | [], p => p
  | a :: l, (d, b) => rnd l (rel1 d a, b || chg1 d a)
def bf (l : List Ar) : Nat → List Int → Option (List Int)
  | 0, _ => none
  | k + 1, d => let p := rnd l (d, false); if p.2 then bf l k p.1 else some p.1

theorem rel1_length (d : List Int) (a : Ar) : (rel1 d a).length = d.length := by
  unfold rel1; split <;> simp
theorem rnd_length : ∀ (l : List Ar) (p : List Int × Bool), (rnd l p).1.length = p.1.length
  | [], p => rfl
  | a :: l, (d, b) => by rw [rnd, rnd_length l, rel1_length]
theorem rel1_get {d : List Int} {a : Ar} (ha : a.f < d.length) (i : Nat) : gd (rel1 d a) i = if i = a.f ∧ gd d a.t + a.c < gd d a.f then gd d a.t + a.c else gd d i := by
  unfold rel1
  by_cases h : gd d a.t + a.c < gd d a.f
  · rw [if_pos h, gd_set ha]
    by_cases e : a.f = i
    · rw [if_pos e, if_pos ⟨e.symm, h⟩]
    · rw [if_neg e, if_neg (fun k => e k.1.symm)]
  · rw [if_neg h, if_neg (fun k => h k.2)]
theorem rel1_le {d : List Int} {a : Ar} (ha : a.f < d.length) (i : Nat) : gd (rel1 d a) i ≤ gd d i := by
  rw [rel1_get ha]
  split
  · rename_i h; rw [h.1]; omega
  · omega
theorem rel1_arc {d : List Int} {a : Ar} (ha : a.f < d.length) : gd (rel1 d a) a.f ≤ gd d a.t + a.c := by
  rw [rel1_get ha]
  split
  · omega
  · rename_i h; simp only [true_and] at h; omega
theorem chg1_false {d : List Int} {a : Ar} (h : chg1 d a = false) : rel1 d a = d ∧ gd d a.f ≤ gd d a.t + a.c := by
  simp only [chg1, decide_eq_false_iff_not] at h
  exact ⟨by simp [rel1, h], by omega⟩

theorem rnd_mono : ∀ (l : List Ar) (p : List Int × Bool), p.2 = true → (rnd l p).2 = true
  | [], p, h => h
  | a :: l, (d, b), h => by
    simp only at h; subst h
    rw [rnd]; exact rnd_mono l _ rfl
theorem rnd_same : ∀ (l : List Ar) (d : List Int), (rnd l (d, false)).2 = false → (rnd l (d, false)).1 = d ∧ Sol l (gd d)
  | [], d, _ => ⟨rfl, fun a h => by simp at h⟩
  | a :: l, d, h => by
    rw [rnd] at h ⊢
    by_cases e : chg1 d a = true
    · rw [e, Bool.or_true, rnd_mono l _ rfl] at h
      cases h
    · have e' : chg1 d a = false := by simpa using e
      obtain ⟨h1, h2⟩ := chg1_false e'
      rw [h1, e', Bool.or_false] at h ⊢
      obtain ⟨h3, h4⟩ := rnd_same l d h
      refine ⟨h3, fun b hb => ?_⟩
      rcases List.mem_cons.1 hb with rfl | hb
      · exact h2
      · exact h4 b hb
theorem rnd_sol : ∀ (l : List Ar) (d : List Int), Sol l (gd d) → (rnd l (d, false)).2 = false
  | [], d, _ => rfl
  | a :: l, d, h => by
    have h1 := h a (by simp)
    have e : chg1 d a = false := by simp only [chg1, decide_eq_false_iff_not]; omega
    rw [rnd, (chg1_false e).1, e]
    exact rnd_sol l d fun b hb => h b (by simp [hb])

section
variable {N : Nat} {l : List Ar} (hl : Inr N l)
include hl
/-- A round over part of the arcs. -/
theorem rnd_part : ∀ (m : List Ar) (p : List Int × Bool), (∀ a ∈ m, a ∈ l) → p.1.length = N →
    (∀ i, gd (rnd m p).1 i ≤ gd p.1 i) ∧ (∀ a ∈ m, gd (rnd m p).1 a.f ≤ gd p.1 a.t + a.c) ∧
    ((∀ i, i < N → ∃ w j, Wk l i w j ∧ wt w = gd p.1 i) → ∀ i, i < N → ∃ w j, Wk l i w j ∧ wt w = gd (rnd m p).1 i)
  | [], p, _, _ => ⟨fun i => Int.le_refl _, fun a h => by simp at h, fun h => h⟩
  | a :: m, (d, b), hm, hn => by
    have ha := hl a (hm a (by simp))
    simp only at hn
    have haf : a.f < d.length := by omega
    obtain ⟨h1, h2, h3⟩ := rnd_part m (rel1 d a, b || chg1 d a) (fun x hx => hm x (by simp [hx])) (by rw [rel1_length]; exact hn)
    rw [rnd]
    refine ⟨fun i => Int.le_trans (h1 i) (rel1_le haf i), fun x hx => ?_, fun hw => h3 fun i hi => ?_⟩
    · rcases List.mem_cons.1 hx with rfl | hx
      · exact Int.le_trans (h1 _) (rel1_arc haf)
      · have := h2 x hx
        have := rel1_le (d := d) (a := a) haf x.t
        simp only at *
        omega
    · simp only
      rw [rel1_get haf]
      split
      · rename_i h
        obtain ⟨w, j, k1, k2⟩ := hw a.t ha.2
        refine ⟨a :: w, j, ⟨hm a (by simp), h.1.symm, k1⟩, ?_⟩
        simp only [wt, k2]; omega
      · exact hw i hi

def Low (l : List Ar) (N k : Nat) (d : List Int) : Prop := d.length = N ∧ (∀ i, gd d i ≤ 0) ∧ (∀ i, i < N → ∃ w j, Wk l i w j ∧ wt w = gd d i) ∧ ∀ i w j, i < N → Wk l i w j → w.length ≤ k → gd d i ≤ wt w
theorem low_zero : Low l N 0 (List.replicate N 0) := by
  have g : ∀ i, gd (List.replicate N 0) i = 0 := fun i => by
    simp only [gd, List.getD_eq_getElem?_getD, List.getElem?_replicate]
    split <;> rfl
  refine ⟨by simp, fun i => by rw [g]; omega, fun i _ => ⟨[], i, rfl, by rw [g]; rfl⟩, fun i w j _ hw hk => ?_⟩
  obtain rfl : w = [] := List.length_eq_zero_iff.1 (by omega)
  rw [g]; simp [wt]
theorem low_succ {k : Nat} {d : List Int} {b : Bool} (h : Low l N k d) : Low l N (k + 1) (rnd l (d, b)).1 := by
  obtain ⟨h0, h1, h2, h3⟩ := h
  obtain ⟨k1, k2, k3⟩ := rnd_part hl l (d, b) (fun _ h => h) h0
  refine ⟨by rw [rnd_length]; exact h0, fun i => Int.le_trans (k1 i) (h1 i), k3 h2, fun i w j hi hw hk => ?_⟩
  cases w with
  | nil => exact Int.le_trans (k1 i) (Int.le_trans (h3 i [] j hi hw (by simp)) (Int.le_refl _))
  | cons a w =>
    obtain ⟨e1, rfl, e3⟩ := hw
    have h4 := k2 a e1
    have h5 := h3 a.t w j (hl a e1).2 e3 (by simpa using hk)
    simp only [wt] at *
    omega
theorem low_min {d : List Int} {k : Nat} (h : Low l N k d) (hs : Sol l (gd d)) : IsMin N l (gd d) := fun i hi => by
  refine ⟨h.2.2.1 i hi, fun w j hw => ?_⟩
  have := sol_walk hs hw
  have := h.2.1 j
  omega
theorem low_full (H : NonNeg N l) {k : Nat} (hk : N ≤ k + 1) {d : List Int} (h : Low l N k d) : IsMin N l (gd d) := fun i hi => by
  refine ⟨h.2.2.1 i hi, fun w j hw => ?_⟩
  obtain ⟨w', h1, h2, h3⟩ := shorten hl H w.length w (Nat.le_refl _) hi hw
  have := h.2.2.2 i w' j hi h1 (by omega)
  omega
theorem bf_some : ∀ (k m : Nat) (d e : List Int), Low l N m d → bf l k d = some e → (∃ m', Low l N m' e) ∧ Sol l (gd e)
  | 0, m, d, e, _, h => by cases h
  | k + 1, m, d, e, hlow, h => by
    simp only [bf] at h
    by_cases hc : (rnd l (d, false)).2 = true
    · rw [if_pos hc] at h
      exact bf_some k (m + 1) _ e (low_succ hl hlow) h
    · rw [if_neg hc] at h
      simp only [Option.some.injEq] at h
      obtain ⟨h1, h2⟩ := rnd_same l d (by simpa using hc)
      rw [h1] at h
      subst h
      exact ⟨⟨m, hlow⟩, h2⟩
theorem bf_isSome (H : NonNeg N l) : ∀ (k m : Nat) (d : List Int), Low l N m d → 0 < k → N ≤ m + k → (bf l k d).isSome = true
  | 0, m, d, _, h, _ => by omega
  | k + 1, m, d, hlow, _, hk => by
    simp only [bf]
    by_cases hc : (rnd l (d, false)).2 = true
    · rw [if_pos hc]
      by_cases hn : N ≤ m + 1
      · have := rnd_sol l d (isMin_sol hl (low_full hl H hn hlow))
        rw [this] at hc; cases hc
      · exact bf_isSome H k (m + 1) _ (low_succ hl hlow) (by omega) (by omega)
    · rw [if_neg hc]; rfl
theorem sat_of_nonneg (H : NonNeg N l) : Sat l := by
  have h := bf_isSome hl H (N + 1) 0 _ (low_zero hl) (by omega) (by omega)
  cases e : bf l (N + 1) (List.replicate N 0) with
  | none => rw [e] at h; cases h
  | some d => exact ⟨_, (bf_some hl _ _ _ _ (low_zero hl) e).2⟩
theorem nonneg_iff : NonNeg N l ↔ Sat l := ⟨sat_of_nonneg hl, fun h k w _ hw _ => sat_closed h hw⟩
/-- The relaxation gives the least weights, or nothing where there is no solution. -/
theorem bf_spec : (∀ d, bf l (N + 1) (List.replicate N 0) = some d → d.length = N ∧ IsMin N l (gd d) ∧ Sat l) ∧ (bf l (N + 1) (List.replicate N 0) = none → ¬ Sat l) := by
  refine ⟨fun d h => ?_, fun h hs => ?_⟩
  · obtain ⟨⟨m, h1⟩, h2⟩ := bf_some hl _ _ _ _ (low_zero hl) h
    exact ⟨h1.1, low_min hl h1 h2, _, h2⟩
  · have := bf_isSome hl ((nonneg_iff hl).2 hs) (N + 1) 0 _ (low_zero hl) (by omega) (by omega)
    rw [h] at this; cases this
end

/-! ### One arc more -/

theorem wk_sub {l m : List Ar} (h : ∀ a ∈ l, a ∈ m) : ∀ {w : List Ar} {i j : Nat}, Wk l i w j → Wk m i w j
  | [], _, _, k => k
  | a :: w, _, _, ⟨h1, h2, h3⟩ => ⟨h a h1, h2, wk_sub h h3⟩
theorem sat_sub {l m : List Ar} (h : ∀ a ∈ l, a ∈ m) (k : Sat m) : Sat l := by
  obtain ⟨v, hv⟩ := k
  exact ⟨v, fun a ha => hv a (h a ha)⟩
theorem opp_walk {l : List Ar} {b : Ar} {c : Int} (hb : ∀ w, Wk l b.t w b.f → c + 1 ≤ wt w) (hc : b.c = -c - 1) : ∀ {w : List Ar} {i j : Nat}, Wk (l ++ [b]) i w j →
    Wk l i w j ∨ ∃ p q, Wk l i p b.f ∧ Wk l b.t q j ∧ wt p - c - 1 + wt q ≤ wt w
  | [], i, j, h => .inl h
  | a :: w, i, j, ⟨h1, h2, h3⟩ => by
    rcases List.mem_append.1 h1 with h1 | h1
    · rcases opp_walk hb hc h3 with h4 | ⟨p, q, h5, h6, h7⟩
      · exact .inl ⟨h1, h2, h4⟩
      · refine .inr ⟨a :: p, q, ⟨h1, h2, h5⟩, h6, ?_⟩
        simp only [wt]; omega
    · obtain rfl : a = b := by simpa using h1
      subst h2
      rcases opp_walk hb hc h3 with h4 | ⟨p, q, h5, h6, h7⟩
      · refine .inr ⟨[], w, rfl, h4, ?_⟩
        simp only [wt]; omega
      · refine .inr ⟨[], q, rfl, h6, ?_⟩
        have := hb p h5
        simp only [wt]; omega
/-- With the opposite of an arc there is a solution exactly if no walk is as short as the arc. -/
theorem sat_opp {N : Nat} {l : List Ar} (hl : Inr N l) {b : Ar} (hbf : b.f < N) (hbt : b.t < N) {c : Int} (hc : b.c = -c - 1) : Sat (l ++ [b]) ↔ Sat l ∧ ∀ w, Wk l b.t w b.f → c < wt w := by
  constructor
  · intro h
    refine ⟨sat_sub (fun a ha => by simp [ha]) h, fun w hw => ?_⟩
    obtain ⟨v, hv⟩ := h
    have h1 := hv b (by simp)
    have h2 := sol_walk (l := l ++ [b]) hv (wk_sub (fun a ha => by simp [ha]) hw)
    omega
  · rintro ⟨h1, h2⟩
    have hl' : Inr N (l ++ [b]) := fun a ha => by
      rcases List.mem_append.1 ha with ha | ha
      · exact hl a ha
      · obtain rfl : a = b := by simpa using ha
        exact ⟨hbf, hbt⟩
    refine sat_of_nonneg hl' fun k w hk hw _ => ?_
    rcases opp_walk (c := c) (fun w hw => by have := h2 w hw; omega) hc hw with h3 | ⟨p, q, h4, h5, h6⟩
    · exact sat_closed h1 h3
    · have := h2 (q ++ p) (wk_append h5 h4)
      rw [wt_append] at this
      omega
end Go.Sj.Dif

/-
  Difference constraints: tests, their arcs, their errors; tables of least sums: plain mathematics, no program.
-/
namespace Go.Sj
theorem AB_t {p : Prop} [Decidable p] (h : p) : AB true = AB (decide p) := by rw [decide_eq_true h]
theorem AB_f {p : Prop} [Decidable p] (h : ¬ p) : AB false = AB (decide p) := by rw [decide_eq_false h]
end Go.Sj
namespace Go.Sj.Dif
set_option linter.unusedVariables false
set_option linter.unusedSimpArgs false
set_option linter.unusedSectionVars false

structure Tst where
  k : Int
  lv : Int
  la : Int
  rv : Int
  ra : Int
def cT (x : Tst) : List AV := [AI x.k, AI x.lv, AI x.la, AI x.rv, AI x.ra]
abbrev testsA (l : List Tst) : AV := .im 5 (l.map cT)
def cA (a : Ar) : List AV := [AI a.u, AI a.s, AI a.f, AI a.t, AI a.c]
abbrev arcsA (l : List Ar) : AV := .im 5 (l.map cA)
theorem cA_cell (l : List Ar) : (l.map cA).all (fun e => e.all AV.cell) = true := by simp [cA, AV.cell, Value.oneCell']
theorem cT_cell (l : List Tst) : (l.map cT).all (fun e => e.all AV.cell) = true := by simp [cT, AV.cell, Value.oneCell']

def termB (n v a : Int) : Bool := decide (-1 ≤ v ∧ v < n ∧ -1000000 ≤ a ∧ a ≤ 1000000)
def termE (n v a : Int) : Int := if termB n v a then 0 else 6
def oneT (n : Int) (x : Tst) : Int := if x.k ≠ 1 ∧ x.k ≠ 2 then 1 else if termB n x.lv x.la then termE n x.rv x.ra else 6
def firstE (n : Int) : List Tst → Int
  | [] => 0
  | x :: l => if oneT n x ≠ 0 then oneT n x else firstE n l
def validT (n : Int) (l : List Tst) : Int := if n < 0 ∨ 12 < n then 6 else if 40 < l.length then 3 else firstE n l

theorem firstE_pre {n : Int} : ∀ {l m : List Tst}, (∀ x ∈ l, oneT n x = 0) → firstE n (l ++ m) = firstE n m
  | [], m, _ => rfl
  | x :: l, m, h => by
    simp only [List.cons_append, firstE]
    rw [if_neg (by simpa using h x (by simp)), firstE_pre fun y hy => h y (by simp [hy])]
theorem firstE_at {n : Int} {l : List Tst} {k : Nat} {x : Tst} (h : ∀ y ∈ l.take k, oneT n y = 0) (hx : l[k]? = some x) (he : oneT n x ≠ 0) : firstE n l = oneT n x := by
  obtain ⟨hk, rfl⟩ := List.getElem?_eq_some_iff.1 hx
  have e := List.take_append_drop k l
  rw [List.drop_eq_getElem_cons hk] at e
  have h2 : firstE n (l.take k ++ l[k] :: l.drop (k + 1)) = oneT n l[k] := by
    rw [firstE_pre h]; simp only [firstE, if_pos he]
  rw [e] at h2
  exact h2
theorem firstE_zero {n : Int} : ∀ {l : List Tst}, firstE n l = 0 ↔ ∀ x ∈ l, oneT n x = 0
  | [] => by simp [firstE]
  | x :: l => by
    simp only [firstE, List.mem_cons, forall_eq_or_imp]
    by_cases h : oneT n x = 0
    · rw [if_neg (by simpa using h), firstE_zero]
      exact ⟨fun k => ⟨h, k⟩, fun k => k.2⟩
    · rw [if_pos h]
      exact ⟨fun k => absurd k h, fun k => absurd k.1 h⟩

structure TOk (n : Int) (x : Tst) : Prop where
  k : x.k = 1 ∨ x.k = 2
  l : -1 ≤ x.lv ∧ x.lv < n ∧ -1000000 ≤ x.la ∧ x.la ≤ 1000000
  r : -1 ≤ x.rv ∧ x.rv < n ∧ -1000000 ≤ x.ra ∧ x.ra ≤ 1000000
theorem oneT_zero {n : Int} {x : Tst} : oneT n x = 0 ↔ TOk n x := by
  unfold oneT termE
  constructor
  · intro h
    split at h
    · cases h
    · rename_i h1
      split at h
      · rename_i h2
        split at h
        · rename_i h3
          exact ⟨by omega, of_decide_eq_true h2, of_decide_eq_true h3⟩
        · cases h
      · cases h
  · rintro ⟨h1, h2, h3⟩
    rw [if_neg (by omega), if_pos (show termB n x.lv x.la = true from decide_eq_true h2), if_pos (show termB n x.rv x.ra = true from decide_eq_true h3)]
theorem validT_zero {n : Int} {l : List Tst} : validT n l = 0 ↔ (0 ≤ n ∧ n ≤ 12) ∧ l.length ≤ 40 ∧ ∀ x ∈ l, TOk n x := by
  unfold validT
  constructor
  · intro h
    split at h
    · cases h
    · split at h
      · cases h
      · exact ⟨by omega, by omega, fun x hx => oneT_zero.1 (firstE_zero.1 h x hx)⟩
  · rintro ⟨h1, h2, h3⟩
    rw [if_neg (by omega), if_neg (by omega)]
    exact firstE_zero.2 fun x hx => oneT_zero.2 (h3 x hx)

/-! ### Arcs -/

def arcAt (i : Nat) (x : Tst) : Ar := ⟨i, 1, (x.lv + 1).toNat, (x.rv + 1).toNat, x.ra - x.la⟩
def opAt (i : Nat) (x : Tst) : Ar := ⟨i, -1, (x.rv + 1).toNat, (x.lv + 1).toNat, -(x.ra - x.la)⟩
def arcsAt (i : Nat) (x : Tst) : List Ar := arcAt i x :: if x.k = 2 then [opAt i x] else []
def arcsF : Nat → List Tst → List Ar
  | _, [] => []
  | i, x :: l => arcsAt i x ++ arcsF (i + 1) l
def arcsOf (l : List Tst) : List Ar := arcsF 0 l
theorem arcsF_snoc (x : Tst) : ∀ (i : Nat) (l : List Tst), arcsF i (l ++ [x]) = arcsF i l ++ arcsAt (i + l.length) x
  | i, [] => by simp [arcsF]
  | i, y :: l => by
    simp only [List.cons_append, arcsF, arcsF_snoc x (i + 1) l, List.append_assoc, List.length_cons]
    rw [show i + 1 + l.length = i + (l.length + 1) by omega]
theorem arcsOf_take {l : List Tst} {k : Nat} {x : Tst} (h : l[k]? = some x) : arcsOf (l.take (k + 1)) = arcsOf (l.take k) ++ arcsAt k x := by
  obtain ⟨hk, rfl⟩ := List.getElem?_eq_some_iff.1 h
  rw [List.take_succ_eq_append_getElem hk, arcsOf, arcsF_snoc, List.length_take, Nat.min_eq_left (by omega), Nat.zero_add]
  rfl
theorem arcsF_length : ∀ (i : Nat) (l : List Tst), (arcsF i l).length ≤ 2 * l.length
  | i, [] => by simp [arcsF]
  | i, x :: l => by
    have := arcsF_length (i + 1) l
    simp only [arcsF, arcsAt, List.length_append, List.length_cons]
    split <;> simp <;> omega
theorem arcsF_mem {a : Ar} : ∀ {i : Nat} {l : List Tst}, a ∈ arcsF i l ↔ ∃ k x, l[k]? = some x ∧ a ∈ arcsAt (i + k) x
  | i, [] => by simp [arcsF]
  | i, x :: l => by
    simp only [arcsF, List.mem_append, arcsF_mem (i := i + 1) (l := l)]
    constructor
    · rintro (h | ⟨k, y, h1, h2⟩)
      · exact ⟨0, x, rfl, h⟩
      · exact ⟨k + 1, y, by simpa using h1, by rw [show i + (k + 1) = i + 1 + k by omega]; exact h2⟩
    · rintro ⟨k, y, h1, h2⟩
      cases k with
      | zero => simp at h1; subst h1; exact .inl h2
      | succ k => exact .inr ⟨k, y, by simpa using h1, by rw [show i + 1 + k = i + (k + 1) by omega]; exact h2⟩
/-- What is known of an arc of right tests. -/
def AOk (n : Nat) (a : Ar) : Prop := a.f < n + 1 ∧ a.t < n + 1 ∧ -2000000 ≤ a.c ∧ a.c ≤ 2000000
theorem arcsAt_ok {n : Nat} {i : Nat} {x : Tst} (h : TOk n x) : ∀ a ∈ arcsAt i x, AOk n a := by
  obtain ⟨h1, h2, h3⟩ := h
  intro a ha
  simp only [arcsAt, List.mem_cons] at ha
  rcases ha with rfl | ha
  · simp only [AOk, arcAt]; omega
  · split at ha
    · simp at ha; subst ha; simp only [AOk, opAt]; omega
    · simp at ha
theorem arcsOf_ok {n : Nat} {l : List Tst} (h : ∀ x ∈ l, TOk n x) : ∀ a ∈ arcsOf l, AOk n a := fun a ha => by
  obtain ⟨k, x, h1, h2⟩ := arcsF_mem.1 ha
  exact arcsAt_ok (h x (List.mem_of_getElem? h1)) a h2
theorem aok_inr {n : Nat} {l : List Ar} (h : ∀ a ∈ l, AOk n a) : Inr (n + 1) l := fun a ha => ⟨(h a ha).1, (h a ha).2.1⟩

/-! ### Tables -/

def far : Int := 1125899906842624
def mkR (N : Nat) (r : Nat → Int) : List Int := (List.range N).map r
def mkM (N : Nat) (S : Nat → Nat → Int) : List (List Int) := (List.range N).map fun i => mkR N (S i)
theorem mkR_length (N : Nat) (r : Nat → Int) : (mkR N r).length = N := by simp [mkR]
theorem mkM_length (N : Nat) (S : Nat → Nat → Int) : (mkM N S).length = N := by simp [mkM]
theorem mkR_get {N i : Nat} (h : i < N) (r : Nat → Int) : (mkR N r)[i]? = some (r i) := by simp [mkR, h]
theorem mkM_get {N i : Nat} (h : i < N) (S : Nat → Nat → Int) : (mkM N S)[i]? = some (mkR N (S i)) := by simp [mkM, h]
def updF (O : Nat → Nat → Int) (i k : Nat) (x : Int) : Nat → Nat → Int := fun a b => if a = i ∧ b = k then x else O a b
theorem mkR_set {N k : Nat} {r : Nat → Int} {x : Int} : (mkR N r).set k x = mkR N (fun b => if b = k then x else r b) := by
  apply List.ext_getElem?
  intro b
  rw [List.getElem?_set]
  by_cases hb : b < N
  · rw [mkR_get hb, mkR_get hb, mkR_length]
    by_cases e : k = b
    · subst e; simp [hb]
    · rw [if_neg e, if_neg (fun h => e h.symm)]
  · rw [List.getElem?_eq_none (by rw [mkR_length]; omega), List.getElem?_eq_none (by rw [mkR_length]; omega), mkR_length]
    split
    · rw [if_neg (by omega)]
    · rfl
theorem mkM_set {N i k : Nat} {O : Nat → Nat → Int} {x : Int} : (mkM N O).set i ((mkR N (O i)).set k x) = mkM N (updF O i k x) := by
  apply List.ext_getElem?
  intro a
  rw [List.getElem?_set]
  by_cases ha : a < N
  · rw [mkM_get ha, mkM_get ha, mkM_length]
    by_cases e : i = a
    · subst e
      rw [if_pos rfl, if_pos ha, mkR_set]
      congr 2
      funext b
      simp only [updF, true_and]
    · rw [if_neg e]
      congr 2
      funext b
      simp only [updF]
      rw [if_neg (fun h => e h.1.symm)]
  · rw [List.getElem?_eq_none (by rw [mkM_length]; omega), List.getElem?_eq_none (by rw [mkM_length]; omega), mkM_length]
    split
    · rw [if_neg (by omega)]
    · rfl

def stC (S : Nat → Nat → Int) (a : Ar) (O : Nat → Nat → Int) (k : Nat) : Nat → Nat → Int := if S a.t k < far then updF O a.f k (min (O a.f k) (a.c + S a.t k)) else O
def stTo (S : Nat → Nat → Int) (a : Ar) (O : Nat → Nat → Int) : Nat → Nat → Nat → Int
  | 0 => O
  | k + 1 => stC S a (stTo S a O k) k
def stL (S : Nat → Nat → Int) (N : Nat) : List Ar → (Nat → Nat → Int) → (Nat → Nat → Int)
  | [], O => O
  | a :: l, O => stL S N l (stTo S a O N)
def stM (S : Nat → Nat → Int) (N : Nat) (l : List Ar) : Nat → Nat → Int := stL S N l (fun _ _ => far)
theorem stL_snoc (S : Nat → Nat → Int) (N : Nat) (a : Ar) : ∀ (l : List Ar) (O : Nat → Nat → Int), stL S N (l ++ [a]) O = stTo S a (stL S N l O) N
  | [], O => rfl
  | b :: l, O => by simp only [List.cons_append, stL, stL_snoc S N a l]
def unit0 : Nat → Nat → Int := fun i k => if i = k then 0 else far
def tab (N : Nat) (l : List Ar) : Nat → Nat → Nat → Int
  | 0 => unit0
  | m + 1 => stM (tab N l m) N l
theorem stTo_get (S : Nat → Nat → Int) (a : Ar) (O : Nat → Nat → Int) : ∀ (k i j : Nat), stTo S a O k i j = if i = a.f ∧ j < k ∧ S a.t j < far then min (O i j) (a.c + S a.t j) else O i j
  | 0, i, j => by simp [stTo]
  | k + 1, i, j => by
    have ih := stTo_get S a O k
    simp only [stTo, stC]
    by_cases hk : S a.t k < far
    · rw [if_pos hk]
      simp only [updF]
      by_cases e : i = a.f ∧ j = k
      · obtain ⟨rfl, rfl⟩ := e
        rw [if_pos ⟨rfl, rfl⟩, ih, if_neg (by omega), if_pos ⟨rfl, by omega, hk⟩]
      · rw [if_neg e, ih]
        by_cases e2 : i = a.f ∧ j < k ∧ S a.t j < far
        · rw [if_pos e2, if_pos ⟨e2.1, by omega, e2.2.2⟩]
        · rw [if_neg e2, if_neg]
          intro h
          rcases Nat.lt_or_ge j k with h1 | h1
          · exact e2 ⟨h.1, h1, h.2.2⟩
          · exact e ⟨h.1, by omega⟩
    · rw [if_neg hk, ih]
      by_cases e2 : i = a.f ∧ j < k ∧ S a.t j < far
      · rw [if_pos e2, if_pos ⟨e2.1, by omega, e2.2.2⟩]
      · rw [if_neg e2, if_neg]
        intro h
        rcases Nat.lt_or_ge j k with h1 | h1
        · exact e2 ⟨h.1, h1, h.2.2⟩
        · obtain rfl : j = k := by omega
          exact hk h.2.2
/-- What a step knows: it is the least of what arcs lead to. -/
theorem stL_facts {S : Nat → Nat → Int} {N : Nat} {j : Nat} (hj : j < N) : ∀ (l : List Ar) (O : Nat → Nat → Int) (i : Nat),
    stL S N l O i j ≤ O i j ∧ (stL S N l O i j = O i j ∨ ∃ a ∈ l, a.f = i ∧ S a.t j < far ∧ stL S N l O i j = a.c + S a.t j) ∧ ∀ a ∈ l, a.f = i → S a.t j < far → stL S N l O i j ≤ a.c + S a.t j
  | [], O, i => ⟨Int.le_refl _, .inl rfl, fun a h => by simp at h⟩
  | a :: l, O, i => by
    obtain ⟨h1, h2, h3⟩ := stL_facts hj l (stTo S a O N) i
    have hg := stTo_get S a O N i j
    simp only [stL]
    generalize hx : stL S N l (stTo S a O N) i j = x at *
    by_cases e : i = a.f ∧ j < N ∧ S a.t j < far
    · rw [if_pos e] at hg
      refine ⟨by omega, ?_, fun b hb h4 h5 => ?_⟩
      · rcases h2 with h2 | ⟨b, h4, h5, h6, h7⟩
        · rcases Int.le_total (O i j) (a.c + S a.t j) with h8 | h8
          · exact .inl (by omega)
          · exact .inr ⟨a, by simp, e.1.symm, e.2.2, by omega⟩
        · exact .inr ⟨b, by simp [h4], h5, h6, h7⟩
      · rcases List.mem_cons.1 hb with rfl | hb
        · omega
        · exact h3 b hb h4 h5
    · rw [if_neg e] at hg
      refine ⟨by omega, ?_, fun b hb h4 h5 => ?_⟩
      · rcases h2 with h2 | ⟨b, h4, h5, h6, h7⟩
        · exact .inl (by omega)
        · exact .inr ⟨b, by simp [h4], h5, h6, h7⟩
      · rcases List.mem_cons.1 hb with rfl | hb
        · exact absurd ⟨h4.symm, hj, h5⟩ e
        · exact h3 b hb h4 h5
theorem wt_bound {n : Nat} {l : List Ar} (hl : ∀ a ∈ l, AOk n a) : ∀ {w : List Ar} {i j : Nat}, Wk l i w j → -2000000 * (w.length : Int) ≤ wt w ∧ wt w ≤ 2000000 * (w.length : Int)
  | [], i, j, h => by simp [wt]
  | a :: w, i, j, ⟨h1, h2, h3⟩ => by
    have := wt_bound hl h3
    have h4 := hl a h1
    simp only [AOk] at h4
    simp only [wt, List.length_cons]
    omega
section
variable {n : Nat} {l : List Ar} (hl : ∀ a ∈ l, AOk n a)
include hl
/-- Exactly m arcs. -/
theorem tab_spec : ∀ (m : Nat), m ≤ 1000 → ∀ i j, i < n + 1 → j < n + 1 → tab (n + 1) l m i j ≤ far ∧ (tab (n + 1) l m i j < far → ∃ w, Wk l i w j ∧ w.length = m ∧ wt w = tab (n + 1) l m i j) ∧ ∀ w, Wk l i w j → w.length = m → tab (n + 1) l m i j ≤ wt w
  | 0, _, i, j, hi, hj => by
    simp only [tab, unit0]
    by_cases e : i = j
    · rw [if_pos e]
      refine ⟨by decide, fun _ => ⟨[], e, rfl, rfl⟩, fun w hw h0 => ?_⟩
      obtain rfl : w = [] := List.length_eq_zero_iff.1 h0
      simp [wt]
    · rw [if_neg e]
      refine ⟨Int.le_refl _, fun h => by omega, fun w hw h0 => ?_⟩
      obtain rfl : w = [] := List.length_eq_zero_iff.1 h0
      exact absurd hw e
  | m + 1, hm, i, j, hi, hj => by
    have ih := tab_spec m (by omega)
    obtain ⟨h1, h2, h3⟩ := stL_facts (S := tab (n + 1) l m) (N := n + 1) hj l (fun _ _ => far) i
    simp only [tab, stM]
    refine ⟨h1, fun hlt => ?_, fun w hw hlen => ?_⟩
    · rcases h2 with h2 | ⟨a, h4, h5, h6, h7⟩
      · omega
      · obtain ⟨w, k1, k2, k3⟩ := (ih a.t j (hl a h4).2.1 hj).2.1 h6
        exact ⟨a :: w, ⟨h4, h5, k1⟩, by simp [k2], by simp only [wt]; omega⟩
    · cases w with
      | nil => simp at hlen
      | cons a w =>
        obtain ⟨e1, e2, e3⟩ := hw
        have k1 := (ih a.t j (hl a e1).2.1 hj).2.2 w e3 (by simpa using hlen)
        have k2 := wt_bound hl e3
        have k3 : (w.length : Int) ≤ 1000 := by simp at hlen; omega
        have k4 := h3 a e1 e2 (by unfold far; omega)
        simp only [wt]; omega
theorem tab_low (m : Nat) (hm : m ≤ 1000) (i j : Nat) (hi : i < n + 1) (hj : j < n + 1) : -2000000000 ≤ tab (n + 1) l m i j ∧ tab (n + 1) l m i j ≤ far := by
  obtain ⟨h1, h2, h3⟩ := tab_spec hl m hm i j hi hj
  refine ⟨?_, h1⟩
  by_cases h : tab (n + 1) l m i j < far
  · obtain ⟨w, k1, k2, k3⟩ := h2 h
    have := wt_bound hl k1
    omega
  · unfold far at h; omega
end
/-- At most m arcs. -/
def bst (N : Nat) (l : List Ar) : Nat → Nat → Nat → Int
  | 0 => unit0
  | m + 1 => fun i j => min (bst N l m i j) (tab N l (m + 1) i j)
section
variable {n : Nat} {l : List Ar} (hl : ∀ a ∈ l, AOk n a)
include hl
theorem bst_spec : ∀ (m : Nat), m ≤ 1000 → ∀ i j, i < n + 1 → j < n + 1 → bst (n + 1) l m i j ≤ far ∧ -2000000000 ≤ bst (n + 1) l m i j ∧ (bst (n + 1) l m i j < far → ∃ w, Wk l i w j ∧ w.length ≤ m ∧ wt w = bst (n + 1) l m i j) ∧ ∀ w, Wk l i w j → w.length ≤ m → bst (n + 1) l m i j ≤ wt w
  | 0, hm, i, j, hi, hj => by
    obtain ⟨h1, h2, h3⟩ := tab_spec hl 0 hm i j hi hj
    obtain ⟨h4, _⟩ := tab_low hl 0 hm i j hi hj
    refine ⟨h1, h4, fun h => ?_, fun w hw h0 => h3 w hw (by omega)⟩
    obtain ⟨w, k1, k2, k3⟩ := h2 h
    exact ⟨w, k1, by omega, k3⟩
  | m + 1, hm, i, j, hi, hj => by
    obtain ⟨h1, h2, h3⟩ := tab_spec hl (m + 1) hm i j hi hj
    obtain ⟨h4, _⟩ := tab_low hl (m + 1) hm i j hi hj
    obtain ⟨k1, k2, k3, k4⟩ := bst_spec m (by omega) i j hi hj
    simp only [bst]
    refine ⟨by omega, by omega, fun h => ?_, fun w hw h0 => ?_⟩
    · rcases Int.le_total (bst (n + 1) l m i j) (tab (n + 1) l (m + 1) i j) with e | e
      · obtain ⟨w, e1, e2, e3⟩ := k3 (by omega)
        exact ⟨w, e1, by omega, by omega⟩
      · obtain ⟨w, e1, e2, e3⟩ := h2 (by omega)
        exact ⟨w, e1, by omega, by omega⟩
    · by_cases e : w.length ≤ m
      · have := k4 w hw e; omega
      · have := h3 w hw (by omega); omega
end
def diagB (N : Nat) (S : Nat → Nat → Int) : Bool := (List.range N).all fun i => decide (0 ≤ S i i)
section
variable {n : Nat} {l : List Ar} (hl : ∀ a ∈ l, AOk n a) (hn : n ≤ 100)
include hl hn
theorem diag_iff : diagB (n + 1) (bst (n + 1) l (n + 2)) = true ↔ Sat l := by
  have hi := aok_inr hl
  constructor
  · intro h
    simp only [diagB, List.all_eq_true, List.mem_range, decide_eq_true_eq] at h
    refine sat_of_nonneg hi fun k w hk hw hlen => ?_
    have h1 := h k hk
    have h2 := (bst_spec hl (n + 2) (by omega) k k hk hk).2.2.2 w hw (by omega)
    omega
  · intro h
    simp only [diagB, List.all_eq_true, List.mem_range, decide_eq_true_eq]
    intro k hk
    obtain ⟨h1, h2, h3, h4⟩ := bst_spec hl (n + 2) (by omega) k k hk hk
    by_cases e : bst (n + 1) l (n + 2) k k < far
    · obtain ⟨w, k1, k2, k3⟩ := h3 e
      have := sat_closed h k1
      omega
    · unfold far at e; omega
/-- The least weight from place to place. -/
theorem bst_le (hs : Sat l) {i j : Nat} (hi : i < n + 1) (hj : j < n + 1) {w : List Ar} (hw : Wk l i w j) : bst (n + 1) l (n + 2) i j ≤ wt w := by
  have hr := aok_inr hl
  obtain ⟨w', h1, h2, h3⟩ := shorten hr ((nonneg_iff hr).2 hs) w.length w (Nat.le_refl _) hi hw
  have := (bst_spec hl (n + 2) (by omega) i j hi hj).2.2.2 w' h1 (by omega)
  omega
end
/-- The least of a row and of 0. -/
def minTo (r : Nat → Int) : Nat → Int
  | 0 => 0
  | k + 1 => min (minTo r k) (r k)
theorem minTo_le (r : Nat → Int) : ∀ (k : Nat), minTo r k ≤ 0 ∧ ∀ j, j < k → minTo r k ≤ r j
  | 0 => ⟨Int.le_refl _, fun j h => by omega⟩
  | k + 1 => by
    obtain ⟨h1, h2⟩ := minTo_le r k
    simp only [minTo]
    refine ⟨by omega, fun j hj => ?_⟩
    by_cases e : j < k
    · have := h2 j e; omega
    · obtain rfl : j = k := by omega
      omega
theorem minTo_is (r : Nat → Int) : ∀ (k : Nat), minTo r k = 0 ∨ ∃ j, j < k ∧ minTo r k = r j
  | 0 => .inl rfl
  | k + 1 => by
    simp only [minTo]
    rcases Int.le_total (minTo r k) (r k) with e | e
    · rcases minTo_is r k with h | ⟨j, h1, h2⟩
      · exact .inl (by omega)
      · exact .inr ⟨j, by omega, by omega⟩
    · exact .inr ⟨k, by omega, by omega⟩
theorem bst_min {n : Nat} {l : List Ar} (hl : ∀ a ∈ l, AOk n a) (hn : n ≤ 100) (hs : Sat l) : IsMin (n + 1) l (fun i => minTo (bst (n + 1) l (n + 2) i) (n + 1)) := fun i hi => by
  obtain ⟨h1, h2⟩ := minTo_le (bst (n + 1) l (n + 2) i) (n + 1)
  refine ⟨?_, fun w j hw => ?_⟩
  · rcases minTo_is (bst (n + 1) l (n + 2) i) (n + 1) with h | ⟨j, h3, h4⟩
    · exact ⟨[], i, rfl, by show wt [] = minTo _ _; rw [h]; rfl⟩
    · obtain ⟨w, k1, k2, k3⟩ := (bst_spec hl (n + 2) (by omega) i j hi h3).2.2.1 (by unfold far; omega)
      exact ⟨w, j, k1, by simp only; omega⟩
  · have hj : j < n + 1 := by
      cases w with
      | nil => simp only [Wk] at hw; omega
      | cons a w => exact (show ∀ (w : List Ar) (i : Nat), i < n + 1 → Wk l i w j → j < n + 1 from fun w => by
          induction w with
          | nil => intro i hi h; simp only [Wk] at h; omega
          | cons b w ih => intro i hi h; exact ih b.t (hl b h.1).2.1 h.2.2) _ i hi hw
    have := h2 j hj
    have := bst_le hl hn hs hi hj hw
    simp only at *
    omega

/-! ### Distances as the program has them -/

def Bd (B : Int) (d : List Int) : Prop := ∀ i, -B ≤ gd d i ∧ gd d i ≤ 0
theorem bd_mono {B C : Int} {d : List Int} (h : Bd B d) (k : B ≤ C) : Bd C d := fun i => by have := h i; omega
theorem bd_rel {B : Int} {d : List Int} {a : Ar} (h : Bd B d) (ha : a.f < d.length) (hc : -2000001 ≤ a.c ∧ a.c ≤ 2000001) : Bd (B + 2000001) (rel1 d a) := fun i => by
  have h1 := h i
  have h2 := h a.t
  have h3 := h a.f
  rw [rel1_get ha]
  split <;> omega
theorem gd_get {d : List Int} {i : Nat} (h : i < d.length) : d[((i : Nat) : Int).toNat]? = some (gd d i) := by
  rw [Int.toNat_natCast, List.getElem?_eq_getElem h]
  simp [gd, List.getD_eq_getElem?_getD, h]
/-- Arcs whose numbers are small. -/
def ASm (n : Nat) (l : List Ar) : Prop := ∀ a ∈ l, a.f < n + 1 ∧ a.t < n + 1 ∧ -2000001 ≤ a.c ∧ a.c ≤ 2000001
def distR (n : Nat) (l : List Ar) : List Int × Bool := match bf l (n + 2) (List.replicate (n + 1) 0) with
  | some d => (d, true)
  | none => ([], false)
theorem aok_asm {n : Nat} {l : List Ar} (h : ∀ a ∈ l, AOk n a) : ASm n l := fun a ha => by
  have := h a ha
  simp only [AOk] at this
  omega
end Go.Sj.Dif

/-
  A row whose elements are rows that the call owns as well.
-/
namespace Go.Sj
set_option linter.unusedVariables false

def manyO (E : Nat) : List Value → List (List (List AV)) → Own
  | u :: vs, c :: cs => (u, .row E 1 c) :: manyO E vs cs
  | _, _ => []

theorem manyO_get {E : Nat} : ∀ {vs : List Value} {cs : List (List (List AV))} {i : Nat} {u : Value} {c : List (List AV)}, vs[i]? = some u → cs[i]? = some c → (manyO E vs cs)[i]? = some (u, .row E 1 c)
  | v :: vs, d :: cs, 0, u, c, h1, h2 => by
    simp at h1 h2; subst h1; subst h2; rfl
  | v :: vs, d :: cs, i + 1, u, c, h1, h2 => by
    simp only [manyO, List.getElem?_cons_succ]
    exact manyO_get (by simpa using h1) (by simpa using h2)
  | [], _, _, _, _, h1, _ => by simp at h1
  | _ :: _, [], _, _, _, _, h2 => by simp at h2
theorem manyO_set {E : Nat} : ∀ {vs : List Value} {cs : List (List (List AV))} {i : Nat} {u : Value} {c : List (List AV)}, (manyO E vs cs).set i (u, .row E 1 c) = manyO E (vs.set i u) (cs.set i c)
  | v :: vs, d :: cs, 0, u, c => rfl
  | v :: vs, d :: cs, i + 1, u, c => by simp only [manyO, List.set_cons_succ]; rw [manyO_set]
  | [], cs, i, u, c => by simp [manyO]
  | v :: vs, [], i, u, c => by cases i <;> simp [manyO]
theorem osub_many {E : Nat} {L : Own} : ∀ n : Nat, OSub (manyO E (List.replicate n (.slice none 0 0)) (List.replicate n []) ++ L) L
  | 0 => OSub.refl _
  | n + 1 => by
    simp only [List.replicate_succ, manyO, List.cons_append]
    exact .free (osub_many n)

abbrev litR (u : Value) : List AV := [.lit u]
abbrev imR (c : List (List AV)) : List AV := [.im 1 c]

theorem fzo_refl_many {E : Nat} {v : Value} {sz : Nat} {es : List (List AV)} : ∀ {vs : List Value} {cs : List (List (List AV))}, (∀ c ∈ cs, ∀ e ∈ c, e.length = 1) → FZO v sz es (manyO E vs cs) (manyO E vs cs)
  | u :: vs, c :: cs, h => ⟨rfl, rfl, rfl, rfl, h c (by simp), FZL.refl _, fzo_refl_many (fun d hd => h d (by simp [hd]))⟩
  | [], _, _ => by simp [manyO, FZO]
  | _ :: _, [], _ => by simp [manyO, FZO]

/-- All of them change no more. -/
theorem turn_many {x : AV} {E E' : Nat} {v : Value} : ∀ {vs : List Value} {cs : List (List (List AV))} {done : List (List AV)}, vs.length = cs.length → (∀ c ∈ cs, ∀ e ∈ c, e.length = 1) → (∀ a ∈ done, a.length = 1) →
    Turn x ((v, .row E' 1 (done ++ vs.map litR)) :: manyO E vs cs) x [(v, .row E' 1 (done ++ cs.map imR))]
  | [], [], done, _, _, _ => by simp only [List.map_nil]; exact .of (Sub.refl _) (OSub.refl _)
  | u :: vs, c :: cs, done, hl, hc, hd => by
    have step : Turn x ((v, .row E' 1 (done ++ (u :: vs).map litR)) :: manyO E (u :: vs) (c :: cs)) x ((v, .row E' 1 ((done ++ [imR c]) ++ vs.map litR)) :: manyO E vs cs) := fun τ F w z a b => by
      have hL : ((v, OB.row E' 1 (done ++ (u :: vs).map litR)) :: manyO E (u :: vs) (c :: cs))[1]? = some (u, .row E 1 c) := rfl
      have hM : FZO u 1 c (((v, OB.row E' 1 (done ++ (u :: vs).map litR)) :: manyO E (u :: vs) (c :: cs)).eraseIdx 1) ((v, .row E' 1 ((done ++ [imR c]) ++ vs.map litR)) :: manyO E vs cs) := by
        refine ⟨rfl, rfl, rfl, by simp, fun e he => ?_, ?_, fzo_refl_many (fun d hd' => hc d (by simp [hd']))⟩
        · simp only [List.mem_append, List.mem_singleton, List.mem_map] at he
          rcases he with (he | rfl) | ⟨y, _, rfl⟩
          · exact hd e he
          · rfl
          · rfl
        · rw [List.append_assoc, List.flatten_append, List.flatten_append]
          exact fzl_append _ ⟨FZ.here, FZL.refl _⟩
      obtain ⟨h1, h2⟩ := (a.at hL).freeze hM
      exact ⟨_, frz_le τ w u, h1, b.mono (frz_le τ w u)⟩
    have ih := turn_many (x := x) (E := E) (E' := E') (v := v) (vs := vs) (cs := cs) (done := done ++ [imR c]) (by simpa using hl) (fun d hd' => hc d (by simp [hd'])) (fun e he => by
      simp only [List.mem_append, List.mem_singleton] at he
      rcases he with he | rfl
      · exact hd e he
      · rfl)
    have e1 : done ++ (c :: cs).map imR = (done ++ [imR c]) ++ cs.map imR := by simp
    rw [e1]
    exact step.trans ih
  | [], _ :: _, _, hl, _, _ => by simp at hl
  | _ :: _, [], _, hl, _, _ => by simp at hl
end Go.Sj

/-
  Square tables that the call owns: rows of rows.
-/
namespace Go.Sj
set_option linter.unusedVariables false

theorem Turn.perm {x : AV} {L M : Own} (h : L.Perm M) : Turn x L x M := fun τ F w u a b => ⟨τ, τ.le_refl, a.perm h, b⟩
theorem manyO_append {E : Nat} : ∀ {vs us : List Value} {cs ds : List (List (List AV))}, vs.length = cs.length → manyO E (vs ++ us) (cs ++ ds) = manyO E vs cs ++ manyO E us ds
  | [], us, [], ds, _ => rfl
  | v :: vs, us, c :: cs, ds, h => by
    simp only [List.cons_append, manyO]
    rw [manyO_append (by simpa using h)]
  | [], _, _ :: _, _, h => by simp at h
  | _ :: _, _, [], _, h => by simp at h
theorem manyO_reverse {E : Nat} : ∀ {vs : List Value} {cs : List (List (List AV))}, vs.length = cs.length → manyO E vs.reverse cs.reverse = (manyO E vs cs).reverse
  | [], [], _ => rfl
  | v :: vs, c :: cs, h => by
    rw [List.reverse_cons, List.reverse_cons, manyO_append (by simpa using h), manyO_reverse (by simpa using h)]
    simp [manyO]
  | [], _ :: _, h => by simp at h
  | _ :: _, [], h => by simp at h
namespace Dif
def cRow (xs : List Int) : List AV := [ints xs]
abbrev matA (S : List (List Int)) : AV := .im 1 (S.map cRow)
/-- What a table owns. -/
def matO (E E' : Nat) (v : Value) (vs : List Value) (S : List (List Int)) : Own := (v, .row E' 1 (vs.map litR)) :: manyO E vs (S.map rowI)
theorem turn_mat {x : AV} {E E' : Nat} {v : Value} {vs : List Value} {S : List (List Int)} (h : vs.length = S.length) : Turn x (matO E E' v vs S) x [(v, .row E' 1 (S.map cRow))] := by
  have := turn_many (x := x) (E := E) (E' := E') (v := v) (vs := vs) (cs := S.map rowI) (done := []) (by simpa using h) (fun c hc e he => by
    rw [List.mem_map] at hc
    obtain ⟨q, _, rfl⟩ := hc
    rw [List.mem_map] at he
    obtain ⟨z, _, rfl⟩ := he
    rfl) (by simp)
  rw [List.nil_append, List.nil_append, List.map_map] at this
  exact this
theorem mat_get {E E' : Nat} {v u : Value} {vs : List Value} {N i : Nat} {O : Nat → Nat → Int} (hi : i < N) (hu : vs[i]? = some u) : (matO E E' v vs (mkM N O))[i + 1]? = some (u, .row E 1 (rowI (mkR N (O i)))) := by
  rw [matO, List.getElem?_cons_succ]
  exact manyO_get hu (by rw [List.getElem?_map, mkM_get hi]; rfl)
theorem mat_set {E E' : Nat} {v u : Value} {vs : List Value} {N i k : Nat} {O : Nat → Nat → Int} {x : Int} (hu : vs[i]? = some u) : (matO E E' v vs (mkM N O)).set (i + 1) (u, .row E 1 (rowI ((mkR N (O i)).set k x))) = matO E E' v vs (mkM N (updF O i k x)) := by
  simp only [matO, List.set_cons_succ]
  rw [manyO_set, ← List.map_set, mkM_set]
  congr 2
  obtain ⟨h, rfl⟩ := List.getElem?_eq_some_iff.1 hu
  exact List.set_getElem_self h
theorem mkM_congr {N : Nat} {S T : Nat → Nat → Int} (h : ∀ i j, i < N → j < N → S i j = T i j) : mkM N S = mkM N T := by
  simp only [mkM]
  apply List.map_congr_left
  intro i hi
  simp only [mkR]
  apply List.map_congr_left
  intro j hj
  exact h i j (by simpa using hi) (by simpa using hj)
theorem mat_row {N i : Nat} (h : i < N) (S : Nat → Nat → Int) : ((mkM N S).map cRow)[((i : Nat) : Int).toNat]? = some [ints (mkR N (S i))] := by
  rw [Int.toNat_natCast, List.getElem?_map, mkM_get h]; rfl
theorem row_at {N i : Nat} (h : i < N) (r : Nat → Int) : (rowI (mkR N r))[((i : Nat) : Int).toNat]? = some [AI (r i)] := by
  rw [Int.toNat_natCast, List.getElem?_map, mkR_get h]; rfl
theorem row_get {N i : Nat} (h : i < N) (r : Nat → Int) : (mkR N r)[((i : Nat) : Int).toNat]? = some (r i) := by
  rw [Int.toNat_natCast, mkR_get h]
theorem mkR_succ (k : Nat) (r : Nat → Int) : mkR (k + 1) r = mkR k r ++ [r k] := by simp [mkR, List.range_succ]

/-- Parts of two tables. -/
def mixF (A B : Nat → Nat → Int) (i j : Nat) : Nat → Nat → Int := fun a b => if a < i ∨ (a = i ∧ b < j) then B a b else A a b
theorem mixF_step (A B : Nat → Nat → Int) (i j : Nat) : updF (mixF A B i j) i j (B i j) = mixF A B i (j + 1) := by
  funext a b
  simp only [updF, mixF]
  by_cases h : a = i ∧ b = j
  · obtain ⟨rfl, rfl⟩ := h
    rw [if_pos ⟨rfl, rfl⟩, if_pos (by omega)]
  · rw [if_neg h]
    by_cases h2 : a < i ∨ (a = i ∧ b < j)
    · rw [if_pos h2, if_pos (by omega)]
    · rw [if_neg h2, if_neg (by omega)]
theorem mixF_row {N : Nat} (A B : Nat → Nat → Int) (i : Nat) : mkM N (mixF A B i N) = mkM N (mixF A B (i + 1) 0) := mkM_congr fun a b ha hb => by
  simp only [mixF]
  by_cases h : a < i ∨ (a = i ∧ b < N)
  · rw [if_pos h, if_pos (by omega)]
  · rw [if_neg h, if_neg (by omega)]
theorem mixF_zero (A B : Nat → Nat → Int) : mixF A B 0 0 = A := by
  funext a b
  simp only [mixF]
  rw [if_neg (by omega)]
theorem mixF_all {N : Nat} (A B : Nat → Nat → Int) : mkM N (mixF A B N 0) = mkM N B := mkM_congr fun a b ha hb => by
  simp only [mixF]
  rw [if_pos (by omega)]
def refDistR (n : Nat) (l : List Ar) : List (List Int) × Bool := if diagB (n + 1) (bst (n + 1) l (n + 2)) then (mkM (n + 1) (bst (n + 1) l (n + 2)), true) else ([], false)
theorem diag_false {N i : Nat} {S : Nat → Nat → Int} (hi : i < N) (h : S i i < 0) : diagB N S = false := by
  cases e : diagB N S with
  | false => rfl
  | true =>
    simp only [diagB, List.all_eq_true, List.mem_range, decide_eq_true_eq] at e
    have := e i hi
    omega
theorem diag_true {N : Nat} {S : Nat → Nat → Int} (h : ∀ i, i < N → 0 ≤ S i i) : diagB N S = true := by
  simp only [diagB, List.all_eq_true, List.mem_range, decide_eq_true_eq]; exact h
end Dif
end Go.Sj

/-
  Square tables of rows that the call owns: rows of rows of rows. No condition; nothing here names a program.
-/
namespace Go.Sj
set_option linter.unusedVariables false
set_option linter.unusedSimpArgs false

/-! What lies within what never changes. -/
theorem FZL.len {v : Value} {sz : Nat} {es : List (List AV)} : ∀ {l m : List AV}, FZL v sz es l m → l.length = m.length
  | [], [], _ => rfl
  | x :: l, y :: m, h => by rw [List.length_cons, List.length_cons, FZL.len h.2]
  | [], _ :: _, h => h.elim
  | _ :: _, [], h => h.elim
theorem FZL.at {v : Value} {sz : Nat} {es : List (List AV)} : ∀ {l m : List AV}, FZL v sz es l m → ∀ {j : Nat} {y : AV}, m[j]? = some y → ∃ x, l[j]? = some x ∧ FZ v sz es x y
  | [], [], _, j, y, hy => by simp at hy
  | x :: l, z :: m, h, 0, y, hy => by simp at hy; subst hy; exact ⟨x, rfl, h.1⟩
  | x :: l, z :: m, h, j + 1, y, hy => by
    obtain ⟨x', h1, h2⟩ := FZL.at h.2 (j := j) (by simpa using hy)
    exact ⟨x', by simpa using h1, h2⟩
  | [], _ :: _, h, _, _, _ => h.elim
  | _ :: _, [], h, _, _, _ => h.elim
theorem FZ.ipM {v : Value} {sz : Nat} {es : List (List AV)} {l m : List AV} (h : FZL v sz es l m) : FZ v sz es (.ip l) (.ip m) := fun τ u hv hu => by
  cases hu with
  | ip _ b off c E fr f h1 h2 h3 =>
    refine .ip m b off c E fr f h1 (fun j y hy => ?_) (fun j y hy => ?_)
    · obtain ⟨x, hx, _⟩ := h.at hy
      exact h2 j x hx
    · obtain ⟨x, hx, hz⟩ := h.at hy
      exact hz τ _ hv (h3 j x hx)
/-- Rows of one cell each. -/
theorem FZ.imM {v : Value} {sz : Nat} {es : List (List AV)} {l m : List AV} (h : FZL v sz es l m) : FZ v sz es (.im 1 (l.map fun x => [x])) (.im 1 (m.map fun x => [x])) := fun τ u hv hu => by
  have hl := h.len
  have ex : ∀ {i : Nat} {e : List AV} {j : Nat} {y : AV}, (m.map fun x => [x])[i]? = some e → e[j]? = some y → ∃ x, j = 0 ∧ (l.map fun x => [x])[i]? = some [x] ∧ FZ v sz es x y := fun {i e j y} he hj => by
    rw [List.getElem?_map, Option.map_eq_some_iff] at he
    obtain ⟨z, hz, rfl⟩ := he
    obtain ⟨x, hx, hf⟩ := h.at hz
    cases j with
    | zero => simp at hj; subst hj; exact ⟨x, rfl, by rw [List.getElem?_map, hx]; rfl, hf⟩
    | succ j => simp at hj
  generalize hL : (l.map fun x => [x]) = A at *
  have hlA : A.length = m.length := by rw [← hL, List.length_map, hl]
  cases hu with
  | imNil _ a cap =>
    have : m = [] := List.eq_nil_of_length_eq_zero (by rw [← hlA]; rfl)
    rw [this]
    exact .imNil 1 a cap
  | im _ _ b off cap c E fr f h1 h2 h3 h4 h5 h6 =>
    have hn : A.length = (m.map fun x => [x]).length := by rw [hlA, List.length_map]
    rw [hn]
    refine .im 1 _ b off cap c E fr f h1 (fun e => h2 (List.eq_nil_of_length_eq_zero (by rw [hn, e]; rfl))) (by rw [← hn]; exact h3) (fun i e he => ?_) (fun i e j y he hj => ?_) (fun i e j y he hj => ?_)
    · rw [List.getElem?_map, Option.map_eq_some_iff] at he
      obtain ⟨z, _, rfl⟩ := he
      rfl
    · obtain ⟨x, rfl, hx, _⟩ := ex he hj
      exact h5 i [x] 0 x hx rfl
    · obtain ⟨x, rfl, hx, hf⟩ := ex he hj
      exact hf τ _ hv (h6 i [x] 0 x hx rfl)

/-! Rows of one cell each. -/
section
variable {P : Program} {N : Nat} {ops : List Oper} {Q : St → Own → Prop} {L : Own} {rest : List (Oper × Kd)} {l : List (Nat × AV)} {k : Kd} {q : Nat}
theorem s_loadV {tt : List (TypeId × TD)} (ok : TOK P tt) (i : Nat) {o : Oper} {T : TypeId} {x : Operand} {d : TD} {v : Value} {E j : Nat} {es : List (List AV)} {a : AV}
    (ho : o.op = .load T x) (hdst : o.dst = some q) (hd : Nat.blt q N = true) (hg : guardA ops o (lk l) = some true) (hk : k ≠ .pure) (hT : lkT tt T = some d) (ha : d.isAgg = false) (hx : ev (lk l) x = .pt v 1 j 0) (hL : L[i]? = some (v, .row E 1 es)) (hj : es[j]? = some [a])
    (n : AL P N ops Q rest (lk ((q, a) :: l)) L) : AL P N ops Q ((o, k) :: rest) (lk l) L :=
  s_ownLoad ok i ho hdst hd hg hk hT hx hL rfl (cells := [a]) (by simp only [obAt, hj]; rfl) (by simp [partA, ha]) (by simp) n
theorem s_storeV {tt : List (TypeId × TD)} (ok : TOK P tt) (i : Nat) {o : Oper} {T : TypeId} {x y : Operand} {d : TD} {v u : Value} {E j : Nat} {es : List (List AV)} {c : AV}
    (ho : o.op = .store T x y) (hdst : o.dst = none) (hg : guardA ops o (lk l) = some true) (hT : lkT tt T = some d) (hd1 : d.size = 1) (hx : ev (lk l) x = .pt v 1 j 0) (hy : ev (lk l) y = .lit u) (hu : u.oneCell' = true) (hL : L[i]? = some (v, .row E 1 es)) (hj : es[j]? = some [c])
    (n : AL P N ops Q rest (lk l) (L.set i (v, .row E 1 (es.set j [.lit u])))) : AL P N ops Q ((o, .eff) :: rest) (lk l) L := by
  refine s_store ok i ho hdst hg hT hx hy (by simpa [AV.storable, AV.cell] using hu) (by rw [hd1]; rfl) (by omega) hL rfl (cells := [c]) (by simp only [obAt, hj]; rfl) (by simp [AV.cells]) ?_
  have : obSet (.row E 1 es) j 0 (AV.cells (.lit u)) = .row E 1 (es.set j [.lit u]) := by
    simp only [obSet]
    rw [List.getD_eq_getElem?_getD, hj]
    rfl
  rw [this]
  exact n
end

/-! Groups. -/
theorem flat_get {A : Type} {m : Nat} : ∀ (G : List (List A)), (∀ g ∈ G, g.length = m) → ∀ {i k : Nat} {g : List A}, G[i]? = some g → k < m → G.flatten[i * m + k]? = g[k]?
  | [], _, i, k, g, h, _ => by simp at h
  | g0 :: G, hm, 0, k, g, h, hk => by
    simp at h
    subst h
    have := hm g0 (by simp)
    rw [List.flatten_cons, Nat.zero_mul, Nat.zero_add, List.getElem?_append_left (by omega)]
  | g0 :: G, hm, i + 1, k, g, h, hk => by
    have h0 := hm g0 (by simp)
    have e : (i + 1) * m + k = g0.length + (i * m + k) := by rw [h0, Nat.add_mul]; omega
    rw [List.flatten_cons, e, List.getElem?_append_right (by omega), Nat.add_sub_cancel_left]
    exact flat_get G (fun g hg => hm g (by simp [hg])) (by simpa using h) hk
theorem flat_set {A : Type} {m : Nat} : ∀ (G : List (List A)), (∀ g ∈ G, g.length = m) → ∀ {i k : Nat} {g : List A} {x : A}, G[i]? = some g → k < m → G.flatten.set (i * m + k) x = (G.set i (g.set k x)).flatten
  | [], _, i, k, g, x, h, _ => by simp at h
  | g0 :: G, hm, 0, k, g, x, h, hk => by
    simp at h
    subst h
    have := hm g0 (by simp)
    rw [List.flatten_cons, Nat.zero_mul, Nat.zero_add, List.set_append_left _ _ (by omega)]
    rfl
  | g0 :: G, hm, i + 1, k, g, x, h, hk => by
    have h0 := hm g0 (by simp)
    have e : (i + 1) * m + k = g0.length + (i * m + k) := by rw [h0, Nat.add_mul]; omega
    rw [List.flatten_cons, e, List.set_append_right _ _ (by omega), Nat.add_sub_cancel_left, flat_set G (fun g hg => hm g (by simp [hg])) (by simpa using h) hk]
    rfl

/-! The table. -/
section
variable (E2 E3 : Nat) (n : Nat)
def midR (W : Nat → Value) : List (List AV) := (List.range n).map fun j => litR (W j)
def grp (V : Value) (W : Nat → Value) (R : Nat → List Int) : Own := (V, .row E2 1 (midR n W)) :: (List.range n).map fun j => (W j, .row E3 1 (rowI (R j)))
def tblG (V : Nat → Value) (W : Nat → Nat → Value) (R : Nat → Nat → List Int) : List Own := (List.range n).map fun i => grp E2 E3 n (V i) (W i) (R i)
def tblO (V : Nat → Value) (W : Nat → Nat → Value) (R : Nat → Nat → List Int) : Own := (tblG E2 E3 n V W R).flatten
def up1 {A : Type} (f : Nat → A) (j : Nat) (x : A) : Nat → A := fun b => if b = j then x else f b
def up2 {A : Type} (f : Nat → Nat → A) (i j : Nat) (x : A) : Nat → Nat → A := fun a => if a = i then up1 (f a) j x else f a
variable {E2 E3 n}
theorem range_set {A : Type} (f : Nat → A) (i : Nat) (x : A) : ((List.range n).map f).set i x = (List.range n).map (up1 f i x) := by
  refine List.ext_getElem? fun k => ?_
  rw [List.getElem?_set, List.getElem?_map, List.getElem?_map]
  rcases Nat.lt_or_ge k n with h | h
  · rw [List.getElem?_range h]
    unfold up1
    by_cases e : i = k
    · subst e; simp [h]
    · simp [e, Ne.symm e]
  · rw [List.getElem?_eq_none (by simpa using h)]
    by_cases e : i = k
    · subst e; simp; omega
    · simp [e]
theorem range_get {A : Type} {f : Nat → A} {i : Nat} (h : i < n) : ((List.range n).map f)[i]? = some (f i) := by rw [List.getElem?_map, List.getElem?_range h]; rfl
theorem grp_len (V : Value) (W : Nat → Value) (R : Nat → List Int) : (grp E2 E3 n V W R).length = n + 1 := by simp [grp]
theorem tblG_len {V : Nat → Value} {W : Nat → Nat → Value} {R : Nat → Nat → List Int} : ∀ g ∈ tblG E2 E3 n V W R, g.length = n + 1 := fun g hg => by
  obtain ⟨i, _, rfl⟩ := List.mem_map.1 hg
  exact grp_len _ _ _
theorem tbl_mid {V : Nat → Value} {W : Nat → Nat → Value} {R : Nat → Nat → List Int} {i : Nat} (hi : i < n) : (tblO E2 E3 n V W R)[i * (n + 1)]? = some (V i, .row E2 1 (midR n (W i))) := by
  have := flat_get (m := n + 1) (tblG E2 E3 n V W R) tblG_len (i := i) (k := 0) (range_get hi) (by omega)
  rw [Nat.add_zero] at this
  unfold tblO
  rw [this]
  rfl
theorem tbl_in {V : Nat → Value} {W : Nat → Nat → Value} {R : Nat → Nat → List Int} {i j : Nat} (hi : i < n) (hj : j < n) : (tblO E2 E3 n V W R)[i * (n + 1) + (j + 1)]? = some (W i j, .row E3 1 (rowI (R i j))) := by
  unfold tblO
  rw [flat_get (m := n + 1) (tblG E2 E3 n V W R) tblG_len (i := i) (k := j + 1) (range_get hi) (by omega)]
  unfold grp
  rw [List.getElem?_cons_succ]
  exact range_get hj
theorem up1_up1 {A : Type} (f : Nat → A) (i : Nat) (x y : A) : up1 (up1 f i x) i y = up1 f i y := by
  funext b
  unfold up1
  split <;> rfl
/-- A row that changed in place. -/
theorem tbl_setR {V : Nat → Value} {W : Nat → Nat → Value} {R : Nat → Nat → List Int} {i j : Nat} (hi : i < n) (hj : j < n) (r : List Int) :
    (tblO E2 E3 n V W R).set (i * (n + 1) + (j + 1)) (W i j, .row E3 1 (rowI r)) = tblO E2 E3 n V W (up2 R i j r) := by
  unfold tblO
  rw [flat_set (m := n + 1) (tblG E2 E3 n V W R) tblG_len (i := i) (k := j + 1) (range_get hi) (by omega)]
  congr 1
  unfold tblG
  rw [range_set]
  refine List.map_congr_left fun a _ => ?_
  unfold up1 up2
  by_cases e : a = i
  · subst e
    rw [if_pos rfl, if_pos rfl]
    unfold grp
    rw [List.set_cons_succ, range_set]
    congr 1
    refine List.map_congr_left fun b _ => ?_
    unfold up1
    by_cases e : b = j
    · subst e; simp
    · simp [e]
  · rw [if_neg e, if_neg e]
/-- A row that was laid anew. -/
theorem tbl_set {V : Nat → Value} {W : Nat → Nat → Value} {R : Nat → Nat → List Int} {i j : Nat} (hi : i < n) (hj : j < n) (w : Value) (r : List Int) :
    ((tblO E2 E3 n V W R).set (i * (n + 1) + (j + 1)) (w, .row E3 1 (rowI r))).set (i * (n + 1)) (V i, .row E2 1 ((midR n (W i)).set j (litR w))) = tblO E2 E3 n V (up2 W i j w) (up2 R i j r) := by
  have g1 : ∀ g ∈ (tblG E2 E3 n V W R).set i ((grp E2 E3 n (V i) (W i) (R i)).set (j + 1) (w, .row E3 1 (rowI r))), g.length = n + 1 := fun g hg => by
    rcases List.mem_or_eq_of_mem_set hg with h | rfl
    · exact tblG_len g h
    · rw [List.length_set, grp_len]
  unfold tblO
  rw [flat_set (m := n + 1) (tblG E2 E3 n V W R) tblG_len (i := i) (k := j + 1) (range_get hi) (by omega)]
  have := flat_set (m := n + 1) ((tblG E2 E3 n V W R).set i ((grp E2 E3 n (V i) (W i) (R i)).set (j + 1) (w, .row E3 1 (rowI r)))) g1 (i := i) (k := 0) (x := (V i, .row E2 1 ((midR n (W i)).set j (litR w)))) (by rw [List.getElem?_set_self (by simp [tblG]; omega)]) (by omega)
  simp only [Nat.add_zero] at this
  rw [this]
  congr 1
  rw [List.set_set]
  unfold tblG
  rw [range_set]
  refine List.map_congr_left fun a _ => ?_
  unfold up1 up2
  by_cases e : a = i
  · subst e
    rw [if_pos rfl, if_pos rfl, if_pos rfl]
    unfold grp midR
    rw [List.set_cons_succ, List.set_cons_zero, range_set, range_set]
    congr 1
    · congr 2
      refine List.map_congr_left fun b _ => ?_
      unfold up1
      by_cases e : b = j
      · subst e; simp
      · simp [e]
    · refine List.map_congr_left fun b _ => ?_
      unfold up1
      by_cases e : b = j
      · subst e; simp
      · simp [e]
  · rw [if_neg e, if_neg e, if_neg e]
/-- Rows without a length are free. -/
theorem osub_rows {E : Nat} {L M : Own} (h : OSub M L) : ∀ (l : List Nat), OSub ((l.map fun _ => ((.slice none 0 0 : Value), OB.row E 1 (rowI []))) ++ M) L
  | [] => h
  | _ :: l => .free (osub_rows h l)
theorem osub_tbl {V : Nat → Value} : ∀ (l : List Nat), OSub ((l.map fun i => grp E2 E3 n (V i) (fun _ => .slice none 0 0) (fun _ => [])).flatten) (l.map fun i => (V i, OB.row E2 1 (midR n fun _ => .slice none 0 0)))
  | [] => .nil
  | i :: l => by
    rw [List.map_cons, List.map_cons, List.flatten_cons]
    unfold grp
    rw [List.cons_append]
    refine .keep (osub_rows ?_ _)
    exact osub_tbl l

/-! All of it changes no more. -/
theorem turn_manyM {x : AV} {E E' : Nat} {v : Value} {M : Own} (hM : ∀ p ∈ M, match p.2 with | .row _ s e => ∀ x ∈ e, x.length = s | _ => True) : ∀ {vs : List Value} {cs : List (List (List AV))} {done : List (List AV)}, vs.length = cs.length → (∀ c ∈ cs, ∀ e ∈ c, e.length = 1) → (∀ a ∈ done, a.length = 1) →
    Turn x ((v, .row E' 1 (done ++ vs.map litR)) :: (manyO E vs cs ++ M)) x ((v, .row E' 1 (done ++ cs.map imR)) :: M)
  | [], [], done, _, _, _ => by simp only [List.map_nil]; exact .of (Sub.refl _) (OSub.refl _)
  | u :: vs, c :: cs, done, hl, hc, hd => by
    have fz : ∀ {K : Own} {z : Value} {ez : List (List AV)}, FZO z 1 ez K K → FZO z 1 ez (K ++ M) (K ++ M) := fun {K z ez} h => by
      induction K with
      | nil => exact FZO.refl hM
      | cons p K ih =>
        obtain ⟨a, b⟩ := p
        cases b with
        | box _ => exact ⟨h.1, h.2.1, ih h.2.2⟩
        | row _ _ _ => exact ⟨h.1, h.2.1, h.2.2.1, h.2.2.2.1, h.2.2.2.2.1, h.2.2.2.2.2.1, ih h.2.2.2.2.2.2⟩
        | mp _ => exact ⟨h.1, h.2.1, ih h.2.2⟩
    have step : Turn x ((v, .row E' 1 (done ++ (u :: vs).map litR)) :: (manyO E (u :: vs) (c :: cs) ++ M)) x ((v, .row E' 1 ((done ++ [imR c]) ++ vs.map litR)) :: (manyO E vs cs ++ M)) := fun τ F w z a b => by
      have hL : ((v, OB.row E' 1 (done ++ (u :: vs).map litR)) :: (manyO E (u :: vs) (c :: cs) ++ M))[1]? = some (u, .row E 1 c) := rfl
      have hM' : FZO u 1 c (((v, OB.row E' 1 (done ++ (u :: vs).map litR)) :: (manyO E (u :: vs) (c :: cs) ++ M)).eraseIdx 1) ((v, .row E' 1 ((done ++ [imR c]) ++ vs.map litR)) :: (manyO E vs cs ++ M)) := by
        refine ⟨rfl, rfl, rfl, by simp, fun e he => ?_, ?_, fz (fzo_refl_many (fun d hd' => hc d (by simp [hd'])))⟩
        · simp only [List.mem_append, List.mem_singleton, List.mem_map] at he
          rcases he with (he | rfl) | ⟨y, _, rfl⟩
          · exact hd e he
          · rfl
          · rfl
        · rw [List.append_assoc, List.flatten_append, List.flatten_append]
          exact fzl_append _ ⟨FZ.here, FZL.refl _⟩
      obtain ⟨h1, h2⟩ := (a.at hL).freeze hM'
      exact ⟨_, frz_le τ w u, h1, b.mono (frz_le τ w u)⟩
    have ih := turn_manyM (x := x) (E := E) (E' := E') (v := v) hM (vs := vs) (cs := cs) (done := done ++ [imR c]) (by simpa using hl) (fun d hd' => hc d (by simp [hd'])) (fun e he => by
      simp only [List.mem_append, List.mem_singleton] at he
      rcases he with he | rfl
      · exact hd e he
      · rfl)
    have := step.trans ih
    rw [List.append_assoc] at this
    exact this
theorem manyO_range {E : Nat} (W : Nat → Value) (R : Nat → List Int) : ∀ l : List Nat, manyO E (l.map W) (l.map fun j => rowI (R j)) = l.map fun j => (W j, .row E 1 (rowI (R j)))
  | [] => rfl
  | j :: l => by rw [List.map_cons, List.map_cons, manyO, manyO_range W R l]; rfl
abbrev imI (r : List Int) : List AV := [ints r]
/-- A row of the table that changes no more. -/
abbrev rowA (n : Nat) (R : Nat → List Int) : AV := .im 1 ((List.range n).map fun j => imI (R j))
theorem grp_turn {x : AV} {M : Own} (hM : ∀ p ∈ M, match p.2 with | .row _ s e => ∀ x ∈ e, x.length = s | _ => True) (V : Value) (W : Nat → Value) (R : Nat → List Int) :
    Turn x (grp E2 E3 n V W R ++ M) x ((V, .row E2 1 ((List.range n).map fun j => imI (R j))) :: M) := by
  have := turn_manyM (x := x) (E := E3) (E' := E2) (v := V) hM (vs := (List.range n).map W) (cs := (List.range n).map fun j => rowI (R j)) (done := []) (by simp) (fun c hc e he => by
    obtain ⟨j, _, rfl⟩ := List.mem_map.1 hc
    obtain ⟨z, _, rfl⟩ := List.mem_map.1 he
    rfl) (by simp)
  rw [List.nil_append, List.nil_append, List.map_map, List.map_map, manyO_range] at this
  exact this
theorem grp_rows {V : Value} {W : Nat → Value} {R : Nat → List Int} : ∀ p ∈ grp E2 E3 n V W R, match p.2 with | .row _ s e => ∀ x ∈ e, x.length = s | _ => True := fun p hp => by
  rcases List.mem_cons.1 hp with rfl | hp
  · intro x hx
    obtain ⟨j, _, rfl⟩ := List.mem_map.1 hx
    rfl
  · obtain ⟨j, _, rfl⟩ := List.mem_map.1 hp
    intro x hx
    obtain ⟨z, _, rfl⟩ := List.mem_map.1 hx
    rfl
theorem tbl_turnF {A B : AV} {V : Nat → Value} {W : Nat → Nat → Value} {R : Nat → Nat → List Int} : ∀ (l : List Nat) (done : List AV),
    Turn (.ip [A, B, .im 1 ((done ++ l.map fun i => AV.lit (V i)).map fun x => [x])]) ((l.map fun i => grp E2 E3 n (V i) (W i) (R i)).flatten) (.ip [A, B, .im 1 ((done ++ l.map fun i => rowA n (R i)).map fun x => [x])]) []
  | [], done => Turn.of (Sub.refl _) .nil
  | i :: l, done => by
    have hM : ∀ p ∈ (l.map fun i => grp E2 E3 n (V i) (W i) (R i)).flatten, match p.2 with | .row _ s e => ∀ x ∈ e, x.length = s | _ => True := fun p hp => by
      obtain ⟨g, hg, hp⟩ := List.mem_flatten.1 hp
      obtain ⟨i, _, rfl⟩ := List.mem_map.1 hg
      exact grp_rows p hp
    rw [List.map_cons, List.map_cons, List.map_cons, List.flatten_cons]
    refine (grp_turn hM (V i) (W i) (R i)).trans ?_
    refine Turn.trans (y := .ip [A, B, .im 1 (((done ++ [rowA n (R i)]) ++ l.map fun i => AV.lit (V i)).map fun x => [x])]) (M := (l.map fun i => grp E2 E3 n (V i) (W i) (R i)).flatten) ?_ ?_
    · refine Turn.freeze 0 rfl (FZ.ipM ⟨FZ.refl _, FZ.refl _, FZ.imM ?_, trivial⟩)
      rw [List.append_assoc]
      exact fzl_append _ ⟨FZ.here, FZL.refl _⟩
    · have := tbl_turnF (A := A) (B := B) (V := V) (W := W) (R := R) l (done ++ [rowA n (R i)])
      simp only [List.append_assoc, List.cons_append, List.nil_append] at this ⊢
      exact this
theorem tbl_turn {A B : AV} {V : Nat → Value} {W : Nat → Nat → Value} {R : Nat → Nat → List Int} :
    Turn (.ip [A, B, .im 1 ((List.range n).map fun i => litR (V i))]) (tblO E2 E3 n V W R) (.ip [A, B, .im 1 ((List.range n).map fun i => [rowA n (R i)])]) [] := by
  have := tbl_turnF (E2 := E2) (E3 := E3) (n := n) (A := A) (B := B) (V := V) (W := W) (R := R) (List.range n) []
  rw [List.nil_append, List.nil_append, List.map_map, List.map_map] at this
  exact this
end
end Go.Sj

/-
  Handing what is owned, rows and boxes, to a callee that only reads. No condition; nothing here names a program.
-/
namespace Go.Sj
set_option linter.unusedVariables false
set_option linter.unusedSimpArgs false

/-- What an owned thing is while it does not change. -/
def Frz (τ : Hp) : Value × OB → Prop
  | (v, .row _ sz es) => VR τ (.im sz es) v
  | (v, .box cells) => ∃ b, v = .pointer (some ⟨b, 0, none⟩) ∧ VR τ (.ip cells) v
  | (_, .mp _) => True
def FV (L : Own) (x y : AV) : Prop := ∀ (τ : Hp) (u : Value), (∀ p ∈ L, Frz τ p) → VR τ x u → VR τ y u
def FVL (L : Own) : List AV → List AV → Prop
  | [], [] => True
  | x :: l, y :: m => FV L x y ∧ FVL L l m
  | _, _ => False
theorem FV.refl {L : Own} (x : AV) : FV L x x := fun τ u _ k => k
theorem FV.row {L : Own} {v : Value} {E sz : Nat} {es : List (List AV)} (h : (v, .row E sz es) ∈ L) : FV L (.lit v) (.im sz es) := fun τ u hf k => by
  rw [k.lit_inv]
  exact hf _ h
theorem FV.box {L : Own} {v : Value} {cells : List AV} (h : (v, .box cells) ∈ L) : FV L (.pt v 0 0 0) (.ip cells) := fun τ u hf k => by
  obtain ⟨b, hv, h1⟩ := hf _ h
  subst hv
  cases k with
  | pt _ _ _ _ b' hb' =>
    simp [blk] at hb'
    subst hb'
    simpa using h1
theorem FVL.at {L : Own} : ∀ {l m : List AV}, FVL L l m → l.length = m.length ∧ ∀ {j : Nat} {y : AV}, m[j]? = some y → ∃ x, l[j]? = some x ∧ FV L x y
  | [], [], _ => ⟨rfl, fun {j y} hy => by simp at hy⟩
  | x :: l, z :: m, h => by
    obtain ⟨h1, h2⟩ := FVL.at h.2
    refine ⟨by rw [List.length_cons, List.length_cons, h1], fun {j y} hy => ?_⟩
    cases j with
    | zero => simp at hy; subst hy; exact ⟨x, rfl, h.1⟩
    | succ j =>
      obtain ⟨x', h3, h4⟩ := h2 (j := j) (by simpa using hy)
      exact ⟨x', by simpa using h3, h4⟩
  | [], _ :: _, h => h.elim
  | _ :: _, [], h => h.elim
theorem FVL.refl {L : Own} : ∀ l, FVL L l l
  | [] => trivial
  | x :: l => ⟨FV.refl x, FVL.refl l⟩
theorem FV.ip {L : Own} {l m : List AV} (h : FVL L l m) : FV L (.ip l) (.ip m) := fun τ u hv hu => by
  obtain ⟨_, h⟩ := h.at
  cases hu with
  | ip _ b off c E fr f h1 h2 h3 =>
    refine .ip m b off c E fr f h1 (fun j y hy => ?_) (fun j y hy => ?_)
    · obtain ⟨x, hx, _⟩ := h hy
      exact h2 j x hx
    · obtain ⟨x, hx, hz⟩ := h hy
      exact hz τ _ hv (h3 j x hx)
theorem FV.fn {L : Own} {g : Fn} {l m k k' : List AV} (h : FVL L l m) (h' : FVL L k k') : FV L (.fn g l k) (.fn g m k') := fun τ u hv hu => by
  obtain ⟨e1, h⟩ := h.at
  obtain ⟨e2, h'⟩ := h'.at
  cases hu with
  | fn _ _ _ al ak f hh s1 s2 h1 h2 h3 h4 =>
    refine .fn g m k' al ak f hh (by rw [s1, e1]) (by rw [s2, e2]) (fun j y hy => ?_) (fun j y hy => ?_) (fun j y hy => ?_) (fun j y hy => ?_)
    · obtain ⟨x, hx, _⟩ := h hy
      exact h1 j x hx
    · obtain ⟨x, hx, hz⟩ := h hy
      exact hz τ _ hv (h2 j x hx)
    · obtain ⟨x, hx, _⟩ := h' hy
      exact h3 j x hx
    · obtain ⟨x, hx, hz⟩ := h' hy
      exact hz τ _ hv (h4 j x hx)
theorem FVL.vrs {L : Own} {τ : Hp} {l m : List AV} {vs : List Value} (h : FVL L l m) (hf : ∀ p ∈ L, Frz τ p) (k : VRs τ l vs) : VRs τ m vs := by
  obtain ⟨e, h⟩ := h.at
  refine ⟨by rw [k.1, e], fun j y u hy hu => ?_⟩
  obtain ⟨x, hx, hz⟩ := h hy
  exact hz τ u hf (k.2 j x u hx hu)
theorem own_box_frozen {σ τ : Hp} {w : World} {v : Value} {cells : List AV} (h : Own1 σ w (v, .box cells)) (hle : σ.le τ) (hb : ∀ b, blk v = some b → τ b = w.heap[b]?) : ∃ b, v = .pointer (some ⟨b, 0, none⟩) ∧ VR τ (.ip cells) v := by
  obtain ⟨b, c0, E, hv, hc, hcs⟩ := h
  refine ⟨b, hv, ?_⟩
  subst hv
  refine .ip cells b 0 c0 E (0, 0) (fun j => c0.getD j undef) (by rw [hb b rfl]; exact hc) (fun j x hx => ?_) (fun j x hx => ?_)
  · obtain ⟨y, hy, _⟩ := hcs.get hx
    simp at hy
    simp [Array.getD_eq_getD_getElem?, hy]
  · obtain ⟨y, hy, hxy⟩ := hcs.get hx
    simp at hy
    simpa [Array.getD_eq_getD_getElem?, hy] using hxy.mono hle
/-- All that is handed comes back. -/
theorem ACalls.lendA {P : Program} {f : FuncId} {args args' : List AV} {L : Own} {R : AV → Own → Prop} (h : ACalls P f args [] R) (hz : FVL L args' args) (hfree : ∀ x M, R x M → Free x ∧ M = []) :
    ACalls P f args' L fun x M => R x [] ∧ M = L :=
  ⟨h.ok, fun σ F w vs hr hvs => by
    let B := L.filterMap (blk ∘ Prod.fst)
    have hap : ∀ b ∈ B, σ b = none ∧ F.h b = none := hr.apart
    have hmemB : ∀ p ∈ L, ∀ b, blk p.1 = some b → b ∈ B := fun p hp b hb => List.mem_filterMap.2 ⟨p, hp, hb⟩
    let τ : Hp := fun b => match σ b with
      | some o => some o
      | none => if b ∈ B then w.heap[b]? else none
    have hle : σ.le τ := fun b o hb => by simp only [τ, hb]
    have hat : ∀ b ∈ B, τ b = w.heap[b]? := fun b hb => by simp only [τ, (hap b hb).1, if_pos hb]
    have hfrz : ∀ p ∈ L, Frz τ p := fun p hp => by
      have ho := hr.own p hp
      obtain ⟨v, ob⟩ := p
      cases ob with
      | row E sz es => exact own_frozen ho hle fun b hb => hat b (hmemB _ hp b hb)
      | box cells => exact own_box_frozen ho hle fun b hb => hat b (hmemB _ hp b hb)
      | mp m => trivial
    have hrel : HRel τ [] F w := by
      refine ⟨fun b o hb => ?_, hr.frame, hr.os, hr.out, by simp, fun b o hb => ?_, by simp, by simp⟩
      · simp only [τ] at hb
        split at hb
        · rename_i o' ho
          cases hb
          exact hr.agree b o ho
        · split at hb
          · exact hb
          · cases hb
      · simp only [τ] at hb
        split at hb
        · rename_i o' ho
          exact hr.sep b o' ho
        · split at hb
          · rename_i hbB
            exact (hap b hbB).2
          · cases hb
    have hargs : VRs τ args vs := hz.vrs hfrz (hvs.mono hle)
    refine (h.out τ F w vs hrel hargs).mono fun e w' ⟨u, he, τ1, x, M, k1, k2, k3, k4⟩ => ?_
    obtain ⟨f1, f2⟩ := hfree x M k4
    subst f2
    let τ' : Hp := fun b => if b ∈ B then none else τ1 b
    have hle' : σ.le τ' := fun b o hb => by
      have hne : b ∉ B := fun e => by rw [(hap b e).1] at hb; cases hb
      show (if b ∈ B then none else τ1 b) = some o
      rw [if_neg hne]
      exact k1 b o (hle b o hb)
    have hsub : Hp.le τ' τ1 := fun b o hb => by
      by_cases hb' : b ∈ B
      · simp [τ', hb'] at hb
      · simpa [τ', hb'] using hb
    have hblock : ∀ p ∈ L, ∀ b, blk p.1 = some b → w'.heap[b]? = w.heap[b]? := fun p hp b hb => by
      have hlt := (hr.own p hp).lt hb
      have e0 : w.heap[b]? = some w.heap[b] := Array.getElem?_eq_getElem hlt
      have e1 : τ b = some w.heap[b] := by rw [hat b (hmemB p hp b hb)]; exact e0
      rw [e0]
      exact k2.agree b _ (k1 b _ e1)
    refine ⟨u, he, τ', x, L, hle', ⟨k2.agree.mono hsub, k2.frame, k2.os, k2.out, fun p hp => ?_, fun b o hb => k2.sep b o (hsub b o hb), hr.nodup, fun b hb => ?_⟩, f1.move k3, k4, rfl⟩
    · exact ((hr.own p hp).mono hle').kept fun b hb => hblock p hp b hb
    · refine ⟨?_, (hap b hb).2⟩
      show (if b ∈ B then none else τ1 b) = none
      rw [if_pos hb]⟩

section
variable {P : Program} {N : Nat} {ops : List Oper} {Q : St → Own → Prop} {L : Own} {rest : List (Oper × Kd)} {l : List (Nat × AV)} {k : Kd} {q : Nat}
theorem s_min2 {o : Oper} {x y : Operand} {tys : Array TypeId} {kk : IntKind} {a b : Int} (ho : o.op = .call ⟨.builtin .min, #[x, y], tys⟩) (hdst : o.dst = some q) (hd : Nat.blt q N = true) (hg : guardA ops o (lk l) = some true)
    (hx : ev (lk l) x = .lit (.int kk a)) (hy : ev (lk l) y = .lit (.int kk b))
    (n : AL P N ops Q rest (lk ((q, .lit (.int kk (min a b))) :: l)) L) : AL P N ops Q ((o, k) :: rest) (lk l) L := by
  obtain ⟨dst, op', ty, pos, after, g⟩ := o
  simp only at ho
  subst ho
  refine s_pure hdst hd hg ⟨fun σ F w ρ hR hρ => ⟨.int kk (min a b), ?_, .lit _⟩⟩ n
  have h1 := hρ x (by simp [Op.operands, Call.operands])
  have h2 := hρ y (by simp [Op.operands, Call.operands])
  rw [hx] at h1
  rw [hy] at h2
  simp [execOp, resolve, invoke, builtin, h1.lit_inv, h2.lit_inv, Builtin.min_, Builtin.min2]
  omega
theorem s_nilNil {tt : List (TypeId × TD)} (ok : TOK P tt) {o : Oper} {T T' : TypeId} {x : Operand} {E s1 b1 : Nat} {z1 : List Value}
    (ho : o.op = .binOp .eql T x (.const (.slice none 0 0)) T') (hdst : o.dst = some q) (hd : Nat.blt q N = true) (hg : guardA ops o (lk l) = some true) (hT : lkT tt T = some ⟨.slice E, s1, b1, z1⟩) (hx : ev (lk l) x = .lit (.slice none 0 0))
    (n : AL P N ops Q rest (lk ((q, .lit (.bool true)) :: l)) L) : AL P N ops Q ((o, k) :: rest) (lk l) L := by
  obtain ⟨dst, op', ty, pos, after, g⟩ := o
  simp only at ho
  subst ho
  refine s_pure hdst hd hg ⟨fun σ F w ρ hR hρ => ⟨.bool true, ?_, .lit _⟩⟩ n
  have h1 := hρ x (by simp [Op.operands])
  have h2 := hρ (.const (.slice none 0 0)) (by simp [Op.operands])
  rw [hx] at h1
  have h2' : ρ (.const (.slice none 0 0)) = .slice none 0 0 := h2.lit_inv
  have hu := (ok _ _ hT).slice rfl
  simp [execOp, h1.lit_inv, h2', eqGuard, binOp, eqNil_run hu]
end
end Go.Sj
