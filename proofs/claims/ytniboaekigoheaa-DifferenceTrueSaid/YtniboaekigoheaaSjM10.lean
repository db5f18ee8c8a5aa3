/-
  Refutations of difference constraints: how they are found, and that they are right: plain mathematics.
-/
import Derived.Test.YtniboaekigoheaaSjM9
namespace Go.Sj.Dif
set_option linter.unusedVariables false
set_option linter.unusedSimpArgs false

def stP : List Ar → Nat
  | [] => 0
  | b :: _ => b.f
def enP : List Ar → Nat
  | [] => 0
  | [b] => b.t
  | _ :: c :: w => enP (c :: w)
theorem enP_snoc (a : Ar) : ∀ w : List Ar, enP (w ++ [a]) = a.t
  | [] => rfl
  | [b] => rfl
  | b :: c :: w => by simpa [enP] using enP_snoc a (c :: w)
theorem stP_snoc (a : Ar) {w : List Ar} (h : w ≠ []) : stP (w ++ [a]) = stP w := by
  cases w with
  | nil => exact absurd rfl h
  | cons b w => rfl
theorem wk_ends {l : List Ar} : ∀ {w : List Ar} {i j : Nat}, Wk l i w j → w ≠ [] → stP w = i ∧ enP w = j
  | [], i, j, _, h => absurd rfl h
  | [a], i, j, ⟨_, h2, h3⟩, _ => ⟨h2, h3⟩
  | a :: b :: w, i, j, ⟨_, h2, h3⟩, _ => ⟨h2, (wk_ends h3 (by simp)).2⟩
theorem wk_snoc {l : List Ar} {w : List Ar} {i : Nat} {a : Ar} (h : Wk l i w a.f) (ha : a ∈ l) : Wk l i (w ++ [a]) a.t := wk_append h ⟨ha, rfl, rfl⟩

/-- Whether an arc is picked. -/
def pickB (T : Nat → Nat → Int) : List Ar → Ar → Bool
  | [], a => decide (T a.t a.f < far) && decide (a.c + T a.t a.f < 0)
  | b :: w, a => decide (a.f = enP (b :: w)) && decide (T a.t b.f < far) && decide (wt (b :: w) + a.c + T a.t b.f < 0)
def stepP (T : Nat → Nat → Int) (A ps : List Ar) : List Ar := match A.find? (pickB T ps) with
  | some a => ps ++ [a]
  | none => ps
def runP (N : Nat) (A : List Ar) : Nat → List Ar → List Ar
  | 0, ps => ps
  | r + 1, ps => runP N A r (stepP (tab N A r) A ps)
/-- The first table with a negative closed list. -/
def fstN (N : Nat) (A : List Ar) : Nat := ((List.range (N + 1)).find? fun m => !diagB N (tab N A m)).getD 0
def refuteR (n : Int) (l : List Tst) : List Ar × Int := if validT n l ≠ 0 then ([], validT n l) else if (distR n.toNat (arcsOf l)).2 = true then ([], 10) else (runP (n.toNat + 1) (arcsOf l) (fstN (n.toNat + 1) (arcsOf l)) [], 0)

section
variable {n : Nat} {A : List Ar} (hA : ∀ a ∈ A, AOk n a)
include hA
theorem fstN_spec (hn : n ≤ 100) (hs : ¬ Sat A) : fstN (n + 1) A ≤ n + 1 ∧ 0 < fstN (n + 1) A ∧ diagB (n + 1) (tab (n + 1) A (fstN (n + 1) A)) = false ∧ ∀ j, j < fstN (n + 1) A → diagB (n + 1) (tab (n + 1) A j) = true := by
  have hr := aok_inr hA
  have hex : ∃ m, m ≤ n + 1 ∧ diagB (n + 1) (tab (n + 1) A m) = false := by
    refine Classical.byContradiction fun hno => hs (sat_of_nonneg hr fun k w hk hw hlen => Int.not_lt.1 fun hlt => hno ⟨w.length, hlen, ?_⟩)
    have := (tab_spec hA w.length (by omega) k k hk hk).2.2 w hw rfl
    exact diag_false hk (by omega)
  obtain ⟨m, hm, hd⟩ := hex
  unfold fstN
  cases e : (List.range (n + 1 + 1)).find? fun m => !diagB (n + 1) (tab (n + 1) A m) with
  | none =>
    have := List.find?_eq_none.1 e m (List.mem_range.2 (by omega))
    simp [hd] at this
  | some k =>
    rw [Option.getD_some]
    have h1 := List.find?_some e
    have h2 := List.mem_of_find?_eq_some e
    rw [List.mem_range] at h2
    have h3 : diagB (n + 1) (tab (n + 1) A k) = false := by simpa using h1
    have h0 : 0 < k := by
      rcases Nat.eq_zero_or_pos k with h | h
      · subst h
        rw [diag_true (fun i _ => by simp [tab, unit0])] at h3
        cases h3
      · exact h
    refine ⟨by omega, h0, h3, fun j hj => ?_⟩
    obtain ⟨as, bs, e1, e2⟩ := List.find?_eq_some_iff_append.1 e |>.2
    have hlen : as.length = k := by
      have h4 : (List.range (n + 1 + 1))[as.length]? = some k := by rw [e1]; simp
      have h5 := (List.getElem?_eq_some_iff.1 h4).1
      rw [List.getElem?_range (by simpa using h5)] at h4
      simpa using h4
    have hjm : j ∈ as := by
      have h6 : (List.range (n + 1 + 1))[j]? = some j := List.getElem?_range (by omega)
      rw [e1, List.getElem?_append_left (by omega)] at h6
      exact List.mem_of_getElem? h6
    simpa using e2 j hjm

def InvP (n : Nat) (A : List Ar) (r : Nat) (ps : List Ar) : Prop := (ps = [] ∧ ∃ i, i < n + 1 ∧ tab (n + 1) A r i i < 0) ∨ (ps ≠ [] ∧ Wk A (stP ps) ps (enP ps) ∧ tab (n + 1) A r (enP ps) (stP ps) < far ∧ wt ps + tab (n + 1) A r (enP ps) (stP ps) < 0)

theorem wk_lt : ∀ {w : List Ar} {i j : Nat}, Wk A i w j → w ≠ [] → i < n + 1 ∧ j < n + 1
  | [], _, _, _, h => absurd rfl h
  | [a], i, j, ⟨h1, h2, h3⟩, _ => by
    have := hA a h1
    simp only [AOk] at this
    simp only [Wk] at h3
    omega
  | a :: b :: w, i, j, ⟨h1, h2, h3⟩, _ => by
    have := hA a h1
    simp only [AOk] at this
    have := wk_lt (w := b :: w) h3 (by simp)
    omega
theorem inv_step {r : Nat} {ps : List Ar} (h : InvP n A (r + 1) ps) : ∃ a, A.find? (pickB (tab (n + 1) A r) ps) = some a ∧ InvP n A r (ps ++ [a]) := by
  -- some arc may be picked
  have hex : ∃ a ∈ A, pickB (tab (n + 1) A r) ps a = true := by
    rcases h with ⟨rfl, i, hi, hneg⟩ | ⟨hne, hw, h1, h2⟩
    · obtain ⟨k1, k2, k3⟩ := stL_facts (S := tab (n + 1) A r) (N := n + 1) hi A (fun _ _ => far) i
      change tab (n + 1) A (r + 1) i i ≤ far at k1
      rcases k2 with k2 | ⟨a, e1, e2, e3, e4⟩
      · change tab (n + 1) A (r + 1) i i = far at k2
        rw [k2] at hneg
        exact absurd hneg (by decide)
      · change tab (n + 1) A (r + 1) i i = _ at e4
        subst e2
        refine ⟨a, e1, ?_⟩
        simp only [pickB, Bool.and_eq_true, decide_eq_true_eq]
        exact ⟨e3, by omega⟩
    · obtain ⟨g1, g2⟩ := wk_lt hA hw hne
      obtain ⟨k1, k2, k3⟩ := stL_facts (S := tab (n + 1) A r) (N := n + 1) g1 A (fun _ _ => far) (enP ps)
      rcases k2 with k2 | ⟨a, e1, e2, e3, e4⟩
      · change tab (n + 1) A (r + 1) _ _ = far at k2
        omega
      · change tab (n + 1) A (r + 1) _ _ = _ at e4
        refine ⟨a, e1, ?_⟩
        cases ps with
        | nil => exact absurd rfl hne
        | cons b w =>
          simp only [pickB, Bool.and_eq_true, decide_eq_true_eq]
          simp only [stP] at *
          exact ⟨⟨e2, e3⟩, by omega⟩
  obtain ⟨a0, ha0, hp0⟩ := hex
  cases e : A.find? (pickB (tab (n + 1) A r) ps) with
  | none => exact absurd hp0 (List.find?_eq_none.1 e a0 ha0)
  | some a =>
    refine ⟨a, rfl, .inr ⟨by simp, ?_⟩⟩
    have h1 := List.find?_some e
    have h2 := List.mem_of_find?_eq_some e
    cases ps with
    | nil =>
      simp only [pickB, Bool.and_eq_true, decide_eq_true_eq] at h1
      refine ⟨⟨h2, rfl, rfl⟩, h1.1, ?_⟩
      simp only [List.nil_append, wt, enP, stP]
      omega
    | cons b w =>
      simp only [pickB, Bool.and_eq_true, decide_eq_true_eq] at h1
      rcases h with ⟨h3, _⟩ | ⟨_, hw, _, _⟩
      · cases h3
      · rw [enP_snoc, stP_snoc a (by simp)]
        rw [← h1.1.1] at hw
        refine ⟨wk_snoc hw h2, h1.1.2, ?_⟩
        rw [wt_append]
        simp only [wt, stP] at *
        omega
theorem run_spec : ∀ (r : Nat) (ps : List Ar), InvP n A r ps → InvP n A 0 (runP (n + 1) A r ps) ∧ (runP (n + 1) A r ps).length = ps.length + r
  | 0, ps, h => ⟨h, rfl⟩
  | r + 1, ps, h => by
    obtain ⟨a, h1, h2⟩ := inv_step hA h
    have e : stepP (tab (n + 1) A r) A ps = ps ++ [a] := by rw [stepP, h1]
    simp only [runP]
    rw [e]
    obtain ⟨k1, k2⟩ := run_spec r (ps ++ [a]) h2
    exact ⟨k1, by rw [k2]; simp; omega⟩
/-- The refutation is a closed list with a negative sum, and not long. -/
theorem refute_spec (hn : n ≤ 100) (hs : ¬ Sat A) : runP (n + 1) A (fstN (n + 1) A) [] ≠ [] ∧ Wk A (stP (runP (n + 1) A (fstN (n + 1) A) [])) (runP (n + 1) A (fstN (n + 1) A) []) (stP (runP (n + 1) A (fstN (n + 1) A) [])) ∧ wt (runP (n + 1) A (fstN (n + 1) A) []) < 0 ∧ (runP (n + 1) A (fstN (n + 1) A) []).length ≤ n + 1 := by
  obtain ⟨f1, f2, f3, f4⟩ := fstN_spec hA hn hs
  have hi : ∃ i, i < n + 1 ∧ tab (n + 1) A (fstN (n + 1) A) i i < 0 := by
    refine Classical.byContradiction fun hno => ?_
    rw [diag_true fun i hi => Int.not_lt.1 fun h => hno ⟨i, hi, h⟩] at f3
    cases f3
  obtain ⟨k1, k2⟩ := run_spec hA (fstN (n + 1) A) [] (.inl ⟨rfl, hi⟩)
  generalize runP (n + 1) A (fstN (n + 1) A) [] = ps at *
  rcases k1 with ⟨rfl, _⟩ | ⟨h1, h2, h3, h4⟩
  · simp at k2; omega
  · simp only [tab, unit0] at h3 h4
    by_cases e : enP ps = stP ps
    · rw [if_pos e] at h4
      rw [e] at h2
      exact ⟨h1, h2, by omega, by simp at k2; omega⟩
    · rw [if_neg e] at h3
      exact absurd h3 (by decide)
end
end Go.Sj.Dif
