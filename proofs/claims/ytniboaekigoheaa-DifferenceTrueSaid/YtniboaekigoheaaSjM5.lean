/-
  Quotients and classes of a partition: plain mathematics; many rows that change no more.
-/
import Derived.Test.YtniboaekigoheaaSjM4
namespace Go.Sj.Part
set_option linter.unusedVariables false
set_option linter.unusedSimpArgs false

/-- The least elements of the classes, below k. -/
def repsTo (p : List Nat) (k : Nat) : List Nat := (List.range k).filter fun j => p.getD j 0 == j
def cnt (p : List Nat) (k : Nat) : Nat := (repsTo p k).length
def quoN (p : List Nat) : List Nat := (List.range p.length).map fun i => cnt p (p.getD i 0)
def clsN (p : List Nat) : List (List Nat) := (repsTo p p.length).map fun i => (List.range p.length).filter fun j => p.getD j 0 == i

theorem repsTo_succ (p : List Nat) (k : Nat) : repsTo p (k + 1) = repsTo p k ++ if p.getD k 0 = k then [k] else [] := by
  simp only [repsTo, List.range_succ, List.filter_append]
  congr 1
  by_cases h : p.getD k 0 = k
  · simp only [if_pos h]; simp [← List.getD_eq_getElem?_getD, h]
  · simp only [if_neg h]; simp [← List.getD_eq_getElem?_getD, h]
theorem cnt_succ (p : List Nat) (k : Nat) : cnt p (k + 1) = cnt p k + if p.getD k 0 = k then 1 else 0 := by
  simp only [cnt, repsTo_succ, List.length_append]
  split <;> simp
theorem cnt_le (p : List Nat) (k : Nat) : cnt p k ≤ k := by
  induction k with
  | zero => simp [cnt, repsTo]
  | succ k ih => rw [cnt_succ]; split <;> omega
theorem cnt_mono (p : List Nat) {j k : Nat} (h : j ≤ k) : cnt p j ≤ cnt p k := by
  induction k with
  | zero => obtain rfl : j = 0 := by omega
            exact Nat.le_refl _
  | succ k ih =>
    rcases Nat.lt_or_ge k j with h1 | h1
    · obtain rfl : j = k + 1 := by omega
      exact Nat.le_refl _
    · have := ih h1
      rw [cnt_succ]; omega
theorem quoN_length (p : List Nat) : (quoN p).length = p.length := by simp [quoN]
theorem quoN_get {p : List Nat} {i : Nat} (h : i < p.length) : (quoN p)[i]? = some (cnt p (p.getD i 0)) := by
  simp [quoN, h]
theorem quoN_take {p : List Nat} {k : Nat} (h : k < p.length) : (quoN p).take (k + 1) = (quoN p).take k ++ [cnt p (p.getD k 0)] := by
  rw [List.take_succ_eq_append_getElem (by rw [quoN_length]; exact h)]
  simp [quoN]
theorem cnt_lt {p : List Nat} {r k : Nat} (h : r < k) (hr : p.getD r 0 = r) : cnt p r < cnt p k := by
  have h1 := cnt_succ p r
  rw [if_pos hr] at h1
  have h2 := cnt_mono p (show r + 1 ≤ k by omega)
  omega

theorem reps_get {p : List Nat} {n r : Nat} (h : r < n) (hr : p.getD r 0 = r) : (repsTo p n)[cnt p r]? = some r := by
  induction n with
  | zero => omega
  | succ n ih =>
    rw [repsTo_succ]
    rcases Nat.lt_or_ge r n with h1 | h1
    · have h2 := cnt_lt h1 hr
      rw [List.getElem?_append_left (by simpa [cnt] using h2)]
      exact ih h1
    · obtain rfl : r = n := by omega
      rw [if_pos hr, List.getElem?_append_right (by simp [cnt])]
      simp [cnt]
theorem reps_mem {p : List Nat} {n c r : Nat} (h : (repsTo p n)[c]? = some r) : r < n ∧ p.getD r 0 = r := by
  have := List.mem_of_getElem? h
  simp only [repsTo, List.mem_filter, List.mem_range, beq_iff_eq] at this
  exact this
theorem reps_cnt {p : List Nat} {n c r : Nat} (h : (repsTo p n)[c]? = some r) : cnt p r = c := by
  induction n with
  | zero => simp [repsTo] at h
  | succ n ih =>
    rw [repsTo_succ] at h
    by_cases hc : c < (repsTo p n).length
    · rw [List.getElem?_append_left hc] at h
      exact ih h
    · rw [List.getElem?_append_right (by omega)] at h
      split at h
      · have h2 := (List.getElem?_eq_some_iff.1 h).1
        simp at h2
        rw [show c - (repsTo p n).length = 0 by omega] at h
        simp at h
        subst h
        simp only [cnt]; omega
      · simp at h

/-- The classes as the program gathers them: by the numbers of the classes. -/
def gathTo (p : List Nat) (n k : Nat) : List (List Nat) := (List.range n).map fun c => (List.range k).filter fun j => cnt p (p.getD j 0) == c
theorem gathTo_length (p : List Nat) (n k : Nat) : (gathTo p n k).length = n := by simp [gathTo]
theorem gath_all {p : List Nat} (hp : PartN p) : gathTo p (cnt p p.length) p.length = clsN p := by
  apply List.ext_getElem?
  intro c
  simp only [gathTo, clsN, List.getElem?_map]
  by_cases hc : c < cnt p p.length
  · rw [List.getElem?_range hc]
    have hc' : c < (repsTo p p.length).length := hc
    rw [List.getElem?_eq_getElem hc']
    simp only [Option.map_some]
    congr 1
    apply List.filter_congr
    intro j hj
    rw [List.mem_range] at hj
    have h1 := hp j hj
    have h3 : (repsTo p p.length)[c]? = some (repsTo p p.length)[c] := List.getElem?_eq_getElem hc'
    generalize (repsTo p p.length)[c] = r at h3
    have h2 := reps_get (n := p.length) (show p.getD j 0 < p.length by omega) h1.2
    by_cases e : p.getD j 0 = r
    · rw [e, reps_cnt h3]; simp
    · have : cnt p (p.getD j 0) ≠ c := by
        intro e2
        rw [e2, h3] at h2
        exact e (by simpa using h2.symm)
      rw [beq_eq_false_iff_ne.2 this, beq_eq_false_iff_ne.2 e]
  · rw [List.getElem?_eq_none (by simp; omega), List.getElem?_eq_none (by simpa [cnt] using hc)]
    rfl
theorem gath_succ {p : List Nat} {n k : Nat} (h : cnt p (p.getD k 0) < n) : gathTo p n (k + 1) = (gathTo p n k).set (cnt p (p.getD k 0)) ((gathTo p n k).getD (cnt p (p.getD k 0)) [] ++ [k]) := by
  apply List.ext_getElem?
  intro c
  rw [List.getElem?_set]
  by_cases hc : c < n
  · have g : ∀ m, (gathTo p n m)[c]? = some ((List.range m).filter fun j => cnt p (p.getD j 0) == c) := fun m => by simp [gathTo, hc]
    by_cases e : cnt p (p.getD k 0) = c
    · rw [if_pos e, if_pos (by rw [gathTo_length]; omega), g, List.getD_eq_getElem?_getD, e, g]
      simp [List.range_succ, List.filter_append, ← List.getD_eq_getElem?_getD, e]
    · rw [if_neg e, g, g]
      simp [List.range_succ, List.filter_append, ← List.getD_eq_getElem?_getD, e]
  · rw [List.getElem?_eq_none (by rw [gathTo_length]; omega), if_neg (by omega), List.getElem?_eq_none (by rw [gathTo_length]; omega)]
theorem gath_zero (p : List Nat) (n : Nat) : gathTo p n 0 = List.replicate n [] := by
  apply List.ext_getElem?
  intro i
  by_cases h : i < n
  · simp [gathTo, h]
  · rw [List.getElem?_eq_none (by simp [gathTo]; omega), List.getElem?_eq_none (by simp; omega)]

def quoR (a : List Int) : List Int × Int × Int := if oneE a = 0 then (nI (quoN (toN a)), cnt (toN a) a.length, 0) else ([], 0, oneE a)
def clsR (a : List Int) : List (List Nat) × Int := if oneE a = 0 then (clsN (toN a), 0) else ([], oneE a)
theorem oneE_ok {a : List Int} (h : oneE a = 0) : a.length ≤ 80 ∧ rightB a = true := by
  unfold oneE at h
  split at h
  · cases h
  · split at h
    · rename_i h1 h2; exact ⟨by omega, h2⟩
    · cases h
end Go.Sj.Part
