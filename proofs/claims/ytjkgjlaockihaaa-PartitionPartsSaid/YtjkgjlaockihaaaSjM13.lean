/-
  What parts of pairs generate; lists turned around: plain mathematics.
-/
import Derived.Test.YtjkgjlaockihaaaSjM6
namespace Go.Sj.Part
set_option linter.unusedVariables false

theorem inP_sub {n : Nat} {l m : List (Nat × Nat)} (h : InP n l) (k : ∀ q ∈ m, q ∈ l) : InP n m := fun q hq => h q (k q hq)
theorem gen_reverse {n : Nat} {l : List (Nat × Nat)} (h : InP n l) : genN n l.reverse = genN n l := by
  have h2 : InP n l.reverse := inP_sub h fun q hq => by simpa using hq
  refine ext_up (gen_part h2) (gen_part h) (by rw [genN_length, genN_length]) fun c => ?_
  rw [le_gen h2, le_gen h]
  simp
theorem gen_parts {n : Nat} {l : List (Nat × Nat)} (h : InP n l) (k : Nat) : genN n l = joinN (genN n (l.take k)) (genN n (l.drop k)) := by
  have h1 : InP n (l.take k) := inP_sub h fun q hq => List.mem_of_mem_take hq
  have h2 : InP n (l.drop k) := inP_sub h fun q hq => List.mem_of_mem_drop hq
  have p1 := gen_part h1
  have p2 := gen_part h2
  have e : (genN n (l.take k)).length = (genN n (l.drop k)).length := by rw [genN_length, genN_length]
  refine ext_up (gen_part h) (join_part p1 p2 e) (by rw [joinN_len, genN_length, genN_length]) fun c => ?_
  rw [le_gen h, le_join p1 p2 e, le_gen h1, le_gen h2]
  constructor
  · intro hc
    exact ⟨fun q hq => hc q (List.mem_of_mem_take hq), fun q hq => hc q (List.mem_of_mem_drop hq)⟩
  · rintro ⟨a, b⟩ q hq
    rw [← List.take_append_drop k l] at hq
    rcases List.mem_append.1 hq with hq | hq
    · exact a q hq
    · exact b q hq
def pI (q : Nat × Nat) : Int × Int := (q.1, q.2)
theorem prN_pI (l : List (Nat × Nat)) : prN (l.map pI) = l := by
  simp only [prN, List.map_map]
  conv => rhs; rw [← List.map_id l]
  apply List.map_congr_left
  intro q _
  simp [pI]
theorem genR_pI {n : Nat} {l : List (Nat × Nat)} (h : InP n l) (hn : n ≤ 80) : genR n (l.map pI) = (nI (genN n l), 0) := by
  have hb : (l.map pI).any (badP n) = false := by
    cases e : (l.map pI).any (badP n) with
    | false => rfl
    | true =>
      rw [List.any_eq_true] at e
      obtain ⟨q, h1, h2⟩ := e
      rw [List.mem_map] at h1
      obtain ⟨z, hz, rfl⟩ := h1
      have := h z hz
      unfold badP pI at h2
      simp at h2
      omega
  simp only [genR, if_neg (show ¬ 80 < (n : Int) by omega), if_neg (show ¬ (n : Int) < 0 by omega), hb, Bool.false_eq_true, if_false, prN_pI, Int.toNat_natCast]

/-- A list turned around as far as i. -/
def revTo {α : Type} (n : Nat) (f : Nat → α) (i k : Nat) : α := if k < i ∨ n < k + i + 1 then f (n - 1 - k) else f k
def mkL {α : Type} (n : Nat) (f : Nat → α) : List α := (List.range n).map f
theorem mkL_length {α : Type} (n : Nat) (f : Nat → α) : (mkL n f).length = n := by simp [mkL]
theorem mkL_get {α : Type} {n i : Nat} (h : i < n) (f : Nat → α) : (mkL n f)[i]? = some (f i) := by simp [mkL, h]
theorem rev_step {α : Type} {n i : Nat} (f : Nat → α) (h : i + i + 1 < n) : ((mkL n (revTo n f i)).set i (f (n - 1 - i))).set (n - 1 - i) (f i) = mkL n (revTo n f (i + 1)) := by
  apply List.ext_getElem?
  intro k
  rw [List.getElem?_set, List.getElem?_set]
  simp only [List.length_set, mkL_length]
  by_cases hk : k < n
  · rw [mkL_get hk, mkL_get hk]
    simp only [revTo]
    by_cases e1 : n - 1 - i = k
    · subst e1
      rw [if_pos rfl, if_pos hk, if_pos (by omega), show n - 1 - (n - 1 - i) = i by omega]
    · rw [if_neg e1]
      by_cases e2 : i = k
      · subst e2
        rw [if_pos rfl, if_pos hk, if_pos (by omega)]
      · rw [if_neg e2]
        by_cases e3 : k < i ∨ n < k + i + 1
        · rw [if_pos e3, if_pos (by omega)]
        · rw [if_neg e3, if_neg (by omega)]
  · rw [List.getElem?_eq_none (by rw [mkL_length]; omega), List.getElem?_eq_none (by rw [mkL_length]; omega)]
    split
    · rw [if_neg (by omega)]
    · split
      · rw [if_neg (by omega)]
      · rfl
theorem rev_zero {α : Type} [Inhabited α] (l : List α) : mkL l.length (revTo l.length (fun k => l.getD k default) 0) = l := by
  apply List.ext_getElem?
  intro k
  by_cases hk : k < l.length
  · rw [mkL_get hk, revTo, if_neg (by omega)]
    simp [List.getD_eq_getElem?_getD, hk]
  · rw [List.getElem?_eq_none (by rw [mkL_length]; omega), List.getElem?_eq_none (by omega)]
theorem rev_all {α : Type} [Inhabited α] (l : List α) {i : Nat} (h : l.length ≤ i + i + 1) : mkL l.length (revTo l.length (fun k => l.getD k default) i) = l.reverse := by
  apply List.ext_getElem?
  intro k
  by_cases hk : k < l.length
  · rw [mkL_get hk, List.getElem?_reverse hk]
    simp only [revTo]
    have g : ∀ j, j < l.length → some (l.getD j default) = l[j]? := fun j hj => by simp [List.getD_eq_getElem?_getD, hj]
    split
    · exact g _ (by omega)
    · rw [g k hk]
      congr 1
      omega
  · rw [List.getElem?_eq_none (by rw [mkL_length]; omega), List.getElem?_eq_none (by simp; omega)]
end Go.Sj.Part
