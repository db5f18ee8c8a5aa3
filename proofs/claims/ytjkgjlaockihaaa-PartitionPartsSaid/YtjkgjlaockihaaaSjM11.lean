/-
  Quotients, classes: what the law asks of them; what pairs generate: plain mathematics.
-/
import Derived.Test.YtjkgjlaockihaaaSjM6
namespace Go.Sj.Part
set_option linter.unusedVariables false
set_option linter.unusedSimpArgs false

theorem sum_bump {f : Nat → Nat} {x : Nat} : ∀ {l : List Nat}, l.Nodup → x ∈ l → (l.map fun r => f r + if x = r then 1 else 0).sum = (l.map f).sum + 1
  | [], _, h => by simp at h
  | a :: l, hn, h => by
    obtain ⟨h1, h2⟩ := List.nodup_cons.1 hn
    simp only [List.map_cons, List.sum_cons]
    by_cases e : x = a
    · subst e
      have : ∀ l : List Nat, x ∉ l → (l.map fun r => f r + if x = r then 1 else 0) = l.map f := fun l hl => List.map_congr_left fun r hr => by
        rw [if_neg (fun e => hl (by rw [e]; exact hr)), Nat.add_zero]
      rw [this l h1, if_pos rfl]
      omega
    · have hx : x ∈ l := by
        rcases List.mem_cons.1 h with h | h
        · exact absurd h e
        · exact h
      rw [sum_bump h2 hx, if_neg e]
      omega
/-- All classes together have all elements, once. -/
theorem count_reps {p : List Nat} (hp : PartN p) : ∀ m, m ≤ p.length → ((repsTo p p.length).map fun r => ((List.range m).filter fun j => p.getD j 0 == r).length).sum = m
  | 0, _ => by
    generalize repsTo p p.length = l
    induction l with
    | nil => rfl
    | cons a l ih => simpa using ih
  | m + 1, hm => by
    have ih := count_reps hp m (by omega)
    have h1 := hp m (by omega)
    have hmem : p.getD m 0 ∈ repsTo p p.length := by
      simp only [repsTo, List.mem_filter, List.mem_range, beq_iff_eq]
      exact ⟨by omega, h1.2⟩
    have hnd : (repsTo p p.length).Nodup := List.nodup_range.filter _
    have e : (fun r => ((List.range (m + 1)).filter fun j => p.getD j 0 == r).length) = fun r => ((List.range m).filter fun j => p.getD j 0 == r).length + if p.getD m 0 = r then 1 else 0 := by
      funext r
      rw [List.range_succ, List.filter_append, List.length_append]
      congr 1
      by_cases h : p.getD m 0 = r
      · rw [if_pos h, List.filter_cons, if_pos (beq_iff_eq.2 h)]; rfl
      · rw [if_neg h, List.filter_cons, if_neg (by simpa using h)]; rfl
    rw [e, sum_bump hnd hmem, ih]
theorem count_all {p : List Nat} (hp : PartN p) : ((clsN p).map List.length).sum = p.length := by
  have := count_reps hp p.length (Nat.le_refl _)
  rw [clsN, List.map_map]
  exact this
theorem cls_head {p : List Nat} (hp : PartN p) {r : Nat} (hr : p.getD r 0 = r) : ∀ k, r < k → k ≤ p.length → ((List.range k).filter fun j => p.getD j 0 == r)[0]? = some r := by
  have h0 : ∀ k, k ≤ r → k ≤ p.length → ((List.range k).filter fun j => p.getD j 0 == r) = [] := fun k hk hl => List.filter_eq_nil_iff.2 fun j hj => by
    rw [List.mem_range] at hj
    have := (hp j (by omega)).1
    simp only [beq_iff_eq]
    omega
  intro k
  induction k with
  | zero => intro h; omega
  | succ k ih =>
    intro h1 h2
    rw [List.range_succ, List.filter_append]
    rcases Nat.lt_or_ge r k with h3 | h3
    · have := ih h3 (by omega)
      rw [List.getElem?_append_left (List.getElem?_eq_some_iff.1 this).1]
      exact this
    · obtain rfl : r = k := by omega
      rw [h0 r (Nat.le_refl _) (by omega), List.nil_append, List.filter_cons, if_pos (beq_iff_eq.2 hr)]
      rfl
/-- What is known of the classes. -/
theorem cls_facts {p : List Nat} (hp : PartN p) {i : Nat} {c : List Nat} (h : (clsN p)[i]? = some c) : ∃ r, c[0]? = some r ∧ ∀ (j k : Nat), c[j]? = some k → k < p.length ∧ (quoN p)[k]? = some i ∧ p.getD k 0 = r := by
  simp only [clsN, List.getElem?_map, Option.map_eq_some_iff] at h
  obtain ⟨r, h1, rfl⟩ := h
  obtain ⟨h2, h3⟩ := reps_mem h1
  refine ⟨r, cls_head hp h3 p.length h2 (Nat.le_refl _), fun j k hk => ?_⟩
  have := List.mem_of_getElem? hk
  simp only [List.mem_filter, List.mem_range, beq_iff_eq] at this
  refine ⟨this.1, ?_, this.2⟩
  rw [quoN_get this.1, this.2, reps_cnt h1]
theorem clsN_length (p : List Nat) : (clsN p).length = cnt p p.length := by simp [clsN, cnt]
def sumTo (l : List (List Nat)) (i : Nat) : Nat := ((l.take i).map List.length).sum
theorem sumTo_succ {l : List (List Nat)} {i : Nat} {c : List Nat} (h : l[i]? = some c) : sumTo l (i + 1) = sumTo l i + c.length := by
  obtain ⟨hi, rfl⟩ := List.getElem?_eq_some_iff.1 h
  rw [sumTo, List.take_succ_eq_append_getElem hi, List.map_append, List.sum_append]
  simp [sumTo]
theorem sumTo_le (l : List (List Nat)) (i : Nat) : sumTo l i ≤ (l.map List.length).sum := by
  have := List.take_append_drop i l
  have h : (l.map List.length).sum = ((l.take i).map List.length).sum + ((l.drop i).map List.length).sum := by
    rw [← List.sum_append, ← List.map_append, this]
  rw [h, sumTo]; omega
theorem oneE_part {p : List Nat} (hp : PartN p) (h : p.length ≤ 80) : oneE (nI p) = 0 := by
  simp [oneE, right_of_part hp, nI_length, show ¬ 80 < p.length by omega]
end Go.Sj.Part
