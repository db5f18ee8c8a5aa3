/-
  Is, Meet, Join, Fits, Ancestors, Below, by the program and by the reference: the walks.
-/
import Derived.Test.YtcacbdohlfljfaaGreatSjQ8
import Derived.Test.YtcacbdohlfljfaaGreatY14
import Derived.Test.YtcacbdohlfljfaaGreatY15
namespace Go.Proofs.YtcacbdohlfljfaaGreat
open Go.Sj Go.Sj.Typ
set_option linter.unusedVariables false
set_option maxHeartbeats 4000000

theorem given1_spec (a : Int) (t : Tys) : Pure Tryz.prog 104 [AI a, tysP t] (AB (outB t a)) := by
  have ln : (t.nodes.map cNod).length = t.nodes.length := by simp
  unfold outB
  refine a_enter Tryz.func104 (by kernel_rfl) rfl Tryz.ntmps104 rfl (by simp) ?_
  repeat' (first | refine gA pk ?_ | (show AL _ _ _ _ _ _ _; first | (refine s_cmp rfl rfl rfl rfl rfl rfl rfl (fun hb => ?_) (fun hb => ?_) <;> simp only [cmpP] at hb)) | fail)
  all_goals first | ((refine finQ ?_); exact ⟨ABt (by omega), rfl⟩) | ((refine finQ ?_); exact ⟨ABf (by omega), rfl⟩)
theorem given_spec (t : Tys) (ht : Small t) (l : List Int) (hl : l.length ≤ 1000) : Pure Tryz.prog 76 [tysA t, ints l] (AI (givenR t l)) := by
  have s1 := Valid_spec t ht
  have s2 := ContainsFuncI_spec l (by omega) 104 [tysP t] (outB t) (fun a _ => given1_spec a t)
  unfold givenR
  generalize (validR t).2 = e at *
  generalize (validR t).1 = nm at *
  generalize l.any (outB t) = b at *
  by_cases he : e = 0
  · subst he
    rw [if_neg (by decide)]
    cases b with
    | true =>
      rw [if_pos rfl]
      refine a_enter Tryz.func76 (by kernel_rfl) rfl Tryz.ntmps76 rfl (by simp) ?_; refine a_seq ?_; refine a_reg ?_; (repeat (first | refine gZ pk ?_ | (show AL _ _ _ _ _ _ _; first | refine jB (fun u => ?_)))); refine a_frzBox 0 2 rfl rfl ?_
      repeat (first | refine gA pk ?_ | (show AL _ _ _ _ _ _ _; first | refine jP s1 ?_ | refine jP s2 ?_))
      refine finQ ?_
      exact ⟨rfl, rfl⟩
    | false =>
      rw [if_neg (by decide)]
      refine a_enter Tryz.func76 (by kernel_rfl) rfl Tryz.ntmps76 rfl (by simp) ?_; refine a_seq ?_; refine a_reg ?_; (repeat (first | refine gZ pk ?_ | (show AL _ _ _ _ _ _ _; first | refine jB (fun u => ?_)))); refine a_frzBox 0 2 rfl rfl ?_
      repeat (first | refine gA pk ?_ | (show AL _ _ _ _ _ _ _; first | refine jP s1 ?_ | refine jP s2 ?_))
      refine finQ ?_
      exact ⟨rfl, rfl⟩
  · rw [if_pos he]
    refine a_enter Tryz.func76 (by kernel_rfl) rfl Tryz.ntmps76 rfl (by simp) ?_; refine a_seq ?_; refine a_reg ?_; (repeat (first | refine gZ pk ?_ | (show AL _ _ _ _ _ _ _; first | refine jB (fun u => ?_)))); refine a_frzBox 0 2 rfl rfl ?_
    repeat (first | refine gA pk ?_ | (show AL _ _ _ _ _ _ _; first | refine jP s1 ?_))
    refine finQ ?_
    exact ⟨rfl, rfl⟩
theorem given_own (t : Tys) (ht : Small t) (l : List Int) (hl : l.length ≤ 1000) (v : Value) : ACalls Tryz.prog 76 [tysA t, .lit v] [(v, .row 3 1 (rowI l))] (fun y L => y = AI (givenR t l) ∧ L = []) :=
  ACalls.give (given_spec t ht l hl) trivial ⟨FZ.refl _, FZ.here, trivial⟩
theorem refGiven_spec (t : Tys) (ht : Small t) (a b : Int) : Pure Tryz.prog 79 [tysA t, AI a, AI b] (AI (givenR t [a, b])) := by
  have ln : (t.nodes.map cNod).length = t.nodes.length := by simp
  have hnl := ht.nodes
  have s1 := refValid_spec t ht
  have s2 := in_spec
  have hE : givenR t [a, b] = if (validR t).2 ≠ 0 then (validR t).2 else if (0 ≤ a ∧ a < t.nodes.length) ∧ (0 ≤ b ∧ b < t.nodes.length) then 0 else 6 := by
    unfold givenR
    split
    · rfl
    · simp only [List.any_cons, List.any_nil, Bool.or_false, outB]
      by_cases h : (0 ≤ a ∧ a < t.nodes.length) ∧ (0 ≤ b ∧ b < t.nodes.length)
      · rw [if_pos h, decide_eq_false (by omega), decide_eq_false (by omega)]; rfl
      · rw [if_neg h]
        by_cases h1 : a < 0 ∨ (t.nodes.length : Int) ≤ a
        · rw [decide_eq_true h1]; rfl
        · rw [decide_eq_false h1, decide_eq_true (by omega)]; rfl
  rw [hE]
  generalize (validR t).2 = e at *
  generalize (validR t).1 = nm at *
  by_cases he : e = 0
  · subst he
    rw [if_neg (by decide)]
    refine a_enter Tryz.func79 (by kernel_rfl) rfl Tryz.ntmps79 rfl (by simp) ?_; refine a_seq ?_; refine a_reg ?_; (repeat (first | refine gZ pk ?_ | (show AL _ _ _ _ _ _ _; first | refine jB (fun u => ?_)))); refine a_frzBox 0 3 rfl rfl ?_
    repeat' (first | refine gA pk ?_ | (show AL _ _ _ _ _ _ _; first | refine jP s1 ?_ | (refine s_callB rfl rfl rfl rfl rfl (s2 _ _ _) (SubL.of_eq rfl) (fun hb => ?_) (fun hb => ?_) <;> (first | replace hb := of_decide_eq_true hb | replace hb := of_decide_eq_false hb | skip)) | (refine s_cmp rfl rfl rfl rfl rfl rfl rfl (fun hb => ?_) (fun hb => ?_) <;> simp only [cmpP] at hb)) | fail)
    all_goals refine finQ ?_
    all_goals first | exact ⟨if6_ok (by omega), rfl⟩ | exact ⟨if6_bad (by omega), rfl⟩
  · rw [if_pos he]
    refine a_enter Tryz.func79 (by kernel_rfl) rfl Tryz.ntmps79 rfl (by simp) ?_; refine a_seq ?_; refine a_reg ?_; (repeat (first | refine gZ pk ?_ | (show AL _ _ _ _ _ _ _; first | refine jB (fun u => ?_)))); refine a_frzBox 0 3 rfl rfl ?_
    repeat (first | refine gA pk ?_ | (show AL _ _ _ _ _ _ _; first | refine jP s1 ?_))
    refine finQ ?_
    exact ⟨rfl, rfl⟩
theorem given_at {t : Tys} (ht : Small t) {a b : Int} (h : givenR t [a, b] = 0) : PR t.nodes t.nodes.length ∧ (0 ≤ a ∧ a < t.nodes.length) ∧ (0 ≤ b ∧ b < t.nodes.length) ∧ t.nodes.length ≤ 1000 :=
  ⟨given_pr h, (given_ok h).2 a (by simp), (given_ok h).2 b (by simp), by have := ht.nodes; omega⟩
theorem Is_spec (t : Tys) (ht : Small t) (a b : Int) : Pure Tryz.prog 46 [tysA t, AI a, AI b] (AB (isR t a b)) := by
  have s1 := given_own t ht [a, b] (by simp)
  unfold isR
  by_cases hg : givenR t [a, b] = 0
  · obtain ⟨hp, ha, hb, hk⟩ := given_at ht hg
    rw [hg] at s1
    have s2 := is_spec t _ (Nat.le_refl _) hk hp a b (by omega) ha.2
    rw [decide_eq_true hg, Bool.true_and]
    generalize decide (b ∈ up t.nodes a) = c at *
    refine a_enter Tryz.func46 (by kernel_rfl) rfl Tryz.ntmps46 rfl (by simp) ?_; refine a_seq ?_; refine a_reg ?_; (repeat (first | refine gZ pk ?_ | (show AL _ _ _ _ _ _ _; first | refine jB (fun u => ?_)))); refine a_frzBox 0 3 rfl rfl ?_
    repeat (first | refine gA pk ?_ | (show AL _ _ _ _ _ _ _; first | refine s_build tok (parts := [(0, .tmp _), (1, .tmp _)]) rfl rfl rfl rfl rfl rfl rfl rfl (by decide) (by decide) (fun u => ?_)))
    refine s_callO 0 rfl rfl rfl rfl rfl rfl (s1 _) (SubL.of_eq rfl) ?_
    rintro _ _ ⟨rfl, rfl⟩
    repeat (first | refine gA pk ?_ | (show AL _ _ _ _ _ _ _; first | refine jP s2 ?_))
    refine finQ ?_
    exact ⟨rfl, rfl⟩
  · rw [decide_eq_false hg, Bool.false_and]
    generalize givenR t [a, b] = e at *
    refine a_enter Tryz.func46 (by kernel_rfl) rfl Tryz.ntmps46 rfl (by simp) ?_; refine a_seq ?_; refine a_reg ?_; (repeat (first | refine gZ pk ?_ | (show AL _ _ _ _ _ _ _; first | refine jB (fun u => ?_)))); refine a_frzBox 0 3 rfl rfl ?_
    repeat (first | refine gA pk ?_ | (show AL _ _ _ _ _ _ _; first | refine s_build tok (parts := [(0, .tmp _), (1, .tmp _)]) rfl rfl rfl rfl rfl rfl rfl rfl (by decide) (by decide) (fun u => ?_)))
    refine s_callO 0 rfl rfl rfl rfl rfl rfl (s1 _) (SubL.of_eq rfl) ?_
    rintro _ _ ⟨rfl, rfl⟩
    repeat (first | refine gA pk ?_)
    refine finQ ?_
    exact ⟨rfl, rfl⟩
theorem refIs_spec (t : Tys) (ht : Small t) (a b : Int) : Pure Tryz.prog 48 [tysA t, AI a, AI b] (AB (isR t a b)) := by
  have s1 := refGiven_spec t ht a b
  unfold isR
  by_cases hg : givenR t [a, b] = 0
  · obtain ⟨hp, ha, hb, hk⟩ := given_at ht hg
    rw [hg] at s1
    have s2 := Below1_spec t _ (Nat.le_refl _) hp b hb.1 1000 a (by omega) (by omega) ha.2
    rw [decide_eq_true hg, Bool.true_and]
    generalize decide (b ∈ up t.nodes a) = c at *
    refine a_enter Tryz.func48 (by kernel_rfl) rfl Tryz.ntmps48 rfl (by simp) ?_; refine a_seq ?_; refine a_reg ?_; (repeat (first | refine gZ pk ?_ | (show AL _ _ _ _ _ _ _; first | refine jB (fun u => ?_)))); refine a_frzBox 0 3 rfl rfl ?_
    repeat (first | refine gA pk ?_ | (show AL _ _ _ _ _ _ _; first | refine jP s1 ?_ | refine jP s2 ?_))
    refine finQ ?_
    exact ⟨rfl, rfl⟩
  · rw [decide_eq_false hg, Bool.false_and]
    generalize givenR t [a, b] = e at *
    refine a_enter Tryz.func48 (by kernel_rfl) rfl Tryz.ntmps48 rfl (by simp) ?_; refine a_seq ?_; refine a_reg ?_; (repeat (first | refine gZ pk ?_ | (show AL _ _ _ _ _ _ _; first | refine jB (fun u => ?_)))); refine a_frzBox 0 3 rfl rfl ?_
    repeat (first | refine gA pk ?_ | (show AL _ _ _ _ _ _ _; first | refine jP s1 ?_))
    refine finQ ?_
    exact ⟨rfl, rfl⟩
end Go.Proofs.YtcacbdohlfljfaaGreat
