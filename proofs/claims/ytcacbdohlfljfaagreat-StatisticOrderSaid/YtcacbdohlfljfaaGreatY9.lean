/-
  Attributes: the walks.
-/
import Derived.Test.YtcacbdohlfljfaaGreatSjQ8
import Derived.Test.YtcacbdohlfljfaaGreatY8
namespace Go.Proofs.YtcacbdohlfljfaaGreat
open Go.Sj Go.Sj.Typ
set_option linter.unusedVariables false
set_option maxHeartbeats 4000000

def RgP (a : Att) : Prop := (a.names.length = 0 ∧ -1000000 ≤ a.lo ∧ a.lo ≤ a.hi ∧ a.hi ≤ 1000000) ∨ (a.names.length ≠ 0 ∧ a.lo = 0 ∧ a.hi = a.names.length - 1)
instance (a : Att) : Decidable (RgP a) := inferInstanceAs (Decidable (_ ∨ _))
theorem rg_iff (a : Att) : rangeE a = if RgP a then 0 else 6 := by
  unfold rangeE RgP
  by_cases h : a.names = []
  · simp [h]
  · have : a.names.length ≠ 0 := fun e => h (List.length_eq_zero_iff.1 e)
    rw [if_neg h]
    simp [h]
theorem rg_ok {a : Att} (h : RgP a) : AI 0 = AI (rangeE a) := by rw [rg_iff, if_pos h]
theorem rg_bad {a : Att} (h : ¬ RgP a) : AI 6 = AI (rangeE a) := by rw [rg_iff, if_neg h]
theorem in_spec (n lo hi : Int) : Pure Tryz.prog 83 [AI n, AI lo, AI hi] (AB (decide (lo ≤ n ∧ n ≤ hi))) := by
  refine a_enter Tryz.func83 (by kernel_rfl) rfl Tryz.ntmps83 rfl (by simp) ?_
  repeat' (first | refine gA pk ?_ | (show AL _ _ _ _ _ _ _; first | (refine s_cmp rfl rfl rfl rfl rfl rfl rfl (fun hb => ?_) (fun hb => ?_) <;> simp only [cmpP] at hb)) | fail)
  all_goals first | ((refine finQ ?_); exact ⟨ABt (by omega), rfl⟩) | ((refine finQ ?_); exact ⟨ABf (by omega), rfl⟩)
theorem attribute1_spec (b a : Att) : Pure Tryz.prog 117 [.agg (cAtt b), .ip (cAtt a)] (AB (decide (b.name = a.name))) := by
  refine a_enter Tryz.func117 (by kernel_rfl) rfl Tryz.ntmps117 rfl (by simp) ?_; refine a_seq ?_; refine a_reg ?_; (repeat (first | refine gZ pk ?_ | (show AL _ _ _ _ _ _ _; first | refine jB (fun u => ?_)))); refine a_frzBox 0 2 rfl rfl ?_
  repeat' (first | refine gA pk ?_ | (show AL _ _ _ _ _ _ _; first | refine s_strEqB rfl rfl rfl rfl rfl rfl (fun hb => ?_) (fun hb => ?_) | (refine s_cmp rfl rfl rfl rfl rfl rfl rfl (fun hb => ?_) (fun hb => ?_) <;> simp only [cmpP] at hb)) | fail)
  · refine finQ ?_
    exact ⟨ABt hb, rfl⟩
  · refine finQ ?_
    exact ⟨ABf hb, rfl⟩
/-- Attributes whose strings are not too long. -/
def AttS (a : Att) : Prop := a.name.size ≤ 1000000 ∧ a.names.length ≤ 1000000 ∧ ∀ s ∈ a.names, s.size ≤ 1000000
theorem attribute_spec (a : Att) (ha : AttS a) (b : List Att) (hb : b.length ≤ 1000000) : Pure Tryz.prog 99 [.agg (cAtt a), attrsA b] (AI (attrE a b)) := by
  obtain ⟨h1, h2, h3⟩ := ha
  have ll : (a.names.map cS).length = a.names.length := by simp
  have s1 := IsName_spec a.name h1
  have s2 := ContainsFuncA_spec b hb 117 [.ip (cAtt a)] (fun x => decide (x.name = a.name)) (fun x _ => attribute1_spec x a)
  have s3 := names_spec a.names h2 h3
  unfold attrE bodyE
  generalize (b.any fun x => decide (x.name = a.name)) = c at *
  cases hn : nameB a.name with
  | false =>
    rw [hn] at s1
    rw [if_pos rfl]
    refine a_enter Tryz.func99 (by kernel_rfl) rfl Tryz.ntmps99 rfl (by simp) ?_; refine a_seq ?_; refine a_reg ?_; (repeat (first | refine gZ pk ?_ | (show AL _ _ _ _ _ _ _; first | refine jB (fun u => ?_)))); refine a_frzBox 0 2 rfl rfl ?_
    repeat (first | refine gA pk ?_ | (show AL _ _ _ _ _ _ _; first | refine jP s1 ?_))
    refine finQ ?_
    exact ⟨rfl, rfl⟩
  | true =>
    rw [hn] at s1
    rw [if_neg (by decide)]
    cases c with
    | true =>
      rw [if_pos rfl]
      refine a_enter Tryz.func99 (by kernel_rfl) rfl Tryz.ntmps99 rfl (by simp) ?_; refine a_seq ?_; refine a_reg ?_; (repeat (first | refine gZ pk ?_ | (show AL _ _ _ _ _ _ _; first | refine jB (fun u => ?_)))); refine a_frzBox 0 2 rfl rfl ?_
      repeat (first | refine gA pk ?_ | (show AL _ _ _ _ _ _ _; first | refine jP s1 ?_ | refine jP s2 ?_))
      refine finQ ?_
      exact ⟨rfl, rfl⟩
    | false =>
      rw [if_neg (by decide)]
      generalize namesE a.names = e at *
      by_cases he : e = 0
      · rw [if_neg (by omega)]
        subst he
        have rgi := @rg_ok a
        have rgb := @rg_bad a
        unfold RgP at rgi rgb
        refine a_enter Tryz.func99 (by kernel_rfl) rfl Tryz.ntmps99 rfl (by simp) ?_; refine a_seq ?_; refine a_reg ?_; (repeat (first | refine gZ pk ?_ | (show AL _ _ _ _ _ _ _; first | refine jB (fun u => ?_)))); refine a_frzBox 0 2 rfl rfl ?_
        repeat' (first | refine gA pk ?_ | (show AL _ _ _ _ _ _ _; first | refine jP s1 ?_ | refine jP s2 ?_ | refine jP s3 ?_ | (refine s_cmp rfl rfl rfl rfl rfl rfl rfl (fun hb => ?_) (fun hb => ?_) <;> simp only [cmpP] at hb)) | fail)
        all_goals refine finQ ?_
        all_goals first | exact ⟨rgi (by omega), rfl⟩ | exact ⟨rgb (by omega), rfl⟩
      · rw [if_pos he]
        refine a_enter Tryz.func99 (by kernel_rfl) rfl Tryz.ntmps99 rfl (by simp) ?_; refine a_seq ?_; refine a_reg ?_; (repeat (first | refine gZ pk ?_ | (show AL _ _ _ _ _ _ _; first | refine jB (fun u => ?_)))); refine a_frzBox 0 2 rfl rfl ?_
        repeat (first | refine gA pk ?_ | (show AL _ _ _ _ _ _ _; first | refine jP s1 ?_ | refine jP s2 ?_ | refine jP s3 ?_))
        refine finQ ?_
        exact ⟨rfl, rfl⟩
theorem refAttribute_spec (a : Att) (ha : AttS a) : Pure Tryz.prog 108 [.agg (cAtt a)] (AI (bodyE a)) := by
  obtain ⟨h1, h2, h3⟩ := ha
  have ll : (a.names.map cS).length = a.names.length := by simp
  have s1 := in_spec
  have s3 := refNames_spec a.names h2 h3
  unfold bodyE
  have rgi := @rg_ok a
  have rgb := @rg_bad a
  unfold RgP at rgi rgb
  by_cases h0 : a.names.length = 0
  · have e0 : namesE a.names = 0 := by rw [List.length_eq_zero_iff.1 h0]; rfl
    rw [e0, if_neg (by decide)]
    refine a_enter Tryz.func108 (by kernel_rfl) rfl Tryz.ntmps108 rfl (by simp) ?_; refine a_seq ?_; refine a_reg ?_; (repeat (first | refine gZ pk ?_ | (show AL _ _ _ _ _ _ _; first | refine jB (fun u => ?_)))); refine a_frzBox 0 1 rfl rfl ?_
    repeat' (first | refine gA pk ?_ | (show AL _ _ _ _ _ _ _; first | (refine s_callB rfl rfl rfl rfl rfl (s1 _ _ _) (SubL.of_eq rfl) (fun hb => ?_) (fun hb => ?_) <;> (first | replace hb := of_decide_eq_true hb | replace hb := of_decide_eq_false hb | skip)) | (refine s_cmp rfl rfl rfl rfl rfl rfl rfl (fun hb => ?_) (fun hb => ?_) <;> simp only [cmpP] at hb)) | fail)
    all_goals refine finQ ?_
    all_goals first | exact ⟨rgi (by omega), rfl⟩ | exact ⟨rgb (by omega), rfl⟩
  · generalize namesE a.names = e at *
    by_cases he : e = 0
    · rw [if_neg (by omega)]
      subst he
      refine a_enter Tryz.func108 (by kernel_rfl) rfl Tryz.ntmps108 rfl (by simp) ?_; refine a_seq ?_; refine a_reg ?_; (repeat (first | refine gZ pk ?_ | (show AL _ _ _ _ _ _ _; first | refine jB (fun u => ?_)))); refine a_frzBox 0 1 rfl rfl ?_
      repeat' (first | refine gA pk ?_ | (show AL _ _ _ _ _ _ _; first | refine jP s3 ?_ | (refine s_cmp rfl rfl rfl rfl rfl rfl rfl (fun hb => ?_) (fun hb => ?_) <;> simp only [cmpP] at hb)) | fail)
      all_goals refine finQ ?_
      all_goals first | exact ⟨rgi (by omega), rfl⟩ | exact ⟨rgb (by omega), rfl⟩
    · rw [if_pos he]
      refine a_enter Tryz.func108 (by kernel_rfl) rfl Tryz.ntmps108 rfl (by simp) ?_; refine a_seq ?_; refine a_reg ?_; (repeat (first | refine gZ pk ?_ | (show AL _ _ _ _ _ _ _; first | refine jB (fun u => ?_)))); refine a_frzBox 0 1 rfl rfl ?_
      repeat (first | refine gA pk ?_ | (show AL _ _ _ _ _ _ _; first | refine jP s3 ?_))
      refine finQ ?_
      exact ⟨rfl, rfl⟩
end Go.Proofs.YtcacbdohlfljfaaGreat
