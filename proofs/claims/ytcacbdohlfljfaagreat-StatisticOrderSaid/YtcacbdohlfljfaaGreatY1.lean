/-
  Letters, digits, parts of names: the walks of the program and of the reference.
-/
import Derived.Test.YtcacbdohlfljfaaGreatSjQ8
import Derived.Test.YtcacbdohlfljfaaGreatTy
import Derived.Test.YtcacbdohlfljfaaGreatSjQM
namespace Go.Proofs.YtcacbdohlfljfaaGreat
open Go.Sj Go.Sj.Typ
set_option linter.unusedVariables false
set_option maxHeartbeats 4000000
theorem letter_spec (c : Int) : Pure Tryz.prog 129 [A8 c] (AB (decide (letP c))) := by
  unfold letP
  refine a_enter Tryz.func129 (by kernel_rfl) rfl Tryz.ntmps129 rfl (by simp) ?_
  repeat' (first | refine gA pk ?_ | (show AL _ _ _ _ _ _ _; first | (refine s_cmp rfl rfl rfl rfl rfl rfl rfl (fun hb => ?_) (fun hb => ?_) <;> simp only [cmpP] at hb)) | fail)
  all_goals first | ((refine finQ ?_); exact ⟨ABt (by omega), rfl⟩) | ((refine finQ ?_); exact ⟨ABf (by omega), rfl⟩)
theorem digit_spec (c : Int) : Pure Tryz.prog 132 [A8 c] (AB (decide (digP c))) := by
  unfold digP
  refine a_enter Tryz.func132 (by kernel_rfl) rfl Tryz.ntmps132 rfl (by simp) ?_
  repeat' (first | refine gA pk ?_ | (show AL _ _ _ _ _ _ _; first | (refine s_cmp rfl rfl rfl rfl rfl rfl rfl (fun hb => ?_) (fun hb => ?_) <;> simp only [cmpP] at hb)) | fail)
  all_goals first | ((refine finQ ?_); exact ⟨ABt (by omega), rfl⟩) | ((refine finQ ?_); exact ⟨ABf (by omega), rfl⟩)
theorem part_spec (c : Int) : Pure Tryz.prog 131 [A8 c] (AB (decide (parP c))) := by
  have h1 := letter_spec c
  have h2 := digit_spec c
  unfold parP
  unfold letP digP at *
  refine a_enter Tryz.func131 (by kernel_rfl) rfl Tryz.ntmps131 rfl (by simp) ?_
  repeat' (first | refine gA pk ?_ | (show AL _ _ _ _ _ _ _; first | (refine s_callB rfl rfl rfl rfl rfl (h1) (SubL.of_eq rfl) (fun hb => ?_) (fun hb => ?_) <;> (first | replace hb := of_decide_eq_true hb | replace hb := of_decide_eq_false hb | skip)) | (refine s_callB rfl rfl rfl rfl rfl (h2) (SubL.of_eq rfl) (fun hb => ?_) (fun hb => ?_) <;> (first | replace hb := of_decide_eq_true hb | replace hb := of_decide_eq_false hb | skip)) | (refine s_cmp rfl rfl rfl rfl rfl rfl rfl (fun hb => ?_) (fun hb => ?_) <;> simp only [cmpP] at hb)) | fail)
  all_goals first | ((refine finQ ?_); exact ⟨ABt (by omega), rfl⟩) | ((refine finQ ?_); exact ⟨ABf (by omega), rfl⟩)
theorem refLetter_spec (c : Int) : Pure Tryz.prog 137 [A8 c] (AB (decide (letP c))) := by
  unfold letP
  refine a_enter Tryz.func137 (by kernel_rfl) rfl Tryz.ntmps137 rfl (by simp) ?_
  repeat' (first | refine gA pk ?_ | (show AL _ _ _ _ _ _ _; first | (refine s_cmp rfl rfl rfl rfl rfl rfl rfl (fun hb => ?_) (fun hb => ?_) <;> simp only [cmpP] at hb)) | fail)
  all_goals first | ((refine finQ ?_); exact ⟨ABt (by omega), rfl⟩) | ((refine finQ ?_); exact ⟨ABf (by omega), rfl⟩)
theorem refDigit_spec (c : Int) : Pure Tryz.prog 138 [A8 c] (AB (decide (digP c))) := by
  unfold digP
  refine a_enter Tryz.func138 (by kernel_rfl) rfl Tryz.ntmps138 rfl (by simp) ?_
  repeat' (first | refine gA pk ?_ | (show AL _ _ _ _ _ _ _; first | (refine s_cmp rfl rfl rfl rfl rfl rfl rfl (fun hb => ?_) (fun hb => ?_) <;> simp only [cmpP] at hb)) | fail)
  all_goals first | ((refine finQ ?_); exact ⟨ABt (by omega), rfl⟩) | ((refine finQ ?_); exact ⟨ABf (by omega), rfl⟩)
end Go.Proofs.YtcacbdohlfljfaaGreat
