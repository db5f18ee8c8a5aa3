/-
  Letters, digits, parts of names: the walks of the program and of the reference.
-/
import Derived.Test.YtcacbdohlfljfaaSjQ8
import Derived.Test.YtcacbdohlfljfaaTy
import Derived.Test.YtcacbdohlfljfaaSjQM
namespace Go.Proofs.Ytcacbdohlfljfaa
open Go.Sj Go.Sj.Typ
set_option linter.unusedVariables false
set_option maxHeartbeats 4000000
theorem letter_spec (c : Int) : Pure Try.prog 85 [A8 c] (AB (decide (letP c))) := by
  unfold letP
  refine a_enter Try.func85 (by kernel_rfl) rfl Try.ntmps85 rfl (by simp) ?_
  repeat' (first | refine gA pk ?_ | (show AL _ _ _ _ _ _ _; first | (refine s_cmp rfl rfl rfl rfl rfl rfl rfl (fun hb => ?_) (fun hb => ?_) <;> simp only [cmpP] at hb)) | fail)
  all_goals first | ((refine finQ ?_); exact ⟨ABt (by omega), rfl⟩) | ((refine finQ ?_); exact ⟨ABf (by omega), rfl⟩)
theorem digit_spec (c : Int) : Pure Try.prog 88 [A8 c] (AB (decide (digP c))) := by
  unfold digP
  refine a_enter Try.func88 (by kernel_rfl) rfl Try.ntmps88 rfl (by simp) ?_
  repeat' (first | refine gA pk ?_ | (show AL _ _ _ _ _ _ _; first | (refine s_cmp rfl rfl rfl rfl rfl rfl rfl (fun hb => ?_) (fun hb => ?_) <;> simp only [cmpP] at hb)) | fail)
  all_goals first | ((refine finQ ?_); exact ⟨ABt (by omega), rfl⟩) | ((refine finQ ?_); exact ⟨ABf (by omega), rfl⟩)
theorem part_spec (c : Int) : Pure Try.prog 87 [A8 c] (AB (decide (parP c))) := by
  have h1 := letter_spec c
  have h2 := digit_spec c
  unfold parP
  unfold letP digP at *
  refine a_enter Try.func87 (by kernel_rfl) rfl Try.ntmps87 rfl (by simp) ?_
  repeat' (first | refine gA pk ?_ | (show AL _ _ _ _ _ _ _; first | (refine s_callB rfl rfl rfl rfl rfl (h1) (SubL.of_eq rfl) (fun hb => ?_) (fun hb => ?_) <;> (first | replace hb := of_decide_eq_true hb | replace hb := of_decide_eq_false hb | skip)) | (refine s_callB rfl rfl rfl rfl rfl (h2) (SubL.of_eq rfl) (fun hb => ?_) (fun hb => ?_) <;> (first | replace hb := of_decide_eq_true hb | replace hb := of_decide_eq_false hb | skip)) | (refine s_cmp rfl rfl rfl rfl rfl rfl rfl (fun hb => ?_) (fun hb => ?_) <;> simp only [cmpP] at hb)) | fail)
  all_goals first | ((refine finQ ?_); exact ⟨ABt (by omega), rfl⟩) | ((refine finQ ?_); exact ⟨ABf (by omega), rfl⟩)
theorem refLetter_spec (c : Int) : Pure Try.prog 97 [A8 c] (AB (decide (letP c))) := by
  unfold letP
  refine a_enter Try.func97 (by kernel_rfl) rfl Try.ntmps97 rfl (by simp) ?_
  repeat' (first | refine gA pk ?_ | (show AL _ _ _ _ _ _ _; first | (refine s_cmp rfl rfl rfl rfl rfl rfl rfl (fun hb => ?_) (fun hb => ?_) <;> simp only [cmpP] at hb)) | fail)
  all_goals first | ((refine finQ ?_); exact ⟨ABt (by omega), rfl⟩) | ((refine finQ ?_); exact ⟨ABf (by omega), rfl⟩)
theorem refDigit_spec (c : Int) : Pure Try.prog 98 [A8 c] (AB (decide (digP c))) := by
  unfold digP
  refine a_enter Try.func98 (by kernel_rfl) rfl Try.ntmps98 rfl (by simp) ?_
  repeat' (first | refine gA pk ?_ | (show AL _ _ _ _ _ _ _; first | (refine s_cmp rfl rfl rfl rfl rfl rfl rfl (fun hb => ?_) (fun hb => ?_) <;> simp only [cmpP] at hb)) | fail)
  all_goals first | ((refine finQ ?_); exact ⟨ABt (by omega), rfl⟩) | ((refine finQ ?_); exact ⟨ABf (by omega), rfl⟩)
end Go.Proofs.Ytcacbdohlfljfaa
