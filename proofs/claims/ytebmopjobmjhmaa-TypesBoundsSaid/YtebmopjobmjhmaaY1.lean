/-
  Letters, digits, parts of names: the walks of the program and of the reference.
-/
import Derived.Test.YtebmopjobmjhmaaTy
import Derived.Test.YtebmopjobmjhmaaSjQM
namespace Go.Proofs.Ytebmopjobmjhmaa
open Go.Sj Go.Sj.Typ
set_option linter.unusedVariables false
set_option maxHeartbeats 4000000
theorem letter_spec (c : Int) : Pure Try.prog 77 [A8 c] (AB (decide (letP c))) := by
  unfold letP
  refine a_enter Try.func77 (by kernel_rfl) rfl Try.ntmps77 rfl (by simp) ?_
  repeat' (first
    | refine a_seq ?_
    | refine a_reg ?_
    | refine a_regP mixed (by decide +kernel) ?_
    | refine t_lit tok rfl rfl rfl rfl ?_
    | refine t_im tok rfl rfl rfl rfl ?_
    | refine t_ip tok rfl rfl rfl rfl ?_
    | refine t_pt tok rfl rfl rfl rfl ?_
    | refine t_agg tok rfl rfl rfl rfl ?_
    | refine t_tup tok rfl rfl rfl rfl ?_
    | refine t_fn tok rfl rfl rfl rfl ?_
    | refine AL.nil ?_
    | refine s_skip rfl rfl rfl ?_
    | refine s_cmpT rfl rfl rfl rfl rfl rfl rfl (by first | (simp only [cmpP]; omega) | exact rfl) ?_
    | refine s_cmpF rfl rfl rfl rfl rfl rfl rfl (by first | (simp only [cmpP]; omega) | exact rfl) ?_
    | refine s_arith rfl rfl rfl rfl rfl rfl rfl (by first | (exact IntWalk.i64_in _ (by omega)) | (exact IntWalk.u8_in _ (by omega))) ?_
    | (refine s_cmp rfl rfl rfl rfl rfl rfl rfl (fun hb => ?_) (fun hb => ?_) <;> simp only [cmpP] at hb)
    | refine a_condT rfl ?_
    | refine a_condF rfl ?_
    | refine a_skip ?_
    | refine a_exit ?_
    | refine a_ret ?_
    | refine a_block ?_)
  all_goals first | ((first | refine fin (x := .lit _) (.inr rfl) rfl (Sub.refl _) ?_ (OSub.none _) | refine fin (x := .im _ _) (.inr rfl) rfl (Sub.refl _) ?_ (OSub.none _) | refine fin (x := .tup [.lit _, .lit _]) (.inr rfl) rfl (Sub.refl _) ?_ (OSub.none _) | refine fin (x := .tup [.im _ _, .lit _]) (.inr rfl) rfl (Sub.refl _) ?_ (OSub.none _) | refine fin (x := .tup [.lit _, .lit _, .lit _]) (.inr rfl) rfl (Sub.refl _) ?_ (OSub.none _) | refine fin (x := .agg _) (.inr rfl) rfl (Sub.refl _) ?_ (OSub.none _)); exact ⟨ABt (by omega), rfl⟩) | ((first | refine fin (x := .lit _) (.inr rfl) rfl (Sub.refl _) ?_ (OSub.none _) | refine fin (x := .im _ _) (.inr rfl) rfl (Sub.refl _) ?_ (OSub.none _) | refine fin (x := .tup [.lit _, .lit _]) (.inr rfl) rfl (Sub.refl _) ?_ (OSub.none _) | refine fin (x := .tup [.im _ _, .lit _]) (.inr rfl) rfl (Sub.refl _) ?_ (OSub.none _) | refine fin (x := .tup [.lit _, .lit _, .lit _]) (.inr rfl) rfl (Sub.refl _) ?_ (OSub.none _) | refine fin (x := .agg _) (.inr rfl) rfl (Sub.refl _) ?_ (OSub.none _)); exact ⟨ABf (by omega), rfl⟩)
theorem digit_spec (c : Int) : Pure Try.prog 80 [A8 c] (AB (decide (digP c))) := by
  unfold digP
  refine a_enter Try.func80 (by kernel_rfl) rfl Try.ntmps80 rfl (by simp) ?_
  repeat' (first
    | refine a_seq ?_
    | refine a_reg ?_
    | refine a_regP mixed (by decide +kernel) ?_
    | refine t_lit tok rfl rfl rfl rfl ?_
    | refine t_im tok rfl rfl rfl rfl ?_
    | refine t_ip tok rfl rfl rfl rfl ?_
    | refine t_pt tok rfl rfl rfl rfl ?_
    | refine t_agg tok rfl rfl rfl rfl ?_
    | refine t_tup tok rfl rfl rfl rfl ?_
    | refine t_fn tok rfl rfl rfl rfl ?_
    | refine AL.nil ?_
    | refine s_skip rfl rfl rfl ?_
    | refine s_cmpT rfl rfl rfl rfl rfl rfl rfl (by first | (simp only [cmpP]; omega) | exact rfl) ?_
    | refine s_cmpF rfl rfl rfl rfl rfl rfl rfl (by first | (simp only [cmpP]; omega) | exact rfl) ?_
    | refine s_arith rfl rfl rfl rfl rfl rfl rfl (by first | (exact IntWalk.i64_in _ (by omega)) | (exact IntWalk.u8_in _ (by omega))) ?_
    | (refine s_cmp rfl rfl rfl rfl rfl rfl rfl (fun hb => ?_) (fun hb => ?_) <;> simp only [cmpP] at hb)
    | refine a_condT rfl ?_
    | refine a_condF rfl ?_
    | refine a_skip ?_
    | refine a_exit ?_
    | refine a_ret ?_
    | refine a_block ?_)
  all_goals first | ((first | refine fin (x := .lit _) (.inr rfl) rfl (Sub.refl _) ?_ (OSub.none _) | refine fin (x := .im _ _) (.inr rfl) rfl (Sub.refl _) ?_ (OSub.none _) | refine fin (x := .tup [.lit _, .lit _]) (.inr rfl) rfl (Sub.refl _) ?_ (OSub.none _) | refine fin (x := .tup [.im _ _, .lit _]) (.inr rfl) rfl (Sub.refl _) ?_ (OSub.none _) | refine fin (x := .tup [.lit _, .lit _, .lit _]) (.inr rfl) rfl (Sub.refl _) ?_ (OSub.none _) | refine fin (x := .agg _) (.inr rfl) rfl (Sub.refl _) ?_ (OSub.none _)); exact ⟨ABt (by omega), rfl⟩) | ((first | refine fin (x := .lit _) (.inr rfl) rfl (Sub.refl _) ?_ (OSub.none _) | refine fin (x := .im _ _) (.inr rfl) rfl (Sub.refl _) ?_ (OSub.none _) | refine fin (x := .tup [.lit _, .lit _]) (.inr rfl) rfl (Sub.refl _) ?_ (OSub.none _) | refine fin (x := .tup [.im _ _, .lit _]) (.inr rfl) rfl (Sub.refl _) ?_ (OSub.none _) | refine fin (x := .tup [.lit _, .lit _, .lit _]) (.inr rfl) rfl (Sub.refl _) ?_ (OSub.none _) | refine fin (x := .agg _) (.inr rfl) rfl (Sub.refl _) ?_ (OSub.none _)); exact ⟨ABf (by omega), rfl⟩)
theorem part_spec (c : Int) : Pure Try.prog 79 [A8 c] (AB (decide (parP c))) := by
  have h1 := letter_spec c
  have h2 := digit_spec c
  unfold parP
  unfold letP digP at *
  refine a_enter Try.func79 (by kernel_rfl) rfl Try.ntmps79 rfl (by simp) ?_
  repeat' (first
    | refine a_seq ?_
    | refine a_reg ?_
    | refine a_regP mixed (by decide +kernel) ?_
    | refine t_lit tok rfl rfl rfl rfl ?_
    | refine t_im tok rfl rfl rfl rfl ?_
    | refine t_ip tok rfl rfl rfl rfl ?_
    | refine t_pt tok rfl rfl rfl rfl ?_
    | refine t_agg tok rfl rfl rfl rfl ?_
    | refine t_tup tok rfl rfl rfl rfl ?_
    | refine t_fn tok rfl rfl rfl rfl ?_
    | refine AL.nil ?_
    | refine s_skip rfl rfl rfl ?_
    | refine s_cmpT rfl rfl rfl rfl rfl rfl rfl (by first | (simp only [cmpP]; omega) | exact rfl) ?_
    | refine s_cmpF rfl rfl rfl rfl rfl rfl rfl (by first | (simp only [cmpP]; omega) | exact rfl) ?_
    | refine s_arith rfl rfl rfl rfl rfl rfl rfl (by first | (exact IntWalk.i64_in _ (by omega)) | (exact IntWalk.u8_in _ (by omega))) ?_
    | (refine s_callB rfl rfl rfl rfl rfl (h1) (SubL.of_eq rfl) (fun hb => ?_) (fun hb => ?_) <;> (first | replace hb := of_decide_eq_true hb | replace hb := of_decide_eq_false hb | skip))
    | (refine s_callB rfl rfl rfl rfl rfl (h2) (SubL.of_eq rfl) (fun hb => ?_) (fun hb => ?_) <;> (first | replace hb := of_decide_eq_true hb | replace hb := of_decide_eq_false hb | skip))
    | (refine s_cmp rfl rfl rfl rfl rfl rfl rfl (fun hb => ?_) (fun hb => ?_) <;> simp only [cmpP] at hb)
    | refine a_condT rfl ?_
    | refine a_condF rfl ?_
    | refine a_skip ?_
    | refine a_exit ?_
    | refine a_ret ?_
    | refine a_block ?_)
  all_goals first | ((first | refine fin (x := .lit _) (.inr rfl) rfl (Sub.refl _) ?_ (OSub.none _) | refine fin (x := .im _ _) (.inr rfl) rfl (Sub.refl _) ?_ (OSub.none _) | refine fin (x := .tup [.lit _, .lit _]) (.inr rfl) rfl (Sub.refl _) ?_ (OSub.none _) | refine fin (x := .tup [.im _ _, .lit _]) (.inr rfl) rfl (Sub.refl _) ?_ (OSub.none _) | refine fin (x := .tup [.lit _, .lit _, .lit _]) (.inr rfl) rfl (Sub.refl _) ?_ (OSub.none _) | refine fin (x := .agg _) (.inr rfl) rfl (Sub.refl _) ?_ (OSub.none _)); exact ⟨ABt (by omega), rfl⟩) | ((first | refine fin (x := .lit _) (.inr rfl) rfl (Sub.refl _) ?_ (OSub.none _) | refine fin (x := .im _ _) (.inr rfl) rfl (Sub.refl _) ?_ (OSub.none _) | refine fin (x := .tup [.lit _, .lit _]) (.inr rfl) rfl (Sub.refl _) ?_ (OSub.none _) | refine fin (x := .tup [.im _ _, .lit _]) (.inr rfl) rfl (Sub.refl _) ?_ (OSub.none _) | refine fin (x := .tup [.lit _, .lit _, .lit _]) (.inr rfl) rfl (Sub.refl _) ?_ (OSub.none _) | refine fin (x := .agg _) (.inr rfl) rfl (Sub.refl _) ?_ (OSub.none _)); exact ⟨ABf (by omega), rfl⟩)
theorem refLetter_spec (c : Int) : Pure Try.prog 85 [A8 c] (AB (decide (letP c))) := by
  unfold letP
  refine a_enter Try.func85 (by kernel_rfl) rfl Try.ntmps85 rfl (by simp) ?_
  repeat' (first
    | refine a_seq ?_
    | refine a_reg ?_
    | refine a_regP mixed (by decide +kernel) ?_
    | refine t_lit tok rfl rfl rfl rfl ?_
    | refine t_im tok rfl rfl rfl rfl ?_
    | refine t_ip tok rfl rfl rfl rfl ?_
    | refine t_pt tok rfl rfl rfl rfl ?_
    | refine t_agg tok rfl rfl rfl rfl ?_
    | refine t_tup tok rfl rfl rfl rfl ?_
    | refine t_fn tok rfl rfl rfl rfl ?_
    | refine AL.nil ?_
    | refine s_skip rfl rfl rfl ?_
    | refine s_cmpT rfl rfl rfl rfl rfl rfl rfl (by first | (simp only [cmpP]; omega) | exact rfl) ?_
    | refine s_cmpF rfl rfl rfl rfl rfl rfl rfl (by first | (simp only [cmpP]; omega) | exact rfl) ?_
    | refine s_arith rfl rfl rfl rfl rfl rfl rfl (by first | (exact IntWalk.i64_in _ (by omega)) | (exact IntWalk.u8_in _ (by omega))) ?_
    | (refine s_cmp rfl rfl rfl rfl rfl rfl rfl (fun hb => ?_) (fun hb => ?_) <;> simp only [cmpP] at hb)
    | refine a_condT rfl ?_
    | refine a_condF rfl ?_
    | refine a_skip ?_
    | refine a_exit ?_
    | refine a_ret ?_
    | refine a_block ?_)
  all_goals first | ((first | refine fin (x := .lit _) (.inr rfl) rfl (Sub.refl _) ?_ (OSub.none _) | refine fin (x := .im _ _) (.inr rfl) rfl (Sub.refl _) ?_ (OSub.none _) | refine fin (x := .tup [.lit _, .lit _]) (.inr rfl) rfl (Sub.refl _) ?_ (OSub.none _) | refine fin (x := .tup [.im _ _, .lit _]) (.inr rfl) rfl (Sub.refl _) ?_ (OSub.none _) | refine fin (x := .tup [.lit _, .lit _, .lit _]) (.inr rfl) rfl (Sub.refl _) ?_ (OSub.none _) | refine fin (x := .agg _) (.inr rfl) rfl (Sub.refl _) ?_ (OSub.none _)); exact ⟨ABt (by omega), rfl⟩) | ((first | refine fin (x := .lit _) (.inr rfl) rfl (Sub.refl _) ?_ (OSub.none _) | refine fin (x := .im _ _) (.inr rfl) rfl (Sub.refl _) ?_ (OSub.none _) | refine fin (x := .tup [.lit _, .lit _]) (.inr rfl) rfl (Sub.refl _) ?_ (OSub.none _) | refine fin (x := .tup [.im _ _, .lit _]) (.inr rfl) rfl (Sub.refl _) ?_ (OSub.none _) | refine fin (x := .tup [.lit _, .lit _, .lit _]) (.inr rfl) rfl (Sub.refl _) ?_ (OSub.none _) | refine fin (x := .agg _) (.inr rfl) rfl (Sub.refl _) ?_ (OSub.none _)); exact ⟨ABf (by omega), rfl⟩)
theorem refDigit_spec (c : Int) : Pure Try.prog 86 [A8 c] (AB (decide (digP c))) := by
  unfold digP
  refine a_enter Try.func86 (by kernel_rfl) rfl Try.ntmps86 rfl (by simp) ?_
  repeat' (first
    | refine a_seq ?_
    | refine a_reg ?_
    | refine a_regP mixed (by decide +kernel) ?_
    | refine t_lit tok rfl rfl rfl rfl ?_
    | refine t_im tok rfl rfl rfl rfl ?_
    | refine t_ip tok rfl rfl rfl rfl ?_
    | refine t_pt tok rfl rfl rfl rfl ?_
    | refine t_agg tok rfl rfl rfl rfl ?_
    | refine t_tup tok rfl rfl rfl rfl ?_
    | refine t_fn tok rfl rfl rfl rfl ?_
    | refine AL.nil ?_
    | refine s_skip rfl rfl rfl ?_
    | refine s_cmpT rfl rfl rfl rfl rfl rfl rfl (by first | (simp only [cmpP]; omega) | exact rfl) ?_
    | refine s_cmpF rfl rfl rfl rfl rfl rfl rfl (by first | (simp only [cmpP]; omega) | exact rfl) ?_
    | refine s_arith rfl rfl rfl rfl rfl rfl rfl (by first | (exact IntWalk.i64_in _ (by omega)) | (exact IntWalk.u8_in _ (by omega))) ?_
    | (refine s_cmp rfl rfl rfl rfl rfl rfl rfl (fun hb => ?_) (fun hb => ?_) <;> simp only [cmpP] at hb)
    | refine a_condT rfl ?_
    | refine a_condF rfl ?_
    | refine a_skip ?_
    | refine a_exit ?_
    | refine a_ret ?_
    | refine a_block ?_)
  all_goals first | ((first | refine fin (x := .lit _) (.inr rfl) rfl (Sub.refl _) ?_ (OSub.none _) | refine fin (x := .im _ _) (.inr rfl) rfl (Sub.refl _) ?_ (OSub.none _) | refine fin (x := .tup [.lit _, .lit _]) (.inr rfl) rfl (Sub.refl _) ?_ (OSub.none _) | refine fin (x := .tup [.im _ _, .lit _]) (.inr rfl) rfl (Sub.refl _) ?_ (OSub.none _) | refine fin (x := .tup [.lit _, .lit _, .lit _]) (.inr rfl) rfl (Sub.refl _) ?_ (OSub.none _) | refine fin (x := .agg _) (.inr rfl) rfl (Sub.refl _) ?_ (OSub.none _)); exact ⟨ABt (by omega), rfl⟩) | ((first | refine fin (x := .lit _) (.inr rfl) rfl (Sub.refl _) ?_ (OSub.none _) | refine fin (x := .im _ _) (.inr rfl) rfl (Sub.refl _) ?_ (OSub.none _) | refine fin (x := .tup [.lit _, .lit _]) (.inr rfl) rfl (Sub.refl _) ?_ (OSub.none _) | refine fin (x := .tup [.im _ _, .lit _]) (.inr rfl) rfl (Sub.refl _) ?_ (OSub.none _) | refine fin (x := .tup [.lit _, .lit _, .lit _]) (.inr rfl) rfl (Sub.refl _) ?_ (OSub.none _) | refine fin (x := .agg _) (.inr rfl) rfl (Sub.refl _) ?_ (OSub.none _)); exact ⟨ABf (by omega), rfl⟩)
end Go.Proofs.Ytebmopjobmjhmaa
