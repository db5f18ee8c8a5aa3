/-
  The check that the package is awake: the walk. No condition.
-/
import Derived.Test.YtjkgjlaockihaaaP7
namespace Go.Proofs.Ytjkgjlaockihaaa
open Go.Sj Go.Sj.Part
set_option linter.unusedVariables false
set_option maxHeartbeats 1000000

theorem awake_spec : Pure Try.prog 10 [] (AB true) := by
  have g1 : genR 5 [(0, 1), (3, 4), (1, 3)] = ([0, 0, 2, 0, 0], 0) := by decide +kernel
  have g2 : joinR [0, 0, 2, 3] [0, 1, 1, 3] = ([0, 0, 0, 3], 0) := by decide +kernel
  have g3 : meetR [0, 0, 2, 3] [0, 1, 1, 3] = ([0, 1, 2, 3], 0) := by decide +kernel
  have g4 : allR 3 = ([[0, 0, 0], [0, 0, 2], [0, 1, 0], [0, 1, 1], [0, 1, 2]], 0) := by decide +kernel
  refine a_enter Try.func10 (by kernel_rfl) rfl Try.ntmps10 rfl (by simp) ?_
  repeat (first
    | refine a_seq ?_
    | refine a_reg ?_
    | refine a_regP mixed (by decide +kernel) ?_
    | refine t_lit tok rfl rfl rfl rfl ?_
    | refine t_im tok rfl rfl rfl rfl ?_
    | refine t_ip tok rfl rfl rfl rfl ?_
    | refine t_pt tok rfl rfl rfl rfl ?_
    | refine t_agg tok rfl rfl rfl rfl ?_
    | refine t_tup tok rfl rfl rfl rfl ?_
    | refine t_fn tok rfl rfl rfl rfl ?_
    | refine AL.nil ?_
    | refine s_skip rfl rfl rfl ?_
    | refine s_cmpT rfl rfl rfl rfl rfl rfl rfl (by first | (simp only [cmpP]; omega) | exact rfl) ?_
    | refine s_cmpF rfl rfl rfl rfl rfl rfl rfl (by first | (simp only [cmpP]; omega) | exact rfl) ?_
    | refine s_arith rfl rfl rfl rfl rfl rfl rfl (by first | (exact IntWalk.i64_in _ (by omega)) | (exact IntWalk.u8_in _ (by omega))) ?_
    | refine a_condT rfl ?_
    | refine a_condF rfl ?_
    | refine a_skip ?_
    | refine a_exit ?_
    | refine a_ret ?_
    | refine a_block ?_)
  refine s_build tok rfl rfl rfl rfl rfl rfl rfl rfl (by decide) (by decide) (fun v => ?_)
  refine s_callO 0 rfl rfl rfl rfl rfl rfl (Pure.give (Generate_spec 5 (by decide) [(0, 1), (3, 4), (1, 3)] (by decide)) (args' := [AI 5, .lit v]) ⟨FZ.refl _, FZ.here, trivial⟩) (SubL.of_eq rfl) ?_
  rintro _ _ ⟨rfl, rfl⟩
  rw [g1]
  repeat (first
    | refine a_seq ?_
    | refine a_reg ?_
    | refine a_regP mixed (by decide +kernel) ?_
    | refine t_lit tok rfl rfl rfl rfl ?_
    | refine t_im tok rfl rfl rfl rfl ?_
    | refine t_ip tok rfl rfl rfl rfl ?_
    | refine t_pt tok rfl rfl rfl rfl ?_
    | refine t_agg tok rfl rfl rfl rfl ?_
    | refine t_tup tok rfl rfl rfl rfl ?_
    | refine t_fn tok rfl rfl rfl rfl ?_
    | refine AL.nil ?_
    | refine s_skip rfl rfl rfl ?_
    | refine s_cmpT rfl rfl rfl rfl rfl rfl rfl (by first | (simp only [cmpP]; omega) | exact rfl) ?_
    | refine s_cmpF rfl rfl rfl rfl rfl rfl rfl (by first | (simp only [cmpP]; omega) | exact rfl) ?_
    | refine s_arith rfl rfl rfl rfl rfl rfl rfl (by first | (exact IntWalk.i64_in _ (by omega)) | (exact IntWalk.u8_in _ (by omega))) ?_
    | refine a_condT rfl ?_
    | refine a_condF rfl ?_
    | refine a_skip ?_
    | refine a_exit ?_
    | refine a_ret ?_
    | refine a_block ?_)
  refine s_build tok rfl rfl rfl rfl rfl rfl rfl rfl (by decide) (by decide) (fun v1 => ?_)
  refine s_build tok rfl rfl rfl rfl rfl rfl rfl rfl (by decide) (by decide) (fun v2 => ?_)
  refine s_call rfl rfl rfl rfl rfl (ACalls.give (v := v2) (E := 3) (sz := 1) (es := rowI [0, 1, 1, 3]) (L := [(v1, .row 3 1 (rowI [0, 0, 2, 3]))]) (args' := [.lit v1, .lit v2]) (Pure.give (Join_spec [0, 0, 2, 3] [0, 1, 1, 3] (by decide) (by decide)) (args' := [.lit v1, ints [0, 1, 1, 3]]) ⟨FZ.here, FZ.refl _, trivial⟩) ⟨rfl, rfl, rfl, rfl, by simp [cI], FZL.refl _, trivial⟩ ⟨FZ.refl _, FZ.here, trivial⟩) (SubL.of_eq rfl) (Lr := []) (List.Perm.refl _) ?_
  rintro _ _ ⟨rfl, rfl⟩
  rw [g2]
  repeat (first
    | refine a_seq ?_
    | refine a_reg ?_
    | refine a_regP mixed (by decide +kernel) ?_
    | refine t_lit tok rfl rfl rfl rfl ?_
    | refine t_im tok rfl rfl rfl rfl ?_
    | refine t_ip tok rfl rfl rfl rfl ?_
    | refine t_pt tok rfl rfl rfl rfl ?_
    | refine t_agg tok rfl rfl rfl rfl ?_
    | refine t_tup tok rfl rfl rfl rfl ?_
    | refine t_fn tok rfl rfl rfl rfl ?_
    | refine AL.nil ?_
    | refine s_skip rfl rfl rfl ?_
    | refine s_cmpT rfl rfl rfl rfl rfl rfl rfl (by first | (simp only [cmpP]; omega) | exact rfl) ?_
    | refine s_cmpF rfl rfl rfl rfl rfl rfl rfl (by first | (simp only [cmpP]; omega) | exact rfl) ?_
    | refine s_arith rfl rfl rfl rfl rfl rfl rfl (by first | (exact IntWalk.i64_in _ (by omega)) | (exact IntWalk.u8_in _ (by omega))) ?_
    | refine a_condT rfl ?_
    | refine a_condF rfl ?_
    | refine a_skip ?_
    | refine a_exit ?_
    | refine a_ret ?_
    | refine a_block ?_)
  refine s_build tok rfl rfl rfl rfl rfl rfl rfl rfl (by decide) (by decide) (fun v1 => ?_)
  refine s_build tok rfl rfl rfl rfl rfl rfl rfl rfl (by decide) (by decide) (fun v2 => ?_)
  refine s_call rfl rfl rfl rfl rfl (ACalls.give (v := v2) (E := 3) (sz := 1) (es := rowI [0, 1, 1, 3]) (L := [(v1, .row 3 1 (rowI [0, 0, 2, 3]))]) (args' := [.lit v1, .lit v2]) (Pure.give (Meet_spec [0, 0, 2, 3] [0, 1, 1, 3] (by decide) (by decide)) (args' := [.lit v1, ints [0, 1, 1, 3]]) ⟨FZ.here, FZ.refl _, trivial⟩) ⟨rfl, rfl, rfl, rfl, by simp [cI], FZL.refl _, trivial⟩ ⟨FZ.refl _, FZ.here, trivial⟩) (SubL.of_eq rfl) (Lr := []) (List.Perm.refl _) ?_
  rintro _ _ ⟨rfl, rfl⟩
  rw [g3]
  repeat (first
    | refine a_seq ?_
    | refine a_reg ?_
    | refine a_regP mixed (by decide +kernel) ?_
    | refine t_lit tok rfl rfl rfl rfl ?_
    | refine t_im tok rfl rfl rfl rfl ?_
    | refine t_ip tok rfl rfl rfl rfl ?_
    | refine t_pt tok rfl rfl rfl rfl ?_
    | refine t_agg tok rfl rfl rfl rfl ?_
    | refine t_tup tok rfl rfl rfl rfl ?_
    | refine t_fn tok rfl rfl rfl rfl ?_
    | refine AL.nil ?_
    | refine s_skip rfl rfl rfl ?_
    | refine s_cmpT rfl rfl rfl rfl rfl rfl rfl (by first | (simp only [cmpP]; omega) | exact rfl) ?_
    | refine s_cmpF rfl rfl rfl rfl rfl rfl rfl (by first | (simp only [cmpP]; omega) | exact rfl) ?_
    | refine s_arith rfl rfl rfl rfl rfl rfl rfl (by first | (exact IntWalk.i64_in _ (by omega)) | (exact IntWalk.u8_in _ (by omega))) ?_
    | refine a_condT rfl ?_
    | refine a_condF rfl ?_
    | refine a_skip ?_
    | refine a_exit ?_
    | refine a_ret ?_
    | refine a_block ?_)
  refine s_callP rfl rfl rfl rfl rfl (All_spec 3) (SubL.of_eq rfl) ?_
  rw [g4]
  repeat (first
    | refine a_seq ?_
    | refine a_reg ?_
    | refine a_regP mixed (by decide +kernel) ?_
    | refine t_lit tok rfl rfl rfl rfl ?_
    | refine t_im tok rfl rfl rfl rfl ?_
    | refine t_ip tok rfl rfl rfl rfl ?_
    | refine t_pt tok rfl rfl rfl rfl ?_
    | refine t_agg tok rfl rfl rfl rfl ?_
    | refine t_tup tok rfl rfl rfl rfl ?_
    | refine t_fn tok rfl rfl rfl rfl ?_
    | refine AL.nil ?_
    | refine s_skip rfl rfl rfl ?_
    | refine s_cmpT rfl rfl rfl rfl rfl rfl rfl (by first | (simp only [cmpP]; omega) | exact rfl) ?_
    | refine s_cmpF rfl rfl rfl rfl rfl rfl rfl (by first | (simp only [cmpP]; omega) | exact rfl) ?_
    | refine s_arith rfl rfl rfl rfl rfl rfl rfl (by first | (exact IntWalk.i64_in _ (by omega)) | (exact IntWalk.u8_in _ (by omega))) ?_
    | refine a_condT rfl ?_
    | refine a_condF rfl ?_
    | refine a_skip ?_
    | refine a_exit ?_
    | refine a_ret ?_
    | refine a_block ?_)
  refine s_cmpF rfl rfl rfl rfl rfl rfl rfl (by simp [cmpP]) ?_
  repeat (first
    | refine a_seq ?_
    | refine a_reg ?_
    | refine a_regP mixed (by decide +kernel) ?_
    | refine t_lit tok rfl rfl rfl rfl ?_
    | refine t_im tok rfl rfl rfl rfl ?_
    | refine t_ip tok rfl rfl rfl rfl ?_
    | refine t_pt tok rfl rfl rfl rfl ?_
    | refine t_agg tok rfl rfl rfl rfl ?_
    | refine t_tup tok rfl rfl rfl rfl ?_
    | refine t_fn tok rfl rfl rfl rfl ?_
    | refine AL.nil ?_
    | refine s_skip rfl rfl rfl ?_
    | refine s_cmpT rfl rfl rfl rfl rfl rfl rfl (by first | (simp only [cmpP]; omega) | exact rfl) ?_
    | refine s_cmpF rfl rfl rfl rfl rfl rfl rfl (by first | (simp only [cmpP]; omega) | exact rfl) ?_
    | refine s_arith rfl rfl rfl rfl rfl rfl rfl (by first | (exact IntWalk.i64_in _ (by omega)) | (exact IntWalk.u8_in _ (by omega))) ?_
    | refine a_condT rfl ?_
    | refine a_condF rfl ?_
    | refine a_skip ?_
    | refine a_exit ?_
    | refine a_ret ?_
    | refine a_block ?_)
  refine s_build tok rfl rfl rfl rfl rfl rfl rfl rfl (by decide) (by decide) (fun v => ?_)
  repeat (first
    | refine a_seq ?_
    | refine a_reg ?_
    | refine a_regP mixed (by decide +kernel) ?_
    | refine t_lit tok rfl rfl rfl rfl ?_
    | refine t_im tok rfl rfl rfl rfl ?_
    | refine t_ip tok rfl rfl rfl rfl ?_
    | refine t_pt tok rfl rfl rfl rfl ?_
    | refine t_agg tok rfl rfl rfl rfl ?_
    | refine t_tup tok rfl rfl rfl rfl ?_
    | refine t_fn tok rfl rfl rfl rfl ?_
    | refine AL.nil ?_
    | refine s_skip rfl rfl rfl ?_
    | refine s_cmpT rfl rfl rfl rfl rfl rfl rfl (by first | (simp only [cmpP]; omega) | exact rfl) ?_
    | refine s_cmpF rfl rfl rfl rfl rfl rfl rfl (by first | (simp only [cmpP]; omega) | exact rfl) ?_
    | refine s_arith rfl rfl rfl rfl rfl rfl rfl (by first | (exact IntWalk.i64_in _ (by omega)) | (exact IntWalk.u8_in _ (by omega))) ?_
    | refine a_condT rfl ?_
    | refine a_condF rfl ?_
    | refine a_skip ?_
    | refine a_exit ?_
    | refine a_ret ?_
    | refine a_block ?_)
  refine s_callO 0 rfl rfl rfl rfl rfl rfl (Pure.give (Equal_spec [0, 0, 2, 0, 0] [0, 0, 2, 0, 0] (by decide) (by decide)) (args' := [ints [0, 0, 2, 0, 0], .lit v]) ⟨FZ.refl _, FZ.here, trivial⟩) (SubL.of_eq rfl) ?_
  rintro _ _ ⟨rfl, rfl⟩
  repeat (first
    | refine a_seq ?_
    | refine a_reg ?_
    | refine a_regP mixed (by decide +kernel) ?_
    | refine t_lit tok rfl rfl rfl rfl ?_
    | refine t_im tok rfl rfl rfl rfl ?_
    | refine t_ip tok rfl rfl rfl rfl ?_
    | refine t_pt tok rfl rfl rfl rfl ?_
    | refine t_agg tok rfl rfl rfl rfl ?_
    | refine t_tup tok rfl rfl rfl rfl ?_
    | refine t_fn tok rfl rfl rfl rfl ?_
    | refine AL.nil ?_
    | refine s_skip rfl rfl rfl ?_
    | refine s_cmpT rfl rfl rfl rfl rfl rfl rfl (by first | (simp only [cmpP]; omega) | exact rfl) ?_
    | refine s_cmpF rfl rfl rfl rfl rfl rfl rfl (by first | (simp only [cmpP]; omega) | exact rfl) ?_
    | refine s_arith rfl rfl rfl rfl rfl rfl rfl (by first | (exact IntWalk.i64_in _ (by omega)) | (exact IntWalk.u8_in _ (by omega))) ?_
    | refine a_condT rfl ?_
    | refine a_condF rfl ?_
    | refine a_skip ?_
    | refine a_exit ?_
    | refine a_ret ?_
    | refine a_block ?_)
  refine s_build tok rfl rfl rfl rfl rfl rfl rfl rfl (by decide) (by decide) (fun v => ?_)
  repeat (first
    | refine a_seq ?_
    | refine a_reg ?_
    | refine a_regP mixed (by decide +kernel) ?_
    | refine t_lit tok rfl rfl rfl rfl ?_
    | refine t_im tok rfl rfl rfl rfl ?_
    | refine t_ip tok rfl rfl rfl rfl ?_
    | refine t_pt tok rfl rfl rfl rfl ?_
    | refine t_agg tok rfl rfl rfl rfl ?_
    | refine t_tup tok rfl rfl rfl rfl ?_
    | refine t_fn tok rfl rfl rfl rfl ?_
    | refine AL.nil ?_
    | refine s_skip rfl rfl rfl ?_
    | refine s_cmpT rfl rfl rfl rfl rfl rfl rfl (by first | (simp only [cmpP]; omega) | exact rfl) ?_
    | refine s_cmpF rfl rfl rfl rfl rfl rfl rfl (by first | (simp only [cmpP]; omega) | exact rfl) ?_
    | refine s_arith rfl rfl rfl rfl rfl rfl rfl (by first | (exact IntWalk.i64_in _ (by omega)) | (exact IntWalk.u8_in _ (by omega))) ?_
    | refine a_condT rfl ?_
    | refine a_condF rfl ?_
    | refine a_skip ?_
    | refine a_exit ?_
    | refine a_ret ?_
    | refine a_block ?_)
  refine s_callO 0 rfl rfl rfl rfl rfl rfl (Pure.give (Equal_spec [0, 0, 0, 3] [0, 0, 0, 3] (by decide) (by decide)) (args' := [ints [0, 0, 0, 3], .lit v]) ⟨FZ.refl _, FZ.here, trivial⟩) (SubL.of_eq rfl) ?_
  rintro _ _ ⟨rfl, rfl⟩
  repeat (first
    | refine a_seq ?_
    | refine a_reg ?_
    | refine a_regP mixed (by decide +kernel) ?_
    | refine t_lit tok rfl rfl rfl rfl ?_
    | refine t_im tok rfl rfl rfl rfl ?_
    | refine t_ip tok rfl rfl rfl rfl ?_
    | refine t_pt tok rfl rfl rfl rfl ?_
    | refine t_agg tok rfl rfl rfl rfl ?_
    | refine t_tup tok rfl rfl rfl rfl ?_
    | refine t_fn tok rfl rfl rfl rfl ?_
    | refine AL.nil ?_
    | refine s_skip rfl rfl rfl ?_
    | refine s_cmpT rfl rfl rfl rfl rfl rfl rfl (by first | (simp only [cmpP]; omega) | exact rfl) ?_
    | refine s_cmpF rfl rfl rfl rfl rfl rfl rfl (by first | (simp only [cmpP]; omega) | exact rfl) ?_
    | refine s_arith rfl rfl rfl rfl rfl rfl rfl (by first | (exact IntWalk.i64_in _ (by omega)) | (exact IntWalk.u8_in _ (by omega))) ?_
    | refine a_condT rfl ?_
    | refine a_condF rfl ?_
    | refine a_skip ?_
    | refine a_exit ?_
    | refine a_ret ?_
    | refine a_block ?_)
  refine s_build tok rfl rfl rfl rfl rfl rfl rfl rfl (by decide) (by decide) (fun v => ?_)
  repeat (first
    | refine a_seq ?_
    | refine a_reg ?_
    | refine a_regP mixed (by decide +kernel) ?_
    | refine t_lit tok rfl rfl rfl rfl ?_
    | refine t_im tok rfl rfl rfl rfl ?_
    | refine t_ip tok rfl rfl rfl rfl ?_
    | refine t_pt tok rfl rfl rfl rfl ?_
    | refine t_agg tok rfl rfl rfl rfl ?_
    | refine t_tup tok rfl rfl rfl rfl ?_
    | refine t_fn tok rfl rfl rfl rfl ?_
    | refine AL.nil ?_
    | refine s_skip rfl rfl rfl ?_
    | refine s_cmpT rfl rfl rfl rfl rfl rfl rfl (by first | (simp only [cmpP]; omega) | exact rfl) ?_
    | refine s_cmpF rfl rfl rfl rfl rfl rfl rfl (by first | (simp only [cmpP]; omega) | exact rfl) ?_
    | refine s_arith rfl rfl rfl rfl rfl rfl rfl (by first | (exact IntWalk.i64_in _ (by omega)) | (exact IntWalk.u8_in _ (by omega))) ?_
    | refine a_condT rfl ?_
    | refine a_condF rfl ?_
    | refine a_skip ?_
    | refine a_exit ?_
    | refine a_ret ?_
    | refine a_block ?_)
  refine s_callO 0 rfl rfl rfl rfl rfl rfl (Pure.give (Equal_spec [0, 1, 2, 3] [0, 1, 2, 3] (by decide) (by decide)) (args' := [ints [0, 1, 2, 3], .lit v]) ⟨FZ.refl _, FZ.here, trivial⟩) (SubL.of_eq rfl) ?_
  rintro _ _ ⟨rfl, rfl⟩
  repeat (first
    | refine a_seq ?_
    | refine a_reg ?_
    | refine a_regP mixed (by decide +kernel) ?_
    | refine t_lit tok rfl rfl rfl rfl ?_
    | refine t_im tok rfl rfl rfl rfl ?_
    | refine t_ip tok rfl rfl rfl rfl ?_
    | refine t_pt tok rfl rfl rfl rfl ?_
    | refine t_agg tok rfl rfl rfl rfl ?_
    | refine t_tup tok rfl rfl rfl rfl ?_
    | refine t_fn tok rfl rfl rfl rfl ?_
    | refine AL.nil ?_
    | refine s_skip rfl rfl rfl ?_
    | refine s_cmpT rfl rfl rfl rfl rfl rfl rfl (by first | (simp only [cmpP]; omega) | exact rfl) ?_
    | refine s_cmpF rfl rfl rfl rfl rfl rfl rfl (by first | (simp only [cmpP]; omega) | exact rfl) ?_
    | refine s_arith rfl rfl rfl rfl rfl rfl rfl (by first | (exact IntWalk.i64_in _ (by omega)) | (exact IntWalk.u8_in _ (by omega))) ?_
    | refine a_condT rfl ?_
    | refine a_condF rfl ?_
    | refine a_skip ?_
    | refine a_exit ?_
    | refine a_ret ?_
    | refine a_block ?_)
  first | refine fin (x := .lit _) (.inr rfl) rfl (Sub.refl _) ?_ (OSub.refl _) | refine fin (x := .im _ _) (.inr rfl) rfl (Sub.refl _) ?_ (OSub.refl _) | refine fin (x := .tup [.lit _, .lit _]) (.inr rfl) rfl (Sub.refl _) ?_ (OSub.refl _) | refine fin (x := .tup [.im _ _, .lit _]) (.inr rfl) rfl (Sub.refl _) ?_ (OSub.refl _) | refine fin (x := .tup [.lit _, .lit _, .lit _]) (.inr rfl) rfl (Sub.refl _) ?_ (OSub.refl _) | refine fin (x := .agg _) (.inr rfl) rfl (Sub.refl _) ?_ (OSub.refl _)
  exact ⟨rfl, rfl⟩
end Go.Proofs.Ytjkgjlaockihaaa
