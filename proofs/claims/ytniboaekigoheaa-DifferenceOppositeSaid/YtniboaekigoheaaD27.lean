/-
  Remainders: the walk.
-/
import Derived.Test.YtniboaekigoheaaD12
import Derived.Test.YtniboaekigoheaaSjL10
namespace Go.Proofs.Ytniboaekigoheaa
open Go.Sj Go.Sj.Dif
set_option linter.unusedVariables false
set_option maxHeartbeats 4000000

theorem remainder_spec (x n : Int) (hn : 0 < n ∧ n ≤ 1000000) : Pure Try.prog 50 [AI x, AI n] (AI (x % n)) := by
  have h1 := tmod_rng (a := x) hn.1
  rw [← tmod_mod (a := x) (b := n)]
  refine a_enter Try.func50 (by kernel_rfl) rfl Try.ntmps50 rfl (by simp) ?_
  repeat (first
    | refine a_seq ?_
    | refine a_reg ?_
    | refine a_regP mixed (by decide +kernel) ?_
    | refine t_lit tok rfl rfl rfl rfl ?_
    | refine t_im tok rfl rfl rfl rfl ?_
    | refine t_ip tok rfl rfl rfl rfl ?_
    | refine t_pt tok rfl rfl rfl rfl ?_
    | refine t_agg tok rfl rfl rfl rfl ?_
    | refine t_tup tok rfl rfl rfl rfl ?_
    | refine t_fn tok rfl rfl rfl rfl ?_
    | refine AL.nil ?_
    | refine s_skip rfl rfl rfl ?_
    | refine s_cmpT rfl rfl rfl rfl rfl rfl rfl (by first | (simp only [cmpP]; omega) | exact rfl) ?_
    | refine s_cmpF rfl rfl rfl rfl rfl rfl rfl (by first | (simp only [cmpP]; omega) | exact rfl) ?_
    | refine s_arith rfl rfl rfl rfl rfl rfl rfl (by first | (exact IntWalk.i64_in _ (by omega)) | (exact IntWalk.u8_in _ (by omega))) ?_
    | refine s_rem rfl rfl rfl rfl rfl rfl (by omega) (by omega) ?_
    | refine s_remT rfl rfl rfl rfl rfl rfl (by omega) ?_
    | refine a_condT rfl ?_
    | refine a_condF rfl ?_
    | refine a_skip ?_
    | refine a_exit ?_
    | refine a_ret ?_
    | refine a_block ?_)
  first | refine fin (x := .lit _) (.inr rfl) rfl (Sub.refl _) ?_ (OSub.none _) | refine fin (x := .im _ _) (.inr rfl) rfl (Sub.refl _) ?_ (OSub.none _) | refine fin (x := .tup [.lit _, .lit _]) (.inr rfl) rfl (Sub.refl _) ?_ (OSub.none _) | refine fin (x := .tup [.im _ _, .lit _]) (.inr rfl) rfl (Sub.refl _) ?_ (OSub.none _) | refine fin (x := .tup [.lit _, .lit _, .lit _]) (.inr rfl) rfl (Sub.refl _) ?_ (OSub.none _) | refine fin (x := .agg _) (.inr rfl) rfl (Sub.refl _) ?_ (OSub.none _)
  exact ⟨rfl, rfl⟩
end Go.Proofs.Ytniboaekigoheaa
