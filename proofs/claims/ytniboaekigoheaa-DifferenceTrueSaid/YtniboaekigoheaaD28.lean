/-
  Tests that are made: the walk.
-/
import Derived.Test.YtniboaekigoheaaD12
import Derived.Test.YtniboaekigoheaaSjL11
namespace Go.Proofs.Ytniboaekigoheaa
open Go.Sj Go.Sj.Dif
set_option linter.unusedVariables false
set_option maxHeartbeats 4000000

theorem remainder_spec (x n : Int) (hn : 0 < n ∧ n ≤ 1000000) : Pure Try.prog 50 [AI x, AI n] (AI (x % n)) := by
  have h1 := tmod_rng (a := x) hn.1
  rw [← tmod_mod (a := x) (b := n)]
  refine a_enter Try.func50 (by kernel_rfl) rfl Try.ntmps50 rfl (by simp) ?_
  repeat (first
    | refine a_seq ?_
    | refine a_reg ?_
    | refine a_regP mixed (by decide +kernel) ?_
    | refine t_lit tok rfl rfl rfl rfl ?_
    | refine t_im tok rfl rfl rfl rfl ?_
    | refine t_ip tok rfl rfl rfl rfl ?_
    | refine t_pt tok rfl rfl rfl rfl ?_
    | refine t_agg tok rfl rfl rfl rfl ?_
    | refine t_tup tok rfl rfl rfl rfl ?_
    | refine t_fn tok rfl rfl rfl rfl ?_
    | refine AL.nil ?_
    | refine s_skip rfl rfl rfl ?_
    | refine s_cmpT rfl rfl rfl rfl rfl rfl rfl (by first | (simp only [cmpP]; omega) | exact rfl) ?_
    | refine s_cmpF rfl rfl rfl rfl rfl rfl rfl (by first | (simp only [cmpP]; omega) | exact rfl) ?_
    | refine s_arith rfl rfl rfl rfl rfl rfl rfl (by first | (exact IntWalk.i64_in _ (by omega)) | (exact IntWalk.u8_in _ (by omega))) ?_
    | refine s_rem rfl rfl rfl rfl rfl rfl (by omega) (by omega) ?_
    | refine s_remT rfl rfl rfl rfl rfl rfl (by omega) ?_
    | refine a_condT rfl ?_
    | refine a_condF rfl ?_
    | refine a_skip ?_
    | refine a_exit ?_
    | refine a_ret ?_
    | refine a_block ?_)
  first | refine fin (x := .lit _) (.inr rfl) rfl (Sub.refl _) ?_ (OSub.none _) | refine fin (x := .im _ _) (.inr rfl) rfl (Sub.refl _) ?_ (OSub.none _) | refine fin (x := .tup [.lit _, .lit _]) (.inr rfl) rfl (Sub.refl _) ?_ (OSub.none _) | refine fin (x := .tup [.im _ _, .lit _]) (.inr rfl) rfl (Sub.refl _) ?_ (OSub.none _) | refine fin (x := .tup [.lit _, .lit _, .lit _]) (.inr rfl) rfl (Sub.refl _) ?_ (OSub.none _) | refine fin (x := .agg _) (.inr rfl) rfl (Sub.refl _) ?_ (OSub.none _)
  exact ⟨rfl, rfl⟩
abbrev A8 (x : Int) : AV := .lit (.int .i8 x)
def mkT (n c0 c1 c2 c3 : Int) : Tst := ⟨1 + c0 % 4 / 3, c1 % (n + 1) - 1, 0, c2 % (n + 1) - 1, Int.tmod c3 12⟩
def In8 (a : Int) : Prop := -128 ≤ a ∧ a ≤ 127
theorem Made_spec (n c0 c1 c2 c3 : Int) (hn : 0 ≤ n ∧ n ≤ 1000) (h0 : In8 c0) (h1 : In8 c1) (h2 : In8 c2) (h3 : In8 c3) : Pure Try.prog 19 [AI n, .agg [A8 c0, A8 c1, A8 c2, A8 c3]] (.agg (cT (mkT n c0 c1 c2 c3))) := by
  obtain ⟨n0, n1⟩ := hn
  obtain ⟨a0, b0⟩ := h0
  obtain ⟨a1, b1⟩ := h1
  obtain ⟨a2, b2⟩ := h2
  obtain ⟨a3, b3⟩ := h3
  have r0 := remainder_spec c0 4 (by decide)
  have r1 := remainder_spec c1 (n + 1) ⟨by omega, by omega⟩
  have r2 := remainder_spec c2 (n + 1) ⟨by omega, by omega⟩
  have m0 := Int.emod_nonneg c0 (b := 4) (by decide)
  have m0' := Int.emod_lt_of_pos c0 (b := 4) (by decide)
  have m1 := Int.emod_nonneg c1 (b := n + 1) (by omega)
  have m1' := Int.emod_lt_of_pos c1 (b := n + 1) (by omega)
  have m2 := Int.emod_nonneg c2 (b := n + 1) (by omega)
  have m2' := Int.emod_lt_of_pos c2 (b := n + 1) (by omega)
  rw [show cT (mkT n c0 c1 c2 c3) = [AI (1 + c0 % 4 / 3), AI (c1 % (n + 1) - 1), AI 0, AI (c2 % (n + 1) - 1), AI (Int.tmod c3 12)] from rfl]
  generalize c0 % 4 = q0 at *
  generalize c1 % (n + 1) = q1 at *
  generalize c2 % (n + 1) = q2 at *
  refine a_enterC Try.func19 (by kernel_rfl) rfl Try.ntmps19 rfl (tok _ _ rfl) (by simp) ?_
  refine a_seq ?_
  refine a_reg ?_
  repeat (first
    | refine a_seq ?_
    | refine t_lit tok rfl rfl rfl rfl ?_
    | refine t_im tok rfl rfl rfl rfl ?_
    | refine t_ip tok rfl rfl rfl rfl ?_
    | refine t_pt tok rfl rfl rfl rfl ?_
    | refine t_agg tok rfl rfl rfl rfl ?_
    | refine t_tup tok rfl rfl rfl rfl ?_
    | refine t_fn tok rfl rfl rfl rfl ?_
    | refine AL.nil ?_
    | refine s_skip rfl rfl rfl ?_
    | refine s_cmpT rfl rfl rfl rfl rfl rfl rfl (by first | (simp only [cmpP]; omega) | exact rfl) ?_
    | refine s_cmpF rfl rfl rfl rfl rfl rfl rfl (by first | (simp only [cmpP]; omega) | exact rfl) ?_
    | refine s_arith rfl rfl rfl rfl rfl rfl rfl (by first | (exact IntWalk.i64_in _ (by omega)) | (exact IntWalk.u8_in _ (by omega))) ?_
    | refine s_box rfl rfl rfl rfl rfl rfl (fun u => ?_)
    | refine s_alloc tok rfl rfl rfl rfl rfl (fun u => ?_)
    | refine a_condT rfl ?_
    | refine a_condF rfl ?_
    | refine a_skip ?_
    | refine a_exit ?_
    | refine a_ret ?_
    | refine a_block ?_)
  refine a_frzBox 1 3 rfl rfl ?_
  repeat (first
    | refine a_seq ?_
    | refine a_reg ?_
    | refine a_regO [0, 1, 2, 3, 4, 7, 8, 9, 10, 11, 5, 6, 12, 13, 14, 15] mixed rfl rfl (by decide +kernel) ?_
    | refine t_lit tok rfl rfl rfl rfl ?_
    | refine t_im tok rfl rfl rfl rfl ?_
    | refine t_ip tok rfl rfl rfl rfl ?_
    | refine t_pt tok rfl rfl rfl rfl ?_
    | refine t_agg tok rfl rfl rfl rfl ?_
    | refine t_tup tok rfl rfl rfl rfl ?_
    | refine t_fn tok rfl rfl rfl rfl ?_
    | refine AL.nil ?_
    | refine s_skip rfl rfl rfl ?_
    | refine s_cmpT rfl rfl rfl rfl rfl rfl rfl (by first | (simp only [cmpP]; omega) | exact rfl) ?_
    | refine s_cmpF rfl rfl rfl rfl rfl rfl rfl (by first | (simp only [cmpP]; omega) | exact rfl) ?_
    | refine s_arith rfl rfl rfl rfl rfl rfl rfl (by first | (exact IntWalk.i64_in _ (by omega)) | (exact IntWalk.u8_in _ (by omega))) ?_
    | refine s_callP rfl rfl rfl rfl rfl (r0) (SubL.of_eq rfl) ?_
    | refine s_callP rfl rfl rfl rfl rfl (r1) (SubL.of_eq rfl) ?_
    | refine s_callP rfl rfl rfl rfl rfl (r2) (SubL.of_eq rfl) ?_
    | refine s_store tok 0 rfl rfl rfl rfl rfl rfl rfl rfl (by decide) rfl rfl rfl (Nat.le_refl _) ?_
    | refine s_arrIp tok rfl rfl rfl rfl rfl rfl rfl rfl (by decide) (by decide) ?_
    | refine s_conv tok rfl rfl rfl rfl rfl rfl rfl (IntWalk.i64_in _ (by omega)) ?_
    | refine s_quo rfl rfl rfl rfl rfl rfl (by omega) (by omega) (IntWalk.i64_in _ (by omega)) ?_
    | refine s_remT rfl rfl rfl rfl rfl rfl (by omega) ?_
    | refine a_condT rfl ?_
    | refine a_condF rfl ?_
    | refine a_skip ?_
    | refine a_exit ?_
    | refine a_block ?_)
  refine a_frzBox 0 4 rfl rfl ?_
  repeat (first
    | refine a_seq ?_
    | refine a_reg ?_
    | refine a_regP mixed (by decide +kernel) ?_
    | refine t_lit tok rfl rfl rfl rfl ?_
    | refine t_im tok rfl rfl rfl rfl ?_
    | refine t_ip tok rfl rfl rfl rfl ?_
    | refine t_pt tok rfl rfl rfl rfl ?_
    | refine t_agg tok rfl rfl rfl rfl ?_
    | refine t_tup tok rfl rfl rfl rfl ?_
    | refine t_fn tok rfl rfl rfl rfl ?_
    | refine AL.nil ?_
    | refine s_skip rfl rfl rfl ?_
    | refine s_cmpT rfl rfl rfl rfl rfl rfl rfl (by first | (simp only [cmpP]; omega) | exact rfl) ?_
    | refine s_cmpF rfl rfl rfl rfl rfl rfl rfl (by first | (simp only [cmpP]; omega) | exact rfl) ?_
    | refine s_arith rfl rfl rfl rfl rfl rfl rfl (by first | (exact IntWalk.i64_in _ (by omega)) | (exact IntWalk.u8_in _ (by omega))) ?_
    | refine a_condT rfl ?_
    | refine a_condF rfl ?_
    | refine a_skip ?_
    | refine a_exit ?_
    | refine a_ret ?_
    | refine a_block ?_)
  exact ⟨.inr rfl, _, _, _, _, rfl, rfl, Turn.of (Sub.of_eq rfl) (OSub.refl _), rfl, rfl⟩
end Go.Proofs.Ytniboaekigoheaa
