/-
  The law on the order of types: the walk.
-/
import Derived.Test.YtebmopjobmjhmaaY19
import Derived.Test.YtebmopjobmjhmaaY23
import Derived.Test.YtebmopjobmjhmaaSjQT
namespace Go.Proofs.Ytebmopjobmjhmaa
open Go.Sj Go.Sj.Typ
set_option linter.unusedVariables false
set_option maxHeartbeats 4000000

theorem mod_rng {x : Int} {n : Nat} (hn : 1 ≤ n) : 0 ≤ x % (n : Int) ∧ x % (n : Int) < n := ⟨Int.emod_nonneg _ (by omega), Int.emod_lt_of_pos _ (by omega)⟩
theorem TypesOrder_spec (nodes : List (Int × Int)) (hn : Cd nodes ∧ nodes.length ≤ 140737488355328) (x : List Int) (hx : Okn 3 x) : Pure Try.prog 6 [.im 2 (nodes.map c82), .agg (x.map fun m => .lit (.int .u8 m))] (AB true) := by
  obtain ⟨x0, x1, x2, rfl, o0, o1, o2⟩ := okn3 hx
  have s1 := Made_spec nodes [] hn.1 (by simp [Cd]) hn.2 (by simp)
  have hm := madeNum_rng nodes
  have ln : ((madeT nodes []).nodes.map cNod).length = madeNum nodes := by rw [List.length_map, made_nodes]
  have ht := made_small nodes []
  have ra := mod_rng (x := x0) hm.1
  have rb := mod_rng (x := x1) hm.1
  have rc := mod_rng (x := x2) hm.1
  have f1 := made_self (edges := []) ra
  have f2 := made_anti (edges := []) ra rb
  have f3 := made_trans (edges := []) ra rb rc
  have s2 := Is_spec _ ht (x0 % (madeNum nodes : Int)) (x0 % (madeNum nodes : Int))
  have s3 := Is_spec _ ht (x0 % (madeNum nodes : Int)) (x1 % (madeNum nodes : Int))
  have s4 := Is_spec _ ht (x1 % (madeNum nodes : Int)) (x0 % (madeNum nodes : Int))
  have s5 := Is_spec _ ht (x1 % (madeNum nodes : Int)) (x2 % (madeNum nodes : Int))
  have s6 := Is_spec _ ht (x0 % (madeNum nodes : Int)) (x2 % (madeNum nodes : Int))
  generalize hN : madeNum nodes = n at *
  generalize ha : x0 % (n : Int) = a at *
  generalize hb' : x1 % (n : Int) = b at *
  generalize hc' : x2 % (n : Int) = c at *
  generalize madeT nodes [] = t at *
  generalize isR t a a = paa at *
  generalize isR t a b = pab at *
  generalize isR t b a = pba at *
  generalize isR t b c = pbc at *
  generalize isR t a c = pac at *
  subst f1
  refine a_enter Try.func6 (by kernel_rfl) rfl Try.ntmps6 rfl (by simp) ?_
  repeat (first
    | refine a_seq ?_
    | refine a_reg ?_
    | refine t_lit tok rfl rfl rfl rfl ?_
    | refine t_im tok rfl rfl rfl rfl ?_
    | refine t_ip tok rfl rfl rfl rfl ?_
    | refine t_pt tok rfl rfl rfl rfl ?_
    | refine t_agg tok rfl rfl rfl rfl ?_
    | refine t_tup tok rfl rfl rfl rfl ?_
    | refine t_fn tok rfl rfl rfl rfl ?_
    | refine AL.nil ?_
    | refine s_skip rfl rfl rfl ?_
    | refine s_cmpT rfl rfl rfl rfl rfl rfl rfl (by first | (simp only [cmpP]; omega) | exact rfl) ?_
    | refine s_cmpF rfl rfl rfl rfl rfl rfl rfl (by first | (simp only [cmpP]; omega) | exact rfl) ?_
    | refine s_arith rfl rfl rfl rfl rfl rfl rfl (by first | (exact IntWalk.i64_in _ (by omega)) | (exact IntWalk.u8_in _ (by omega))) ?_
    | refine s_box rfl rfl rfl rfl rfl rfl (fun u => ?_)
    | refine s_callP rfl rfl rfl rfl rfl (awake_spec) (SubL.of_eq rfl) ?_
    | refine s_callP rfl rfl rfl rfl rfl s1 (show SubL [_, _] [_, _] from ⟨Sub.refl _, Sub.nil 2, trivial⟩) ?_
    | refine s_alloc tok rfl rfl rfl rfl rfl (fun u => ?_)
    | refine s_store tok 0 rfl rfl rfl rfl rfl rfl rfl rfl (by decide) rfl rfl rfl (Nat.le_refl _) ?_
    | refine s_ownLoad tok 0 rfl rfl rfl rfl (by decide) rfl rfl rfl rfl rfl rfl (List.cons_ne_nil _ _) ?_
    | refine a_condT rfl ?_
    | refine a_condF rfl ?_
    | refine a_skip ?_
    | refine a_exit ?_
    | refine a_ret ?_
    | refine a_block ?_)
  refine a_frzBox 1 3 rfl rfl ?_
  refine a_frzBox 0 5 rfl rfl ?_
  rw [ln]
  refine a_regP mixed (by decide +kernel) ?_
  repeat (first
    | refine t_lit tok rfl rfl rfl rfl ?_
    | refine t_im tok rfl rfl rfl rfl ?_
    | refine t_ip tok rfl rfl rfl rfl ?_
    | refine t_pt tok rfl rfl rfl rfl ?_
    | refine t_agg tok rfl rfl rfl rfl ?_
    | refine t_tup tok rfl rfl rfl rfl ?_
    | refine t_fn tok rfl rfl rfl rfl ?_
    | refine AL.nil ?_
    | refine s_skip rfl rfl rfl ?_
    | refine s_cmpT rfl rfl rfl rfl rfl rfl rfl (by first | (simp only [cmpP]; omega) | exact rfl) ?_
    | refine s_cmpF rfl rfl rfl rfl rfl rfl rfl (by first | (simp only [cmpP]; omega) | exact rfl) ?_
    | refine s_arith rfl rfl rfl rfl rfl rfl rfl (by first | (exact IntWalk.i64_in _ (by omega)) | (exact IntWalk.u8_in _ (by omega))) ?_
    | refine s_arrIp tok rfl rfl rfl rfl rfl rfl rfl rfl (by decide) (by decide) ?_
    | refine s_conv tok rfl rfl rfl rfl rfl rfl rfl (IntWalk.i64_in _ (by omega)) ?_
    | refine s_rem rfl rfl rfl rfl rfl rfl (by omega) (by omega) ?_)
  rw [ha, hb', hc']
  repeat' (first
    | refine a_seq ?_
    | refine a_reg ?_
    | refine a_regP mixed (by decide +kernel) ?_
    | refine t_lit tok rfl rfl rfl rfl ?_
    | refine t_im tok rfl rfl rfl rfl ?_
    | refine t_ip tok rfl rfl rfl rfl ?_
    | refine t_pt tok rfl rfl rfl rfl ?_
    | refine t_agg tok rfl rfl rfl rfl ?_
    | refine t_tup tok rfl rfl rfl rfl ?_
    | refine t_fn tok rfl rfl rfl rfl ?_
    | refine AL.nil ?_
    | refine s_skip rfl rfl rfl ?_
    | refine s_cmpT rfl rfl rfl rfl rfl rfl rfl (by first | (simp only [cmpP]; omega) | exact rfl) ?_
    | refine s_cmpF rfl rfl rfl rfl rfl rfl rfl (by first | (simp only [cmpP]; omega) | exact rfl) ?_
    | refine s_arith rfl rfl rfl rfl rfl rfl rfl (by first | (exact IntWalk.i64_in _ (by omega)) | (exact IntWalk.u8_in _ (by omega))) ?_
    | refine s_callP rfl rfl rfl rfl rfl (s2) (SubL.of_eq rfl) ?_
    | (refine s_callB rfl rfl rfl rfl rfl (s3) (SubL.of_eq rfl) (fun hb => ?_) (fun hb => ?_) <;> (first | replace hb := of_decide_eq_true hb | replace hb := of_decide_eq_false hb | skip))
    | (refine s_callB rfl rfl rfl rfl rfl (s4) (SubL.of_eq rfl) (fun hb => ?_) (fun hb => ?_) <;> (first | replace hb := of_decide_eq_true hb | replace hb := of_decide_eq_false hb | skip))
    | (refine s_callB rfl rfl rfl rfl rfl (s5) (SubL.of_eq rfl) (fun hb => ?_) (fun hb => ?_) <;> (first | replace hb := of_decide_eq_true hb | replace hb := of_decide_eq_false hb | skip))
    | (refine s_callB rfl rfl rfl rfl rfl (s6) (SubL.of_eq rfl) (fun hb => ?_) (fun hb => ?_) <;> (first | replace hb := of_decide_eq_true hb | replace hb := of_decide_eq_false hb | skip))
    | (refine s_cmp rfl rfl rfl rfl rfl rfl rfl (fun hb => ?_) (fun hb => ?_) <;> simp only [cmpP] at hb)
    | refine a_condT rfl ?_
    | refine a_condF rfl ?_
    | refine a_skip ?_
    | refine a_exit ?_
    | refine a_ret ?_
    | refine a_block ?_)
  all_goals first | ((first | refine fin (x := .lit _) (.inr rfl) rfl (Sub.refl _) ?_ (OSub.none _) | refine fin (x := .im _ _) (.inr rfl) rfl (Sub.refl _) ?_ (OSub.none _) | refine fin (x := .tup [.lit _, .lit _]) (.inr rfl) rfl (Sub.refl _) ?_ (OSub.none _) | refine fin (x := .tup [.im _ _, .lit _]) (.inr rfl) rfl (Sub.refl _) ?_ (OSub.none _) | refine fin (x := .tup [.lit _, .lit _, .lit _]) (.inr rfl) rfl (Sub.refl _) ?_ (OSub.none _) | refine fin (x := .agg _) (.inr rfl) rfl (Sub.refl _) ?_ (OSub.none _)); exact ⟨rfl, rfl⟩) | (exfalso; subst_vars; first | contradiction | exact absurd (f2 rfl rfl) ‹_› | exact absurd (f3 rfl rfl) (by decide))
end Go.Proofs.Ytebmopjobmjhmaa
