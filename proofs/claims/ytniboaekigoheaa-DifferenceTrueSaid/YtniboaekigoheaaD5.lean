/-
  The distances of the reference; solutions of both: the walks.
-/
import Derived.Test.YtniboaekigoheaaD4
namespace Go.Proofs.Ytniboaekigoheaa
open Go.Sj Go.Sj.Dif
set_option linter.unusedVariables false
set_option maxHeartbeats 1000000

theorem mixF_self (A B : Nat → Nat → Int) (i j : Nat) : mixF A B i j i j = A i j := if_neg (by omega)

theorem refDistances_spec (n : Nat) (hn : n ≤ 12) (l : List Tst) (hl : ∀ x ∈ l, TOk n x) (hlen : l.length ≤ 100) :
    Pure Try.prog 44 [AI n, testsA l] (.tup [matA (refDistR n (arcsOf l)).1, AB (refDistR n (arcsOf l)).2]) := by
  have hA := (refArcs_spec (n := n) (by omega) l hl (by omega)).pure
  have hok := arcsOf_ok hl
  have hal : (arcsOf l).length ≤ 200 := by
    have := arcsF_length 0 l
    simp only [arcsOf]; omega
  generalize arcsOf l = A at *
  have hsq := (square_spec n (by omega) 1125899906842624 0).pure
  rw [show mkM (n + 1) (sqF 1125899906842624 0) = mkM (n + 1) (tab (n + 1) A 0) from rfl] at hsq
  have hfu : ∀ k, k ≤ n + 1 → Pure Try.prog 52 [AI n, arcsA A, matA (mkM (n + 1) (tab (n + 1) A k))] (matA (mkM (n + 1) (tab (n + 1) A (k + 1)))) :=
    fun k hk => further_spec n hn A hok (by omega) _ (fun i j hi hj => tab_low hok k (by omega) i j hi hj)
  generalize hR : refDistR n A = R
  refine a_enter Try.func44 (by kernel_rfl) rfl Try.ntmps44 rfl (by simp) ?_
  repeat (first
    | refine a_seq ?_
    | refine a_reg ?_
    | refine a_regP mixed (by decide +kernel) ?_
    | refine t_lit tok rfl rfl rfl rfl ?_
    | refine t_im tok rfl rfl rfl rfl ?_
    | refine t_ip tok rfl rfl rfl rfl ?_
    | refine t_pt tok rfl rfl rfl rfl ?_
    | refine t_agg tok rfl rfl rfl rfl ?_
    | refine t_tup tok rfl rfl rfl rfl ?_
    | refine t_fn tok rfl rfl rfl rfl ?_
    | refine AL.nil ?_
    | refine s_skip rfl rfl rfl ?_
    | refine s_cmpT rfl rfl rfl rfl rfl rfl rfl (by first | (simp only [cmpP]; omega) | exact rfl) ?_
    | refine s_cmpF rfl rfl rfl rfl rfl rfl rfl (by first | (simp only [cmpP]; omega) | exact rfl) ?_
    | refine s_arith rfl rfl rfl rfl rfl rfl rfl (by first | (exact IntWalk.i64_in _ (by omega)) | (exact IntWalk.u8_in _ (by omega))) ?_
    | refine s_callP rfl rfl rfl rfl rfl (hA) (SubL.of_eq rfl) ?_
    | refine a_condT rfl ?_
    | refine a_condF rfl ?_
    | refine a_skip ?_
    | refine a_exit ?_
    | refine a_ret ?_
    | refine a_block ?_)
  refine s_call rfl rfl rfl rfl rfl (square_spec n (by omega) 1125899906842624 0) (SubL.of_eq rfl) (Lr := []) (List.Perm.refl _) ?_
  rintro _ _ ⟨v, vs, rfl, hvs, rfl⟩
  rw [show mkM (n + 1) (sqF 1125899906842624 0) = mkM (n + 1) (bst (n + 1) A 0) from rfl, List.append_nil]
  have lv : (vs.map litR).length = n + 1 := by simp [hvs]
  repeat (first
    | refine a_seq ?_
    | refine a_reg ?_
    | refine a_regP mixed (by decide +kernel) ?_
    | refine t_lit tok rfl rfl rfl rfl ?_
    | refine t_im tok rfl rfl rfl rfl ?_
    | refine t_ip tok rfl rfl rfl rfl ?_
    | refine t_pt tok rfl rfl rfl rfl ?_
    | refine t_agg tok rfl rfl rfl rfl ?_
    | refine t_tup tok rfl rfl rfl rfl ?_
    | refine t_fn tok rfl rfl rfl rfl ?_
    | refine AL.nil ?_
    | refine s_skip rfl rfl rfl ?_
    | refine s_cmpT rfl rfl rfl rfl rfl rfl rfl (by first | (simp only [cmpP]; omega) | exact rfl) ?_
    | refine s_cmpF rfl rfl rfl rfl rfl rfl rfl (by first | (simp only [cmpP]; omega) | exact rfl) ?_
    | refine s_arith rfl rfl rfl rfl rfl rfl rfl (by first | (exact IntWalk.i64_in _ (by omega)) | (exact IntWalk.u8_in _ (by omega))) ?_
    | refine s_callP rfl rfl rfl rfl rfl (hsq) (SubL.of_eq rfl) ?_
    | refine a_condT rfl ?_
    | refine a_condF rfl ?_
    | refine a_skip ?_
    | refine a_exit ?_
    | refine a_ret ?_
    | refine a_block ?_)
  refine a_loopX (fun k : Nat => [(0, AI n), (6, arcsA A), (7, .lit v), (8, matA (mkM (n + 1) (tab (n + 1) A k))), (9, AI k)]) (fun k => matO 3 36 v vs (mkM (n + 1) (bst (n + 1) A k))) (fun k => k ≤ n + 2) (fun k => n + 2 - k) 0 (Nat.zero_le _) ?_ (OSub.refl _) ?_
  · repeat (first | exact subs_nil | refine subs_cons (Sub.of_eq rfl) ?_ | refine subs_cons (Sub.nil _) ?_)
  · intro k hk
    rcases Nat.lt_or_ge k (n + 2) with h1 | h1
    · have hf := hfu k (by omega)
      have hb : bst (n + 1) A (k + 1) = fun i j => min (bst (n + 1) A k i j) (tab (n + 1) A (k + 1) i j) := rfl
      generalize bst (n + 1) A k = B at *
      generalize tab (n + 1) A k = T at *
      generalize hU : tab (n + 1) A (k + 1) = U at *
      repeat (first
    | refine a_seq ?_
    | refine a_reg ?_
    | refine a_regP mixed (by decide +kernel) ?_
    | refine t_lit tok rfl rfl rfl rfl ?_
    | refine t_im tok rfl rfl rfl rfl ?_
    | refine t_ip tok rfl rfl rfl rfl ?_
    | refine t_pt tok rfl rfl rfl rfl ?_
    | refine t_agg tok rfl rfl rfl rfl ?_
    | refine t_tup tok rfl rfl rfl rfl ?_
    | refine t_fn tok rfl rfl rfl rfl ?_
    | refine AL.nil ?_
    | refine s_skip rfl rfl rfl ?_
    | refine s_cmpT rfl rfl rfl rfl rfl rfl rfl (by first | (simp only [cmpP]; omega) | exact rfl) ?_
    | refine s_cmpF rfl rfl rfl rfl rfl rfl rfl (by first | (simp only [cmpP]; omega) | exact rfl) ?_
    | refine s_arith rfl rfl rfl rfl rfl rfl rfl (by first | (exact IntWalk.i64_in _ (by omega)) | (exact IntWalk.u8_in _ (by omega))) ?_
    | refine s_callP rfl rfl rfl rfl rfl (hf) (SubL.of_eq rfl) ?_
    | refine a_condT rfl ?_
    | refine a_condF rfl ?_
    | refine a_skip ?_
    | refine a_exit ?_
    | refine a_ret ?_
    | refine a_block ?_)
      refine a_loopX (fun i : Nat => [(0, AI n), (6, arcsA A), (7, .lit v), (8, matA (mkM (n + 1) U)), (9, AI k), (10, AI i)]) (fun i => matO 3 36 v vs (mkM (n + 1) (mixF B (fun i j => min (B i j) (U i j)) i 0))) (fun i => i ≤ n + 1) (fun i => n + 1 - i) 0 (Nat.zero_le _) ?_ (by rw [mixF_zero]; exact OSub.refl _) ?_
      · repeat (first | exact subs_nil | refine subs_cons (Sub.of_eq rfl) ?_ | refine subs_cons (Sub.nil _) ?_)
      · intro i hi
        rcases Nat.lt_or_ge i (n + 1) with h2 | h2
        · have hu := List.getElem?_eq_getElem (show i < vs.length by omega)
          generalize vs[i] = uf at hu
          have hob := obat_lit (E := 36) hu
          have hf1 : (i : Int) < ((vs.map litR).length : Nat) := by omega
          have x1 := mat_row h2 U
          repeat (first
    | refine a_seq ?_
    | refine a_reg ?_
    | refine a_regP mixed (by decide +kernel) ?_
    | refine t_lit tok rfl rfl rfl rfl ?_
    | refine t_im tok rfl rfl rfl rfl ?_
    | refine t_ip tok rfl rfl rfl rfl ?_
    | refine t_pt tok rfl rfl rfl rfl ?_
    | refine t_agg tok rfl rfl rfl rfl ?_
    | refine t_tup tok rfl rfl rfl rfl ?_
    | refine t_fn tok rfl rfl rfl rfl ?_
    | refine AL.nil ?_
    | refine s_skip rfl rfl rfl ?_
    | refine s_cmpT rfl rfl rfl rfl rfl rfl rfl (by first | (simp only [cmpP]; omega) | exact rfl) ?_
    | refine s_cmpF rfl rfl rfl rfl rfl rfl rfl (by first | (simp only [cmpP]; omega) | exact rfl) ?_
    | refine s_arith rfl rfl rfl rfl rfl rfl rfl (by first | (exact IntWalk.i64_in _ (by omega)) | (exact IntWalk.u8_in _ (by omega))) ?_
    | refine a_condT rfl ?_
    | refine a_condF rfl ?_
    | refine a_skip ?_
    | refine a_exit ?_
    | refine a_ret ?_
    | refine a_block ?_)
          refine a_loopX (fun j : Nat => [(0, AI n), (6, arcsA A), (7, .lit v), (8, matA (mkM (n + 1) U)), (9, AI k), (10, AI i), (11, AI j)]) (fun j => matO 3 36 v vs (mkM (n + 1) (mixF B (fun i j => min (B i j) (U i j)) i j))) (fun j => j ≤ n + 1) (fun j => n + 1 - j) 0 (Nat.zero_le _) ?_ (OSub.refl _) ?_
          · repeat (first | exact subs_nil | refine subs_cons (Sub.of_eq rfl) ?_ | refine subs_cons (Sub.nil _) ?_)
          · intro j hj
            rcases Nat.lt_or_ge j (n + 1) with h3 | h3
            · have x2 := row_at h3 (U i)
              have hst := mixF_step B (fun i j => min (B i j) (U i j)) i j
              have hse := mixF_self B (fun i j => min (B i j) (U i j)) i j
              generalize mixF B (fun i j => min (B i j) (U i j)) i j = O' at *
              have hg := mat_get (E := 3) (E' := 36) (v := v) (O := O') h2 hu
              have lr : (rowI (mkR (n + 1) (O' i))).length = n + 1 := by simp [mkR_length]
              have lr2 := mkR_length (n + 1) (O' i)
              have hld := row_get h3 (O' i)
              have hk1 : (j : Int) < ((rowI (mkR (n + 1) (O' i))).length : Nat) := by omega
              repeat (first
    | refine a_seq ?_
    | refine a_reg ?_
    | refine a_regR mixed (by decide +kernel) ?_
    | refine t_lit tok rfl rfl rfl rfl ?_
    | refine t_im tok rfl rfl rfl rfl ?_
    | refine t_ip tok rfl rfl rfl rfl ?_
    | refine t_pt tok rfl rfl rfl rfl ?_
    | refine t_agg tok rfl rfl rfl rfl ?_
    | refine t_tup tok rfl rfl rfl rfl ?_
    | refine t_fn tok rfl rfl rfl rfl ?_
    | refine AL.nil ?_
    | refine s_skip rfl rfl rfl ?_
    | refine s_cmpT rfl rfl rfl rfl rfl rfl rfl (by first | (simp only [cmpP]; omega) | exact rfl) ?_
    | refine s_cmpF rfl rfl rfl rfl rfl rfl rfl (by first | (simp only [cmpP]; omega) | exact rfl) ?_
    | refine s_arith rfl rfl rfl rfl rfl rfl rfl (by first | (exact IntWalk.i64_in _ (by omega)) | (exact IntWalk.u8_in _ (by omega))) ?_
    | refine s_index tok rfl rfl rfl rfl rfl rfl rfl rfl rfl (by omega) x1 ?_
    | refine s_index tok rfl rfl rfl rfl rfl rfl rfl rfl rfl (by omega) x2 ?_
    | refine s_ownIndex tok 0 rfl rfl rfl rfl (by decide) rfl rfl rfl rfl rfl rfl (by omega) hf1 ?_
    | refine s_ownLoad tok 0 rfl rfl rfl rfl (by decide) rfl rfl rfl rfl hob rfl (List.cons_ne_nil _ _) ?_
    | refine s_ownIndex tok (i + 1) rfl rfl rfl rfl (by decide) rfl rfl rfl hg rfl rfl (by omega) hk1 ?_
    | refine s_loadI tok (i + 1) rfl rfl rfl rfl (by decide) rfl rfl rfl hg hld ?_
    | refine s_storeI tok (i + 1) rfl rfl rfl rfl rfl rfl rfl hg (by omega) ?_
    | refine a_condT rfl ?_
    | refine a_condF rfl ?_
    | refine a_skip ?_
    | refine a_exit ?_
    | refine a_ret ?_
    | refine a_block ?_)
              refine ⟨j + 1, by omega, by omega, ?_, ?_⟩
              · repeat (first | exact subs_nil | refine subs_cons (Sub.of_eq rfl) ?_ | refine subs_cons (Sub.nil _) ?_)
              · rw [← hst, ← hse, ← mat_set hu]
                exact OSub.refl _
            · obtain rfl : j = n + 1 := by omega
              repeat (first
    | refine a_seq ?_
    | refine a_reg ?_
    | refine a_regP mixed (by decide +kernel) ?_
    | refine t_lit tok rfl rfl rfl rfl ?_
    | refine t_im tok rfl rfl rfl rfl ?_
    | refine t_ip tok rfl rfl rfl rfl ?_
    | refine t_pt tok rfl rfl rfl rfl ?_
    | refine t_agg tok rfl rfl rfl rfl ?_
    | refine t_tup tok rfl rfl rfl rfl ?_
    | refine t_fn tok rfl rfl rfl rfl ?_
    | refine AL.nil ?_
    | refine s_skip rfl rfl rfl ?_
    | refine s_cmpT rfl rfl rfl rfl rfl rfl rfl (by first | (simp only [cmpP]; omega) | exact rfl) ?_
    | refine s_cmpF rfl rfl rfl rfl rfl rfl rfl (by first | (simp only [cmpP]; omega) | exact rfl) ?_
    | refine s_arith rfl rfl rfl rfl rfl rfl rfl (by first | (exact IntWalk.i64_in _ (by omega)) | (exact IntWalk.u8_in _ (by omega))) ?_
    | refine a_condT rfl ?_
    | refine a_condF rfl ?_
    | refine a_skip ?_
    | refine a_exit ?_
    | refine a_ret ?_
    | refine a_block ?_)
              refine ⟨i + 1, by omega, by omega, ?_, ?_⟩
              · repeat (first | exact subs_nil | refine subs_cons (Sub.of_eq rfl) ?_ | refine subs_cons (Sub.nil _) ?_)
              · rw [← mixF_row]
                exact OSub.refl _
        · obtain rfl : i = n + 1 := by omega
          rw [mixF_all]
          repeat (first
    | refine a_seq ?_
    | refine a_reg ?_
    | refine a_regP mixed (by decide +kernel) ?_
    | refine t_lit tok rfl rfl rfl rfl ?_
    | refine t_im tok rfl rfl rfl rfl ?_
    | refine t_ip tok rfl rfl rfl rfl ?_
    | refine t_pt tok rfl rfl rfl rfl ?_
    | refine t_agg tok rfl rfl rfl rfl ?_
    | refine t_tup tok rfl rfl rfl rfl ?_
    | refine t_fn tok rfl rfl rfl rfl ?_
    | refine AL.nil ?_
    | refine s_skip rfl rfl rfl ?_
    | refine s_cmpT rfl rfl rfl rfl rfl rfl rfl (by first | (simp only [cmpP]; omega) | exact rfl) ?_
    | refine s_cmpF rfl rfl rfl rfl rfl rfl rfl (by first | (simp only [cmpP]; omega) | exact rfl) ?_
    | refine s_arith rfl rfl rfl rfl rfl rfl rfl (by first | (exact IntWalk.i64_in _ (by omega)) | (exact IntWalk.u8_in _ (by omega))) ?_
    | refine a_condT rfl ?_
    | refine a_condF rfl ?_
    | refine a_skip ?_
    | refine a_exit ?_
    | refine a_ret ?_
    | refine a_block ?_)
          refine ⟨k + 1, by omega, by omega, ?_, by rw [hb]; exact OSub.refl _⟩
          rw [hU]
          repeat (first | exact subs_nil | refine subs_cons (Sub.of_eq rfl) ?_ | refine subs_cons (Sub.nil _) ?_)
    · obtain rfl : k = n + 2 := by omega
      rw [refDistR] at hR
      generalize bst (n + 1) A (n + 2) = B at *
      repeat (first
    | refine a_seq ?_
    | refine a_reg ?_
    | refine a_regP mixed (by decide +kernel) ?_
    | refine t_lit tok rfl rfl rfl rfl ?_
    | refine t_im tok rfl rfl rfl rfl ?_
    | refine t_ip tok rfl rfl rfl rfl ?_
    | refine t_pt tok rfl rfl rfl rfl ?_
    | refine t_agg tok rfl rfl rfl rfl ?_
    | refine t_tup tok rfl rfl rfl rfl ?_
    | refine t_fn tok rfl rfl rfl rfl ?_
    | refine AL.nil ?_
    | refine s_skip rfl rfl rfl ?_
    | refine s_cmpT rfl rfl rfl rfl rfl rfl rfl (by first | (simp only [cmpP]; omega) | exact rfl) ?_
    | refine s_cmpF rfl rfl rfl rfl rfl rfl rfl (by first | (simp only [cmpP]; omega) | exact rfl) ?_
    | refine s_arith rfl rfl rfl rfl rfl rfl rfl (by first | (exact IntWalk.i64_in _ (by omega)) | (exact IntWalk.u8_in _ (by omega))) ?_
    | refine a_condT rfl ?_
    | refine a_condF rfl ?_
    | refine a_skip ?_
    | refine a_exit ?_
    | refine a_ret ?_
    | refine a_block ?_)
      refine a_loopX (fun i : Nat => [(0, AI n), (7, .lit v), (12, AI i)]) (fun i => matO 3 36 v vs (mkM (n + 1) B)) (fun i => i ≤ n + 1 ∧ ∀ j, j < i → 0 ≤ B j j) (fun i => n + 1 - i) 0 ⟨Nat.zero_le _, by omega⟩ ?_ (OSub.refl _) ?_
      · repeat (first | exact subs_nil | refine subs_cons (Sub.of_eq rfl) ?_ | refine subs_cons (Sub.nil _) ?_)
      · rintro i ⟨hi, hd⟩
        rcases Nat.lt_or_ge i (n + 1) with h2 | h2
        · have hu := List.getElem?_eq_getElem (show i < vs.length by omega)
          generalize vs[i] = uf at hu
          have hob := obat_lit (E := 36) hu
          have hf1 : (i : Int) < ((vs.map litR).length : Nat) := by omega
          have hg := mat_get (E := 3) (E' := 36) (v := v) (O := B) h2 hu
          have lr : (rowI (mkR (n + 1) (B i))).length = n + 1 := by simp [mkR_length]
          have hld := row_get h2 (B i)
          have hk1 : (i : Int) < ((rowI (mkR (n + 1) (B i))).length : Nat) := by omega
          by_cases h3 : B i i < 0
          · rw [diag_false h2 h3] at hR
            rw [← hR]
            repeat (first
    | refine a_seq ?_
    | refine a_reg ?_
    | refine a_regP mixed (by decide +kernel) ?_
    | refine t_lit tok rfl rfl rfl rfl ?_
    | refine t_im tok rfl rfl rfl rfl ?_
    | refine t_ip tok rfl rfl rfl rfl ?_
    | refine t_pt tok rfl rfl rfl rfl ?_
    | refine t_agg tok rfl rfl rfl rfl ?_
    | refine t_tup tok rfl rfl rfl rfl ?_
    | refine t_fn tok rfl rfl rfl rfl ?_
    | refine AL.nil ?_
    | refine s_skip rfl rfl rfl ?_
    | refine s_cmpT rfl rfl rfl rfl rfl rfl rfl (by first | (simp only [cmpP]; omega) | exact rfl) ?_
    | refine s_cmpF rfl rfl rfl rfl rfl rfl rfl (by first | (simp only [cmpP]; omega) | exact rfl) ?_
    | refine s_arith rfl rfl rfl rfl rfl rfl rfl (by first | (exact IntWalk.i64_in _ (by omega)) | (exact IntWalk.u8_in _ (by omega))) ?_
    | refine s_ownIndex tok 0 rfl rfl rfl rfl (by decide) rfl rfl rfl rfl rfl rfl (by omega) hf1 ?_
    | refine s_ownLoad tok 0 rfl rfl rfl rfl (by decide) rfl rfl rfl rfl hob rfl (List.cons_ne_nil _ _) ?_
    | refine s_ownIndex tok (i + 1) rfl rfl rfl rfl (by decide) rfl rfl rfl hg rfl rfl (by omega) hk1 ?_
    | refine s_loadI tok (i + 1) rfl rfl rfl rfl (by decide) rfl rfl rfl hg hld ?_
    | refine a_condT rfl ?_
    | refine a_condF rfl ?_
    | refine a_skip ?_
    | refine a_exit ?_
    | refine a_ret ?_
    | refine a_block ?_)
            refine fin (x := .tup [.lit _, .lit _]) (.inr rfl) rfl ?_ ⟨rfl, rfl⟩ (OSub.none _)
            exact Sub.tup ⟨Sub.nil 1, Sub.refl _, trivial⟩
          · repeat (first
    | refine a_seq ?_
    | refine a_reg ?_
    | refine a_regP mixed (by decide +kernel) ?_
    | refine t_lit tok rfl rfl rfl rfl ?_
    | refine t_im tok rfl rfl rfl rfl ?_
    | refine t_ip tok rfl rfl rfl rfl ?_
    | refine t_pt tok rfl rfl rfl rfl ?_
    | refine t_agg tok rfl rfl rfl rfl ?_
    | refine t_tup tok rfl rfl rfl rfl ?_
    | refine t_fn tok rfl rfl rfl rfl ?_
    | refine AL.nil ?_
    | refine s_skip rfl rfl rfl ?_
    | refine s_cmpT rfl rfl rfl rfl rfl rfl rfl (by first | (simp only [cmpP]; omega) | exact rfl) ?_
    | refine s_cmpF rfl rfl rfl rfl rfl rfl rfl (by first | (simp only [cmpP]; omega) | exact rfl) ?_
    | refine s_arith rfl rfl rfl rfl rfl rfl rfl (by first | (exact IntWalk.i64_in _ (by omega)) | (exact IntWalk.u8_in _ (by omega))) ?_
    | refine s_ownIndex tok 0 rfl rfl rfl rfl (by decide) rfl rfl rfl rfl rfl rfl (by omega) hf1 ?_
    | refine s_ownLoad tok 0 rfl rfl rfl rfl (by decide) rfl rfl rfl rfl hob rfl (List.cons_ne_nil _ _) ?_
    | refine s_ownIndex tok (i + 1) rfl rfl rfl rfl (by decide) rfl rfl rfl hg rfl rfl (by omega) hk1 ?_
    | refine s_loadI tok (i + 1) rfl rfl rfl rfl (by decide) rfl rfl rfl hg hld ?_
    | refine a_condT rfl ?_
    | refine a_condF rfl ?_
    | refine a_skip ?_
    | refine a_exit ?_
    | refine a_ret ?_
    | refine a_block ?_)
            refine ⟨i + 1, ⟨by omega, fun j hj => ?_⟩, by omega, ?_, OSub.refl _⟩
            · by_cases e : j < i
              · exact hd j e
              · obtain rfl : j = i := by omega
                omega
            · repeat (first | exact subs_nil | refine subs_cons (Sub.of_eq rfl) ?_ | refine subs_cons (Sub.nil _) ?_)
        · obtain rfl : i = n + 1 := by omega
          rw [diag_true hd] at hR
          rw [← hR]
          repeat (first
    | refine a_seq ?_
    | refine a_reg ?_
    | refine a_regP mixed (by decide +kernel) ?_
    | refine t_lit tok rfl rfl rfl rfl ?_
    | refine t_im tok rfl rfl rfl rfl ?_
    | refine t_ip tok rfl rfl rfl rfl ?_
    | refine t_pt tok rfl rfl rfl rfl ?_
    | refine t_agg tok rfl rfl rfl rfl ?_
    | refine t_tup tok rfl rfl rfl rfl ?_
    | refine t_fn tok rfl rfl rfl rfl ?_
    | refine AL.nil ?_
    | refine s_skip rfl rfl rfl ?_
    | refine s_cmpT rfl rfl rfl rfl rfl rfl rfl (by first | (simp only [cmpP]; omega) | exact rfl) ?_
    | refine s_cmpF rfl rfl rfl rfl rfl rfl rfl (by first | (simp only [cmpP]; omega) | exact rfl) ?_
    | refine s_arith rfl rfl rfl rfl rfl rfl rfl (by first | (exact IntWalk.i64_in _ (by omega)) | (exact IntWalk.u8_in _ (by omega))) ?_
    | refine a_condT rfl ?_
    | refine a_condF rfl ?_
    | refine a_skip ?_
    | refine a_exit ?_
    | refine a_ret ?_
    | refine a_block ?_)
          exact finT (x := .tup [.lit _, .lit _]) (.inr rfl) rfl (Turn.trans (turn_mat (by rw [hvs, mkM_length])) (Turn.freeze 0 rfl (FZ.tup (m := [matA (mkM (n + 1) B), _]) ⟨FZ.here, FZ.refl _, trivial⟩))) ⟨rfl, rfl⟩
end Go.Proofs.Ytniboaekigoheaa
