/-
  Solutions of the reference: the walk.
-/
import Derived.Test.YtniboaekigoheaaD12
namespace Go.Proofs.Ytniboaekigoheaa
open Go.Sj Go.Sj.Dif
set_option linter.unusedVariables false
set_option maxHeartbeats 4000000

def vsG (d : List Int) (k : Nat) : List Int := (List.range k).map (gd d)
theorem vsG_succ (d : List Int) (k : Nat) : vsG d (k + 1) = vsG d k ++ [gd d k] := by simp [vsG, List.range_succ]
theorem vsG_get {d : List Int} {k i : Nat} (h : i < k) : (vsG d k)[((i : Nat) : Int).toNat]? = some (gd d i) := by simp [vsG, h]

theorem refSolve_spec (n : Int) (l : List Tst) : Pure Try.prog 29 [AI n, testsA l] (.tup [ints (solveR n l).1, AI (solveR n l).2]) := by
  have nil1 : Sub (.lit (.slice none 0 0)) (ints []) := Sub.nil 1
  have hV := refValid_spec n l
  by_cases h0 : validT n l = 0
  · obtain ⟨⟨n0, n12⟩, hlen, hl⟩ := validT_zero.1 h0
    obtain ⟨m, rfl⟩ : ∃ m : Nat, n = m := ⟨n.toNat, by omega⟩
    rw [show solveR (m : Int) l = if (distR m (arcsOf l)).2 = true then (solR (distR m (arcsOf l)).1 m, 0) else ([], 10) by simp only [solveR, h0, ne_eq, not_true_eq_false, if_false, Int.toNat_natCast]]
    rw [h0] at hV
    have hok := arcsOf_ok hl
    have hD := refDistances_spec m (by omega) l hl (by omega)
    rw [ref_ok (by omega) hok] at hD
    obtain ⟨f1, f2⟩ := distR_facts (aok_inr hok)
    cases hb : (distR m (arcsOf l)).2 with
    | false =>
      rw [hb] at hD
      rw [if_neg (by simp)]
      refine a_enter Try.func29 (by kernel_rfl) rfl Try.ntmps29 rfl (by simp) ?_
      repeat (first
    | refine a_seq ?_
    | refine a_reg ?_
    | refine a_regP mixed (by decide +kernel) ?_
    | refine t_lit tok rfl rfl rfl rfl ?_
    | refine t_im tok rfl rfl rfl rfl ?_
    | refine t_ip tok rfl rfl rfl rfl ?_
    | refine t_pt tok rfl rfl rfl rfl ?_
    | refine t_agg tok rfl rfl rfl rfl ?_
    | refine t_tup tok rfl rfl rfl rfl ?_
    | refine t_fn tok rfl rfl rfl rfl ?_
    | refine AL.nil ?_
    | refine s_skip rfl rfl rfl ?_
    | refine s_cmpT rfl rfl rfl rfl rfl rfl rfl (by first | (simp only [cmpP]; omega) | exact rfl) ?_
    | refine s_cmpF rfl rfl rfl rfl rfl rfl rfl (by first | (simp only [cmpP]; omega) | exact rfl) ?_
    | refine s_arith rfl rfl rfl rfl rfl rfl rfl (by first | (exact IntWalk.i64_in _ (by omega)) | (exact IntWalk.u8_in _ (by omega))) ?_
    | refine s_callP rfl rfl rfl rfl rfl (hV) (SubL.of_eq rfl) ?_
    | refine s_callP rfl rfl rfl rfl rfl (hD) (SubL.of_eq rfl) ?_
    | refine a_condT rfl ?_
    | refine a_condF rfl ?_
    | refine a_skip ?_
    | refine a_exit ?_
    | refine a_ret ?_
    | refine a_block ?_)
      refine fin (x := .tup [.lit _, .lit _]) (.inr rfl) rfl ?_ ⟨rfl, rfl⟩ (OSub.refl _)
      exact Sub.tup ⟨nil1, Sub.refl _, trivial⟩
    | true =>
      have hro := ref_ok (n := m) (by omega) hok
      rw [hb] at hro
      have hd1 : (refDistR m (arcsOf l)).1 = mkM (m + 1) (bst (m + 1) (arcsOf l) (m + 2)) := by
        unfold refDistR at hro ⊢
        split at hro
        · rename_i e
          rw [if_pos e]
        · cases hro
      obtain ⟨g1, g2⟩ := f2 hb
      have g3 := fun i hi => isMin_bound (by omega) hok (f1.1 hb) g2 (i := i) hi
      have hval := ref_values (by omega) hok hb
      rw [hb, hd1] at hD
      rw [if_pos rfl]
      generalize (distR m (arcsOf l)).1 = d at *
      generalize bst (m + 1) (arcsOf l) (m + 2) = S at *
      refine a_enter Try.func29 (by kernel_rfl) rfl Try.ntmps29 rfl (by simp) ?_
      repeat (first
    | refine a_seq ?_
    | refine a_reg ?_
    | refine a_regP mixed (by decide +kernel) ?_
    | refine t_lit tok rfl rfl rfl rfl ?_
    | refine t_im tok rfl rfl rfl rfl ?_
    | refine t_ip tok rfl rfl rfl rfl ?_
    | refine t_pt tok rfl rfl rfl rfl ?_
    | refine t_agg tok rfl rfl rfl rfl ?_
    | refine t_tup tok rfl rfl rfl rfl ?_
    | refine t_fn tok rfl rfl rfl rfl ?_
    | refine AL.nil ?_
    | refine s_skip rfl rfl rfl ?_
    | refine s_cmpT rfl rfl rfl rfl rfl rfl rfl (by first | (simp only [cmpP]; omega) | exact rfl) ?_
    | refine s_cmpF rfl rfl rfl rfl rfl rfl rfl (by first | (simp only [cmpP]; omega) | exact rfl) ?_
    | refine s_arith rfl rfl rfl rfl rfl rfl rfl (by first | (exact IntWalk.i64_in _ (by omega)) | (exact IntWalk.u8_in _ (by omega))) ?_
    | refine s_callP rfl rfl rfl rfl rfl (hV) (SubL.of_eq rfl) ?_
    | refine s_callP rfl rfl rfl rfl rfl (hD) (SubL.of_eq rfl) ?_
    | refine a_condT rfl ?_
    | refine a_condF rfl ?_
    | refine a_skip ?_
    | refine a_exit ?_
    | refine a_ret ?_
    | refine a_block ?_)
      refine a_loop2 (fun (i : Nat) (v : Value) => [(0, AI m), (7, matA (mkM (m + 1) S)), (9, .lit v), (10, AI i)]) (fun i v => [(v, .row 3 1 (rowI (vsG d i)))]) (fun i _ => i ≤ m + 1) (fun i _ => m + 1 - i) 0 (.slice none 0 0) (Nat.zero_le _) ?_ (.free .nil) ?_
      · repeat (first | exact subs_nil | refine subs_cons (Sub.of_eq rfl) ?_ | refine subs_cons (Sub.nil _) ?_)
      · intro i v hi
        have lv : (rowI (vsG d i)).length = i := by simp [vsG]
        rcases Nat.lt_or_ge i (m + 1) with h1 | h1
        · have x1 := mat_row h1 S
          have hvi := hval i h1
          have hs := vsG_succ d i
          repeat (first
    | refine a_seq ?_
    | refine a_reg ?_
    | refine a_regP mixed (by decide +kernel) ?_
    | refine t_lit tok rfl rfl rfl rfl ?_
    | refine t_im tok rfl rfl rfl rfl ?_
    | refine t_ip tok rfl rfl rfl rfl ?_
    | refine t_pt tok rfl rfl rfl rfl ?_
    | refine t_agg tok rfl rfl rfl rfl ?_
    | refine t_tup tok rfl rfl rfl rfl ?_
    | refine t_fn tok rfl rfl rfl rfl ?_
    | refine AL.nil ?_
    | refine s_skip rfl rfl rfl ?_
    | refine s_cmpT rfl rfl rfl rfl rfl rfl rfl (by first | (simp only [cmpP]; omega) | exact rfl) ?_
    | refine s_cmpF rfl rfl rfl rfl rfl rfl rfl (by first | (simp only [cmpP]; omega) | exact rfl) ?_
    | refine s_arith rfl rfl rfl rfl rfl rfl rfl (by first | (exact IntWalk.i64_in _ (by omega)) | (exact IntWalk.u8_in _ (by omega))) ?_
    | refine a_condT rfl ?_
    | refine a_condF rfl ?_
    | refine a_skip ?_
    | refine a_exit ?_
    | refine a_ret ?_
    | refine a_block ?_)
          refine a_loopX (fun k : Nat => [(0, AI m), (7, matA (mkM (m + 1) S)), (9, .lit v), (10, AI i), (11, AI (minTo (S i) k)), (12, AI k)]) (fun k => [(v, .row 3 1 (rowI (vsG d i)))]) (fun k => k ≤ m + 1) (fun k => m + 1 - k) 0 (Nat.zero_le _) ?_ (OSub.refl _) ?_
          · repeat (first | exact subs_nil | refine subs_cons (Sub.of_eq rfl) ?_ | refine subs_cons (Sub.nil _) ?_)
          · intro k hk
            rcases Nat.lt_or_ge k (m + 1) with h2 | h2
            · have x2 := row_at h2 (S i)
              have hm : minTo (S i) (k + 1) = min (minTo (S i) k) (S i k) := rfl
              generalize minTo (S i) k = y at *
              repeat (first
    | refine a_seq ?_
    | refine a_reg ?_
    | refine a_regP mixed (by decide +kernel) ?_
    | refine t_lit tok rfl rfl rfl rfl ?_
    | refine t_im tok rfl rfl rfl rfl ?_
    | refine t_ip tok rfl rfl rfl rfl ?_
    | refine t_pt tok rfl rfl rfl rfl ?_
    | refine t_agg tok rfl rfl rfl rfl ?_
    | refine t_tup tok rfl rfl rfl rfl ?_
    | refine t_fn tok rfl rfl rfl rfl ?_
    | refine AL.nil ?_
    | refine s_skip rfl rfl rfl ?_
    | refine s_cmpT rfl rfl rfl rfl rfl rfl rfl (by first | (simp only [cmpP]; omega) | exact rfl) ?_
    | refine s_cmpF rfl rfl rfl rfl rfl rfl rfl (by first | (simp only [cmpP]; omega) | exact rfl) ?_
    | refine s_arith rfl rfl rfl rfl rfl rfl rfl (by first | (exact IntWalk.i64_in _ (by omega)) | (exact IntWalk.u8_in _ (by omega))) ?_
    | refine s_index tok rfl rfl rfl rfl rfl rfl rfl rfl rfl (by omega) x1 ?_
    | refine s_index tok rfl rfl rfl rfl rfl rfl rfl rfl rfl (by omega) x2 ?_
    | refine a_condT rfl ?_
    | refine a_condF rfl ?_
    | refine a_skip ?_
    | refine a_exit ?_
    | refine a_ret ?_
    | refine a_block ?_)
              refine ⟨k + 1, by omega, by omega, ?_, OSub.refl _⟩
              rw [hm]
              repeat (first | exact subs_nil | refine subs_cons (Sub.of_eq rfl) ?_ | refine subs_cons (Sub.nil _) ?_)
            · obtain rfl : k = m + 1 := by omega
              rw [hvi]
              generalize gd d i = y at *
              repeat (first
    | refine a_seq ?_
    | refine a_reg ?_
    | refine a_regP mixed (by decide +kernel) ?_
    | refine t_lit tok rfl rfl rfl rfl ?_
    | refine t_im tok rfl rfl rfl rfl ?_
    | refine t_ip tok rfl rfl rfl rfl ?_
    | refine t_pt tok rfl rfl rfl rfl ?_
    | refine t_agg tok rfl rfl rfl rfl ?_
    | refine t_tup tok rfl rfl rfl rfl ?_
    | refine t_fn tok rfl rfl rfl rfl ?_
    | refine AL.nil ?_
    | refine s_skip rfl rfl rfl ?_
    | refine s_cmpT rfl rfl rfl rfl rfl rfl rfl (by first | (simp only [cmpP]; omega) | exact rfl) ?_
    | refine s_cmpF rfl rfl rfl rfl rfl rfl rfl (by first | (simp only [cmpP]; omega) | exact rfl) ?_
    | refine s_arith rfl rfl rfl rfl rfl rfl rfl (by first | (exact IntWalk.i64_in _ (by omega)) | (exact IntWalk.u8_in _ (by omega))) ?_
    | refine a_condT rfl ?_
    | refine a_condF rfl ?_
    | refine a_skip ?_
    | refine a_exit ?_
    | refine a_ret ?_
    | refine a_block ?_)
              (first | refine s_build1 tok rfl rfl rfl rfl rfl rfl rfl rfl (fun u => ?_) | refine s_build1M tok rfl rfl rfl rfl rfl rfl rfl (fun u => ?_) | refine s_build1A tok rfl rfl rfl rfl rfl rfl rfl rfl (by decide) (fun u => ?_)); refine s_append1 tok 0 rfl rfl rfl rfl rfl rfl (by decide) rfl rfl rfl rfl (by omega) (by omega) (fun v' => ?_)
              repeat (first
    | refine a_seq ?_
    | refine a_reg ?_
    | refine a_regP mixed (by decide +kernel) ?_
    | refine t_lit tok rfl rfl rfl rfl ?_
    | refine t_im tok rfl rfl rfl rfl ?_
    | refine t_ip tok rfl rfl rfl rfl ?_
    | refine t_pt tok rfl rfl rfl rfl ?_
    | refine t_agg tok rfl rfl rfl rfl ?_
    | refine t_tup tok rfl rfl rfl rfl ?_
    | refine t_fn tok rfl rfl rfl rfl ?_
    | refine AL.nil ?_
    | refine s_skip rfl rfl rfl ?_
    | refine s_cmpT rfl rfl rfl rfl rfl rfl rfl (by first | (simp only [cmpP]; omega) | exact rfl) ?_
    | refine s_cmpF rfl rfl rfl rfl rfl rfl rfl (by first | (simp only [cmpP]; omega) | exact rfl) ?_
    | refine s_arith rfl rfl rfl rfl rfl rfl rfl (by first | (exact IntWalk.i64_in _ (by omega)) | (exact IntWalk.u8_in _ (by omega))) ?_
    | refine a_condT rfl ?_
    | refine a_condF rfl ?_
    | refine a_skip ?_
    | refine a_exit ?_
    | refine a_ret ?_
    | refine a_block ?_)
              refine ⟨i + 1, v', by omega, by omega, ?_, ?_⟩
              · repeat (first | exact subs_nil | refine subs_cons (Sub.of_eq rfl) ?_ | refine subs_cons (Sub.nil _) ?_)
              · rw [hs, show rowI (vsG d i ++ [y]) = rowI (vsG d i) ++ [[AI y]] by simp [cI]]
                exact OSub.refl _
        · obtain rfl : i = m + 1 := by omega
          refine a_frz 0 9 rfl rfl ?_
          have x0 : (rowI (vsG d (m + 1)))[(0 : Int).toNat]? = some [AI (gd d 0)] := map_get (vsG_get (i := 0) (by omega))
          repeat (first
    | refine a_seq ?_
    | refine a_reg ?_
    | refine a_regP mixed (by decide +kernel) ?_
    | refine t_lit tok rfl rfl rfl rfl ?_
    | refine t_im tok rfl rfl rfl rfl ?_
    | refine t_ip tok rfl rfl rfl rfl ?_
    | refine t_pt tok rfl rfl rfl rfl ?_
    | refine t_agg tok rfl rfl rfl rfl ?_
    | refine t_tup tok rfl rfl rfl rfl ?_
    | refine t_fn tok rfl rfl rfl rfl ?_
    | refine AL.nil ?_
    | refine s_skip rfl rfl rfl ?_
    | refine s_cmpT rfl rfl rfl rfl rfl rfl rfl (by first | (simp only [cmpP]; omega) | exact rfl) ?_
    | refine s_cmpF rfl rfl rfl rfl rfl rfl rfl (by first | (simp only [cmpP]; omega) | exact rfl) ?_
    | refine s_arith rfl rfl rfl rfl rfl rfl rfl (by first | (exact IntWalk.i64_in _ (by omega)) | (exact IntWalk.u8_in _ (by omega))) ?_
    | refine a_condT rfl ?_
    | refine a_condF rfl ?_
    | refine a_skip ?_
    | refine a_exit ?_
    | refine a_ret ?_
    | refine a_block ?_)
          refine a_loop2 (fun (k : Nat) (v : Value) => [(0, AI m), (9, ints (vsG d (m + 1))), (13, .lit v), (14, AI ((k + 1 : Nat) : Int))]) (fun k v => [(v, .row 3 1 (rowI ((solR d m).take k)))]) (fun k _ => k ≤ m) (fun k _ => m - k) 0 (.slice none 0 0) (Nat.zero_le _) ?_ (.free .nil) ?_
          · repeat (first | exact subs_nil | refine subs_cons (Sub.of_eq rfl) ?_ | refine subs_cons (Sub.nil _) ?_)
          · intro k v2 hk
            have lk' : (rowI ((solR d m).take k)).length = k := by rw [List.length_map, List.length_take, solR_length]; omega
            rcases Nat.lt_or_ge k m with h1 | h1
            · have hs := solR_take (d := d) h1
              have xk : (rowI (vsG d (m + 1)))[((k + 1 : Nat) : Int).toNat]? = some [AI (gd d (k + 1))] := map_get (vsG_get (i := k + 1) (by omega))
              have b1 := g3 0 (by omega)
              have b2 := g3 (k + 1) (by omega)
              generalize gd d 0 = y0 at *
              generalize gd d (k + 1) = y1 at *
              repeat (first
    | refine a_seq ?_
    | refine a_reg ?_
    | refine a_regP mixed (by decide +kernel) ?_
    | refine t_lit tok rfl rfl rfl rfl ?_
    | refine t_im tok rfl rfl rfl rfl ?_
    | refine t_ip tok rfl rfl rfl rfl ?_
    | refine t_pt tok rfl rfl rfl rfl ?_
    | refine t_agg tok rfl rfl rfl rfl ?_
    | refine t_tup tok rfl rfl rfl rfl ?_
    | refine t_fn tok rfl rfl rfl rfl ?_
    | refine AL.nil ?_
    | refine s_skip rfl rfl rfl ?_
    | refine s_cmpT rfl rfl rfl rfl rfl rfl rfl (by first | (simp only [cmpP]; omega) | exact rfl) ?_
    | refine s_cmpF rfl rfl rfl rfl rfl rfl rfl (by first | (simp only [cmpP]; omega) | exact rfl) ?_
    | refine s_arith rfl rfl rfl rfl rfl rfl rfl (by first | (exact IntWalk.i64_in _ (by omega)) | (exact IntWalk.u8_in _ (by omega))) ?_
    | refine s_index tok rfl rfl rfl rfl rfl rfl rfl rfl rfl (by omega) xk ?_
    | refine s_index tok rfl rfl rfl rfl rfl rfl rfl rfl rfl (by omega) x0 ?_
    | refine a_condT rfl ?_
    | refine a_condF rfl ?_
    | refine a_skip ?_
    | refine a_exit ?_
    | refine a_ret ?_
    | refine a_block ?_)
              (first | refine s_build1 tok rfl rfl rfl rfl rfl rfl rfl rfl (fun u => ?_) | refine s_build1M tok rfl rfl rfl rfl rfl rfl rfl (fun u => ?_) | refine s_build1A tok rfl rfl rfl rfl rfl rfl rfl rfl (by decide) (fun u => ?_)); refine s_append1 tok 0 rfl rfl rfl rfl rfl rfl (by decide) rfl rfl rfl rfl (by omega) (by omega) (fun v' => ?_)
              repeat (first
    | refine a_seq ?_
    | refine a_reg ?_
    | refine a_regP mixed (by decide +kernel) ?_
    | refine t_lit tok rfl rfl rfl rfl ?_
    | refine t_im tok rfl rfl rfl rfl ?_
    | refine t_ip tok rfl rfl rfl rfl ?_
    | refine t_pt tok rfl rfl rfl rfl ?_
    | refine t_agg tok rfl rfl rfl rfl ?_
    | refine t_tup tok rfl rfl rfl rfl ?_
    | refine t_fn tok rfl rfl rfl rfl ?_
    | refine AL.nil ?_
    | refine s_skip rfl rfl rfl ?_
    | refine s_cmpT rfl rfl rfl rfl rfl rfl rfl (by first | (simp only [cmpP]; omega) | exact rfl) ?_
    | refine s_cmpF rfl rfl rfl rfl rfl rfl rfl (by first | (simp only [cmpP]; omega) | exact rfl) ?_
    | refine s_arith rfl rfl rfl rfl rfl rfl rfl (by first | (exact IntWalk.i64_in _ (by omega)) | (exact IntWalk.u8_in _ (by omega))) ?_
    | refine a_condT rfl ?_
    | refine a_condF rfl ?_
    | refine a_skip ?_
    | refine a_exit ?_
    | refine a_ret ?_
    | refine a_block ?_)
              refine ⟨k + 1, v', by omega, by omega, ?_, ?_⟩
              · repeat (first | exact subs_nil | refine subs_cons (Sub.of_eq rfl) ?_ | refine subs_cons (Sub.nil _) ?_)
              · rw [hs, show rowI ((solR d m).take k ++ [y1 - y0]) = rowI ((solR d m).take k) ++ [[AI (y1 - y0)]] by simp [cI]]
                exact OSub.refl _
            · obtain rfl : k = m := by omega
              rw [List.take_of_length_le (by rw [solR_length]; exact Nat.le_refl _)]
              repeat (first
    | refine a_seq ?_
    | refine a_reg ?_
    | refine a_regP mixed (by decide +kernel) ?_
    | refine t_lit tok rfl rfl rfl rfl ?_
    | refine t_im tok rfl rfl rfl rfl ?_
    | refine t_ip tok rfl rfl rfl rfl ?_
    | refine t_pt tok rfl rfl rfl rfl ?_
    | refine t_agg tok rfl rfl rfl rfl ?_
    | refine t_tup tok rfl rfl rfl rfl ?_
    | refine t_fn tok rfl rfl rfl rfl ?_
    | refine AL.nil ?_
    | refine s_skip rfl rfl rfl ?_
    | refine s_cmpT rfl rfl rfl rfl rfl rfl rfl (by first | (simp only [cmpP]; omega) | exact rfl) ?_
    | refine s_cmpF rfl rfl rfl rfl rfl rfl rfl (by first | (simp only [cmpP]; omega) | exact rfl) ?_
    | refine s_arith rfl rfl rfl rfl rfl rfl rfl (by first | (exact IntWalk.i64_in _ (by omega)) | (exact IntWalk.u8_in _ (by omega))) ?_
    | refine a_condT rfl ?_
    | refine a_condF rfl ?_
    | refine a_skip ?_
    | refine a_exit ?_
    | refine a_ret ?_
    | refine a_block ?_)
              exact finF 0 (x := .tup [.lit _, .lit _]) (.inr rfl) rfl rfl (FZ.tup (m := [ints (solR d k), _]) ⟨FZ.here, FZ.refl _, trivial⟩) ⟨rfl, rfl⟩
  · rw [show solveR n l = ([], validT n l) by simp only [solveR, if_pos h0]]
    generalize validT n l = e at *
    refine a_enter Try.func29 (by kernel_rfl) rfl Try.ntmps29 rfl (by simp) ?_
    repeat (first
    | refine a_seq ?_
    | refine a_reg ?_
    | refine a_regP mixed (by decide +kernel) ?_
    | refine t_lit tok rfl rfl rfl rfl ?_
    | refine t_im tok rfl rfl rfl rfl ?_
    | refine t_ip tok rfl rfl rfl rfl ?_
    | refine t_pt tok rfl rfl rfl rfl ?_
    | refine t_agg tok rfl rfl rfl rfl ?_
    | refine t_tup tok rfl rfl rfl rfl ?_
    | refine t_fn tok rfl rfl rfl rfl ?_
    | refine AL.nil ?_
    | refine s_skip rfl rfl rfl ?_
    | refine s_cmpT rfl rfl rfl rfl rfl rfl rfl (by first | (simp only [cmpP]; omega) | exact rfl) ?_
    | refine s_cmpF rfl rfl rfl rfl rfl rfl rfl (by first | (simp only [cmpP]; omega) | exact rfl) ?_
    | refine s_arith rfl rfl rfl rfl rfl rfl rfl (by first | (exact IntWalk.i64_in _ (by omega)) | (exact IntWalk.u8_in _ (by omega))) ?_
    | refine s_callP rfl rfl rfl rfl rfl (hV) (SubL.of_eq rfl) ?_
    | refine a_condT rfl ?_
    | refine a_condF rfl ?_
    | refine a_skip ?_
    | refine a_exit ?_
    | refine a_ret ?_
    | refine a_block ?_)
    refine fin (x := .tup [.lit _, .lit _]) (.inr rfl) rfl ?_ ⟨rfl, rfl⟩ (OSub.refl _)
    exact Sub.tup ⟨nil1, Sub.refl _, trivial⟩
end Go.Proofs.Ytniboaekigoheaa
