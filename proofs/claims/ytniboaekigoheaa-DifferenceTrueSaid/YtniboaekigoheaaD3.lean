/-
  The distances of the program: the walk. Conditions: few variables, few arcs of small numbers.
-/
import Derived.Test.YtniboaekigoheaaD2
namespace Go.Proofs.Ytniboaekigoheaa
open Go.Sj Go.Sj.Dif
set_option linter.unusedVariables false
set_option maxHeartbeats 1000000

theorem distances_spec (n : Nat) (hn : n ≤ 12) (l : List Ar) (hl : ASm n l) (hlen : l.length ≤ 100) : Pure Try.prog 46 [AI n, arcsA l] (.tup [ints (distR n l).1, AB (distR n l).2]) := by
  have ll : (l.map cA).length = l.length := by simp
  rw [show distR n l = (match bf l (n + 2) (List.replicate (n + 1) 0) with | some d => (d, true) | none => ([], false)) from rfl]
  generalize hW : bf l (n + 2) (List.replicate (n + 1) 0) = W
  generalize hR : (match W with | some d => (d, true) | none => (([] : List Int), false)) = R
  refine a_enter Try.func46 (by kernel_rfl) rfl Try.ntmps46 rfl (by simp) ?_
  repeat (first
    | refine a_seq ?_
    | refine a_reg ?_
    | refine a_regP mixed (by decide +kernel) ?_
    | refine t_lit tok rfl rfl rfl rfl ?_
    | refine t_im tok rfl rfl rfl rfl ?_
    | refine t_ip tok rfl rfl rfl rfl ?_
    | refine t_pt tok rfl rfl rfl rfl ?_
    | refine t_agg tok rfl rfl rfl rfl ?_
    | refine t_tup tok rfl rfl rfl rfl ?_
    | refine t_fn tok rfl rfl rfl rfl ?_
    | refine AL.nil ?_
    | refine s_skip rfl rfl rfl ?_
    | refine s_cmpT rfl rfl rfl rfl rfl rfl rfl (by first | (simp only [cmpP]; omega) | exact rfl) ?_
    | refine s_cmpF rfl rfl rfl rfl rfl rfl rfl (by first | (simp only [cmpP]; omega) | exact rfl) ?_
    | refine s_arith rfl rfl rfl rfl rfl rfl rfl (by first | (exact IntWalk.i64_in _ (by omega)) | (exact IntWalk.u8_in _ (by omega))) ?_
    | refine a_condT rfl ?_
    | refine a_condF rfl ?_
    | refine a_skip ?_
    | refine a_exit ?_
    | refine a_ret ?_
    | refine a_block ?_)
  refine s_make tok rfl rfl rfl rfl rfl rfl rfl rfl (by omega) (by omega) (by simp; omega) (by omega) (fun v => ?_)
  rw [show List.replicate ((n : Int) + 1).toNat ([Value.int .i64 0].map AV.lit) = rowI (List.replicate (n + 1) 0) by rw [show ((n : Int) + 1).toNat = n + 1 by omega]; simp [rowI, cI]]
  repeat (first
    | refine a_seq ?_
    | refine a_reg ?_
    | refine a_regP mixed (by decide +kernel) ?_
    | refine t_lit tok rfl rfl rfl rfl ?_
    | refine t_im tok rfl rfl rfl rfl ?_
    | refine t_ip tok rfl rfl rfl rfl ?_
    | refine t_pt tok rfl rfl rfl rfl ?_
    | refine t_agg tok rfl rfl rfl rfl ?_
    | refine t_tup tok rfl rfl rfl rfl ?_
    | refine t_fn tok rfl rfl rfl rfl ?_
    | refine AL.nil ?_
    | refine s_skip rfl rfl rfl ?_
    | refine s_cmpT rfl rfl rfl rfl rfl rfl rfl (by first | (simp only [cmpP]; omega) | exact rfl) ?_
    | refine s_cmpF rfl rfl rfl rfl rfl rfl rfl (by first | (simp only [cmpP]; omega) | exact rfl) ?_
    | refine s_arith rfl rfl rfl rfl rfl rfl rfl (by first | (exact IntWalk.i64_in _ (by omega)) | (exact IntWalk.u8_in _ (by omega))) ?_
    | refine a_condT rfl ?_
    | refine a_condF rfl ?_
    | refine a_skip ?_
    | refine a_exit ?_
    | refine a_ret ?_
    | refine a_block ?_)
  refine a_loop2 (fun (r : Nat) (d : List Int) => [(1, arcsA l), (6, .lit v), (15, AI (n + 2 : Int)), (16, AI r)]) (fun r d => [(v, .row 3 1 (rowI d))]) (fun r d => r ≤ n + 2 ∧ d.length = n + 1 ∧ Bd (200000100 * r) d ∧ bf l (n + 2 - r) d = W) (fun r d => n + 2 - r) 0 (List.replicate (n + 1) 0) ⟨Nat.zero_le _, by simp, fun i => ?_, hW⟩ ?_ (OSub.refl _) ?_
  · have : gd (List.replicate (n + 1) 0) i = 0 := by
      simp only [gd, List.getD_eq_getElem?_getD, List.getElem?_replicate]
      split <;> rfl
    rw [this]; omega
  · repeat (first | exact subs_nil | refine subs_cons (Sub.of_eq rfl) ?_ | refine subs_cons (Sub.nil _) ?_)
  · rintro r d ⟨hr, hd, hb, hbf⟩
    rcases Nat.lt_or_ge r (n + 2) with h1 | h1
    · obtain ⟨k, hk⟩ : ∃ k, n + 2 - r = k + 1 := ⟨n + 1 - r, by omega⟩
      rw [hk] at hbf
      simp only [bf] at hbf
      repeat (first
    | refine a_seq ?_
    | refine a_reg ?_
    | refine a_regP mixed (by decide +kernel) ?_
    | refine t_lit tok rfl rfl rfl rfl ?_
    | refine t_im tok rfl rfl rfl rfl ?_
    | refine t_ip tok rfl rfl rfl rfl ?_
    | refine t_pt tok rfl rfl rfl rfl ?_
    | refine t_agg tok rfl rfl rfl rfl ?_
    | refine t_tup tok rfl rfl rfl rfl ?_
    | refine t_fn tok rfl rfl rfl rfl ?_
    | refine AL.nil ?_
    | refine s_skip rfl rfl rfl ?_
    | refine s_cmpT rfl rfl rfl rfl rfl rfl rfl (by first | (simp only [cmpP]; omega) | exact rfl) ?_
    | refine s_cmpF rfl rfl rfl rfl rfl rfl rfl (by first | (simp only [cmpP]; omega) | exact rfl) ?_
    | refine s_arith rfl rfl rfl rfl rfl rfl rfl (by first | (exact IntWalk.i64_in _ (by omega)) | (exact IntWalk.u8_in _ (by omega))) ?_
    | refine a_condT rfl ?_
    | refine a_condF rfl ?_
    | refine a_skip ?_
    | refine a_exit ?_
    | refine a_ret ?_
    | refine a_block ?_)
      refine a_loop3 (fun (j : Nat) (e : List Int) (c : Bool) => [(1, arcsA l), (6, .lit v), (7, AB c), (15, AI (n + 2 : Int)), (16, AI r), (18, arcsA l), (19, AI l.length), (20, AI j)]) (fun j e c => [(v, .row 3 1 (rowI e))]) (fun j e c => j ≤ l.length ∧ e.length = n + 1 ∧ Bd (200000100 * r + 2000001 * j) e ∧ rnd (l.drop j) (e, c) = rnd l (d, false)) (fun j e c => l.length - j) 0 d false ⟨Nat.zero_le _, hd, bd_mono hb (by omega), rfl⟩ ?_ (OSub.refl _) ?_
      · rw [ll]
        repeat (first | exact subs_nil | refine subs_cons (Sub.of_eq rfl) ?_ | refine subs_cons (Sub.nil _) ?_)
      · rintro j e c ⟨hj, he, hbe, hrn⟩
        have le : (rowI e).length = n + 1 := by simp [he]
        rcases Nat.lt_or_ge j l.length with h2 | h2
        · have hx := List.getElem?_eq_getElem h2
          have hok := hl _ (List.getElem_mem h2)
          rw [List.drop_eq_getElem_cons h2] at hrn
          generalize l[j] = a at hx hok hrn
          obtain ⟨u, s, f, t, c'⟩ := a
          simp only at hok
          obtain ⟨o1, o2, o3, o4⟩ := hok
          have xk : (l.map cA)[(j : Int).toNat]? = some [AI u, AI s, AI f, AI t, AI c'] := map_get hx
          have hlt := gd_get (d := e) (i := t) (by omega)
          have hlf := gd_get (d := e) (i := f) (by omega)
          have b1 := hbe t
          have b2 := hbe f
          have hbr := bd_rel hbe (a := ⟨u, s, f, t, c'⟩) (by simp only; omega) ⟨o3, o4⟩
          rw [rnd] at hrn
          by_cases hv : gd e t + c' < gd e f
          · have e1 : rel1 e ⟨u, s, f, t, c'⟩ = e.set f (gd e t + c') := by simp only [rel1, if_pos hv]
            have e2 : chg1 e ⟨u, s, f, t, c'⟩ = true := by simp only [chg1, decide_eq_true hv]
            rw [e1] at hbr
            rw [e1, e2, Bool.or_true] at hrn
            generalize gd e t = x at *
            generalize gd e f = y at *
            repeat (first
    | refine a_seq ?_
    | refine a_reg ?_
    | refine a_regR mixed (by decide +kernel) ?_
    | refine t_lit tok rfl rfl rfl rfl ?_
    | refine t_im tok rfl rfl rfl rfl ?_
    | refine t_ip tok rfl rfl rfl rfl ?_
    | refine t_pt tok rfl rfl rfl rfl ?_
    | refine t_agg tok rfl rfl rfl rfl ?_
    | refine t_tup tok rfl rfl rfl rfl ?_
    | refine t_fn tok rfl rfl rfl rfl ?_
    | refine AL.nil ?_
    | refine s_skip rfl rfl rfl ?_
    | refine s_cmpT rfl rfl rfl rfl rfl rfl rfl (by first | (simp only [cmpP]; omega) | exact rfl) ?_
    | refine s_cmpF rfl rfl rfl rfl rfl rfl rfl (by first | (simp only [cmpP]; omega) | exact rfl) ?_
    | refine s_arith rfl rfl rfl rfl rfl rfl rfl (by first | (exact IntWalk.i64_in _ (by omega)) | (exact IntWalk.u8_in _ (by omega))) ?_
    | refine s_alloc tok rfl rfl rfl rfl rfl (fun u => ?_)
    | refine s_store tok 0 rfl rfl rfl rfl rfl rfl rfl rfl (by decide) rfl rfl rfl (Nat.le_refl _) ?_
    | refine s_index tok rfl rfl rfl rfl rfl rfl rfl rfl rfl (by omega) xk ?_
    | refine s_ownLoad tok 0 rfl rfl rfl rfl (by decide) rfl rfl rfl rfl rfl rfl (List.cons_ne_nil _ _) ?_
    | refine s_ownIndex tok 1 rfl rfl rfl rfl (by decide) rfl rfl rfl rfl rfl rfl (by omega) (by omega) ?_
    | refine s_loadI tok 1 rfl rfl rfl rfl (by decide) rfl rfl rfl rfl hlt ?_
    | refine s_loadI tok 1 rfl rfl rfl rfl (by decide) rfl rfl rfl rfl hlf ?_
    | refine s_storeI tok 1 rfl rfl rfl rfl rfl rfl rfl rfl (by omega) ?_
    | refine a_condT rfl ?_
    | refine a_condF rfl ?_
    | refine a_skip ?_
    | refine a_exit ?_
    | refine a_ret ?_
    | refine a_block ?_)
            refine ⟨j + 1, e.set f (x + c'), true, ⟨by omega, by simpa using he, bd_mono hbr (by omega), hrn⟩, by omega, ?_, .drop ?_⟩
            · repeat (first | exact subs_nil | refine subs_cons (Sub.of_eq rfl) ?_ | refine subs_cons (Sub.nil _) ?_)
            · rw [show ((f : Int)).toNat = f from rfl]
              exact OSub.refl _
          · have e1 : rel1 e ⟨u, s, f, t, c'⟩ = e := by simp only [rel1, if_neg hv]
            have e2 : chg1 e ⟨u, s, f, t, c'⟩ = false := by simp only [chg1, decide_eq_false hv]
            rw [e1, e2, Bool.or_false] at hrn
            rw [e1] at hbr
            generalize gd e t = x at *
            generalize gd e f = y at *
            repeat (first
    | refine a_seq ?_
    | refine a_reg ?_
    | refine a_regR mixed (by decide +kernel) ?_
    | refine t_lit tok rfl rfl rfl rfl ?_
    | refine t_im tok rfl rfl rfl rfl ?_
    | refine t_ip tok rfl rfl rfl rfl ?_
    | refine t_pt tok rfl rfl rfl rfl ?_
    | refine t_agg tok rfl rfl rfl rfl ?_
    | refine t_tup tok rfl rfl rfl rfl ?_
    | refine t_fn tok rfl rfl rfl rfl ?_
    | refine AL.nil ?_
    | refine s_skip rfl rfl rfl ?_
    | refine s_cmpT rfl rfl rfl rfl rfl rfl rfl (by first | (simp only [cmpP]; omega) | exact rfl) ?_
    | refine s_cmpF rfl rfl rfl rfl rfl rfl rfl (by first | (simp only [cmpP]; omega) | exact rfl) ?_
    | refine s_arith rfl rfl rfl rfl rfl rfl rfl (by first | (exact IntWalk.i64_in _ (by omega)) | (exact IntWalk.u8_in _ (by omega))) ?_
    | refine s_alloc tok rfl rfl rfl rfl rfl (fun u => ?_)
    | refine s_store tok 0 rfl rfl rfl rfl rfl rfl rfl rfl (by decide) rfl rfl rfl (Nat.le_refl _) ?_
    | refine s_index tok rfl rfl rfl rfl rfl rfl rfl rfl rfl (by omega) xk ?_
    | refine s_ownLoad tok 0 rfl rfl rfl rfl (by decide) rfl rfl rfl rfl rfl rfl (List.cons_ne_nil _ _) ?_
    | refine s_ownIndex tok 1 rfl rfl rfl rfl (by decide) rfl rfl rfl rfl rfl rfl (by omega) (by omega) ?_
    | refine s_loadI tok 1 rfl rfl rfl rfl (by decide) rfl rfl rfl rfl hlt ?_
    | refine s_loadI tok 1 rfl rfl rfl rfl (by decide) rfl rfl rfl rfl hlf ?_
    | refine a_condT rfl ?_
    | refine a_condF rfl ?_
    | refine a_skip ?_
    | refine a_exit ?_
    | refine a_ret ?_
    | refine a_block ?_)
            refine ⟨j + 1, e, c, ⟨by omega, he, bd_mono hbr (by omega), hrn⟩, by omega, ?_, .drop (OSub.refl _)⟩
            repeat (first | exact subs_nil | refine subs_cons (Sub.of_eq rfl) ?_ | refine subs_cons (Sub.nil _) ?_)
        · obtain rfl : j = l.length := by omega
          rw [List.drop_length, rnd] at hrn
          rw [← hrn] at hbf
          cases c with
          | false =>
            have hW2 : W = some e := hbf.symm
            rw [hW2] at hR
            have : R = (e, true) := hR.symm
            rw [this]
            repeat (first
    | refine a_seq ?_
    | refine a_reg ?_
    | refine a_regP mixed (by decide +kernel) ?_
    | refine t_lit tok rfl rfl rfl rfl ?_
    | refine t_im tok rfl rfl rfl rfl ?_
    | refine t_ip tok rfl rfl rfl rfl ?_
    | refine t_pt tok rfl rfl rfl rfl ?_
    | refine t_agg tok rfl rfl rfl rfl ?_
    | refine t_tup tok rfl rfl rfl rfl ?_
    | refine t_fn tok rfl rfl rfl rfl ?_
    | refine AL.nil ?_
    | refine s_skip rfl rfl rfl ?_
    | refine s_cmpT rfl rfl rfl rfl rfl rfl rfl (by first | (simp only [cmpP]; omega) | exact rfl) ?_
    | refine s_cmpF rfl rfl rfl rfl rfl rfl rfl (by first | (simp only [cmpP]; omega) | exact rfl) ?_
    | refine s_arith rfl rfl rfl rfl rfl rfl rfl (by first | (exact IntWalk.i64_in _ (by omega)) | (exact IntWalk.u8_in _ (by omega))) ?_
    | refine a_condT rfl ?_
    | refine a_condF rfl ?_
    | refine a_skip ?_
    | refine a_exit ?_
    | refine a_ret ?_
    | refine a_block ?_)
            refine finF 0 (x := .tup [.lit _, .lit _]) (.inr rfl) rfl rfl (FZ.tup (m := [ints e, _]) ⟨FZ.here, FZ.refl _, trivial⟩) ⟨rfl, rfl⟩
          | true =>
            repeat (first
    | refine a_seq ?_
    | refine a_reg ?_
    | refine a_regP mixed (by decide +kernel) ?_
    | refine t_lit tok rfl rfl rfl rfl ?_
    | refine t_im tok rfl rfl rfl rfl ?_
    | refine t_ip tok rfl rfl rfl rfl ?_
    | refine t_pt tok rfl rfl rfl rfl ?_
    | refine t_agg tok rfl rfl rfl rfl ?_
    | refine t_tup tok rfl rfl rfl rfl ?_
    | refine t_fn tok rfl rfl rfl rfl ?_
    | refine AL.nil ?_
    | refine s_skip rfl rfl rfl ?_
    | refine s_cmpT rfl rfl rfl rfl rfl rfl rfl (by first | (simp only [cmpP]; omega) | exact rfl) ?_
    | refine s_cmpF rfl rfl rfl rfl rfl rfl rfl (by first | (simp only [cmpP]; omega) | exact rfl) ?_
    | refine s_arith rfl rfl rfl rfl rfl rfl rfl (by first | (exact IntWalk.i64_in _ (by omega)) | (exact IntWalk.u8_in _ (by omega))) ?_
    | refine a_condT rfl ?_
    | refine a_condF rfl ?_
    | refine a_skip ?_
    | refine a_exit ?_
    | refine a_ret ?_
    | refine a_block ?_)
            refine ⟨r + 1, e, ⟨by omega, he, bd_mono hbe (by omega), ?_⟩, by omega, ?_, OSub.refl _⟩
            · rw [← hbf, show n + 2 - (r + 1) = k by omega]
              rfl
            · repeat (first | exact subs_nil | refine subs_cons (Sub.of_eq rfl) ?_ | refine subs_cons (Sub.nil _) ?_)
    · obtain rfl : r = n + 2 := by omega
      rw [Nat.sub_self, bf] at hbf
      rw [← hbf] at hR
      have : R = ([], false) := hR.symm
      rw [this]
      repeat (first
    | refine a_seq ?_
    | refine a_reg ?_
    | refine a_regP mixed (by decide +kernel) ?_
    | refine t_lit tok rfl rfl rfl rfl ?_
    | refine t_im tok rfl rfl rfl rfl ?_
    | refine t_ip tok rfl rfl rfl rfl ?_
    | refine t_pt tok rfl rfl rfl rfl ?_
    | refine t_agg tok rfl rfl rfl rfl ?_
    | refine t_tup tok rfl rfl rfl rfl ?_
    | refine t_fn tok rfl rfl rfl rfl ?_
    | refine AL.nil ?_
    | refine s_skip rfl rfl rfl ?_
    | refine s_cmpT rfl rfl rfl rfl rfl rfl rfl (by first | (simp only [cmpP]; omega) | exact rfl) ?_
    | refine s_cmpF rfl rfl rfl rfl rfl rfl rfl (by first | (simp only [cmpP]; omega) | exact rfl) ?_
    | refine s_arith rfl rfl rfl rfl rfl rfl rfl (by first | (exact IntWalk.i64_in _ (by omega)) | (exact IntWalk.u8_in _ (by omega))) ?_
    | refine a_condT rfl ?_
    | refine a_condF rfl ?_
    | refine a_skip ?_
    | refine a_exit ?_
    | refine a_ret ?_
    | refine a_block ?_)
      refine fin (x := .tup [.lit _, .lit _]) (.inr rfl) rfl ?_ ⟨rfl, rfl⟩ (OSub.none _)
      exact Sub.tup ⟨Sub.nil 1, Sub.refl _, trivial⟩
end Go.Proofs.Ytniboaekigoheaa
