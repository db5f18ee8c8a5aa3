/-
  The law that a test is implied exactly if its opposite leaves no solution: the walk.
-/
import Derived.Test.YtniboaekigoheaaD30
import Derived.Test.YtniboaekigoheaaSjM12
namespace Go.Proofs.Ytniboaekigoheaa
open Go.Sj Go.Sj.Dif
set_option linter.unusedVariables false
set_option maxHeartbeats 4000000

def oppT (x : Tst) : Tst := ⟨1, x.rv, x.ra + 1, x.lv, x.la⟩
theorem sat_same {A : List Ar} {a b : Ar} (hf : a.f = b.f) (ht : a.t = b.t) (hc : a.c = b.c) : Sat (A ++ [a]) ↔ Sat (A ++ [b]) := by
  have key : ∀ v : Nat → Int, Sol (A ++ [a]) v ↔ Sol (A ++ [b]) v := fun v => by
    simp only [Sol, List.mem_append, List.mem_singleton]
    constructor
    · rintro h y (hy | rfl)
      · exact h y (.inl hy)
      · have := h a (.inr rfl); rw [hf, ht, hc] at this; exact this
    · rintro h y (hy | rfl)
      · exact h y (.inl hy)
      · have := h b (.inr rfl); rw [← hf, ← ht, ← hc] at this; exact this
  exact ⟨fun ⟨v, h⟩ => ⟨v, (key v).1 h⟩, fun ⟨v, h⟩ => ⟨v, (key v).2 h⟩⟩
theorem opposite {n : Int} {l : List Tst} {x : Tst} (h0 : validT n l = 0) (h1 : oneT n x = 0) (hk : x.k = 1) (h2 : validT n (l ++ [oppT x]) = 0) :
    (impliesR n l x).2 = 0 ∧ (((impliesR n l x).1 = true ∧ (solveR n (l ++ [oppT x])).2 = 10) ∨ ((impliesR n l x).1 = false ∧ (solveR n (l ++ [oppT x])).2 = 0)) := by
  obtain ⟨⟨n0, n12⟩, hlen, hl⟩ := validT_zero.1 h0
  obtain ⟨_, _, hl2⟩ := validT_zero.1 h2
  obtain ⟨m, rfl⟩ : ∃ m : Nat, n = m := ⟨n.toNat, by omega⟩
  rw [impliesR_eq h0 h1]
  have hx := oneT_zero.1 h1
  have hb : AOk m (arcAt 0 x) := arcsAt_ok (i := 0) hx _ (by simp [arcsAt])
  have e1 : arcsAt 0 x = [arcAt 0 x] := by simp [arcsAt, hk]
  have e2 : arcsOf (l ++ [oppT x]) = arcsOf l ++ [arcAt l.length (oppT x)] := by
    simp only [arcsOf, arcsF_snoc]
    simp [arcsAt, oppT]
  have hin : Inr (m + 1) (arcsOf l) := aok_inr (arcsOf_ok hl)
  have f1 := (distR_facts (opp_inr hin ⟨hb.1, hb.2.1⟩ (b := arcAt 0 x))).1
  have f2 := (distR_facts (aok_inr (arcsOf_ok hl2))).1
  rw [e2] at f2
  have f3 : Sat (arcsOf l ++ [oppA (arcAt 0 x)]) ↔ Sat (arcsOf l ++ [arcAt l.length (oppT x)]) :=
    sat_same rfl rfl (by simp only [oppA, arcAt, oppT]; omega)
  have f4 := f1.trans (f3.trans f2.symm)
  refine ⟨rfl, ?_⟩
  rw [e1]
  simp only [List.all_cons, List.all_nil, Bool.and_true, impB]
  simp only [solveR, h2, ne_eq, not_true_eq_false, if_false, Int.toNat_natCast, e2]
  cases hd : (distR m (arcsOf l ++ [oppA (arcAt 0 x)])).2 with
  | true =>
    right
    rw [if_pos (f4.1 hd)]
    exact ⟨rfl, rfl⟩
  | false =>
    left
    rw [if_neg (fun h => by rw [f4.2 h] at hd; cases hd)]
    exact ⟨rfl, rfl⟩
theorem mkC_ok (q : Int) (hq : 0 ≤ q ∧ q < 6) (c : C8) : (-1 ≤ (mkC q c).lv ∧ (mkC q c).lv < q) ∧ ((mkC q c).la = 0) ∧ (-1 ≤ (mkC q c).rv ∧ (mkC q c).rv < q) ∧ (-12 ≤ (mkC q c).ra ∧ (mkC q c).ra ≤ 12) := by
  have b1 := Int.emod_nonneg c.2.1 (b := q + 1) (by omega)
  have b2 := Int.emod_lt_of_pos c.2.1 (b := q + 1) (by omega)
  have d1 := Int.emod_nonneg c.2.2.1 (b := q + 1) (by omega)
  have d2 := Int.emod_lt_of_pos c.2.2.1 (b := q + 1) (by omega)
  have e1 := tmod_rng (a := c.2.2.2) (b := 12) (by decide)
  refine ⟨⟨?_, ?_⟩, rfl, ⟨?_, ?_⟩, ?_, ?_⟩ <;> simp only [mkC, mkT] <;> omega
theorem DifferenceOpposite_spec (n : Int) (hn : 0 ≤ n ∧ n ≤ 255) (l : List C8) (hl : ∀ c ∈ l, Ok8 c) (c : C8) (hc : Ok8 c) : Pure Try.prog 5 [.lit (.int .u8 n), .im 4 (l.map c8), .agg (c8 c)] (AB true) := by
  have ll : (l.map c8).length = l.length := by simp
  by_cases h : 20 < l.length
  · obtain ⟨c0, c1, c2, c3⟩ := c
    rw [show c8 (c0, c1, c2, c3) = [A8 c0, A8 c1, A8 c2, A8 c3] from rfl]
    refine a_enter Try.func5 (by kernel_rfl) rfl Try.ntmps5 rfl (by simp) ?_
    refine a_seq ?_
    refine a_reg ?_
    repeat (first
    | refine a_seq ?_
    | refine t_lit tok rfl rfl rfl rfl ?_
    | refine t_im tok rfl rfl rfl rfl ?_
    | refine t_ip tok rfl rfl rfl rfl ?_
    | refine t_pt tok rfl rfl rfl rfl ?_
    | refine t_agg tok rfl rfl rfl rfl ?_
    | refine t_tup tok rfl rfl rfl rfl ?_
    | refine t_fn tok rfl rfl rfl rfl ?_
    | refine AL.nil ?_
    | refine s_skip rfl rfl rfl ?_
    | refine s_cmpT rfl rfl rfl rfl rfl rfl rfl (by first | (simp only [cmpP]; omega) | exact rfl) ?_
    | refine s_cmpF rfl rfl rfl rfl rfl rfl rfl (by first | (simp only [cmpP]; omega) | exact rfl) ?_
    | refine s_arith rfl rfl rfl rfl rfl rfl rfl (by first | (exact IntWalk.i64_in _ (by omega)) | (exact IntWalk.u8_in _ (by omega))) ?_
    | refine s_box rfl rfl rfl rfl rfl rfl (fun u => ?_)
    | refine a_condT rfl ?_
    | refine a_condF rfl ?_
    | refine a_skip ?_
    | refine a_exit ?_
    | refine a_ret ?_
    | refine a_block ?_)
    refine a_frzBox 0 5 rfl rfl ?_
    repeat (first
    | refine a_seq ?_
    | refine a_reg ?_
    | refine a_regP mixed (by decide +kernel) ?_
    | refine t_lit tok rfl rfl rfl rfl ?_
    | refine t_im tok rfl rfl rfl rfl ?_
    | refine t_ip tok rfl rfl rfl rfl ?_
    | refine t_pt tok rfl rfl rfl rfl ?_
    | refine t_agg tok rfl rfl rfl rfl ?_
    | refine t_tup tok rfl rfl rfl rfl ?_
    | refine t_fn tok rfl rfl rfl rfl ?_
    | refine AL.nil ?_
    | refine s_skip rfl rfl rfl ?_
    | refine s_cmpT rfl rfl rfl rfl rfl rfl rfl (by first | (simp only [cmpP]; omega) | exact rfl) ?_
    | refine s_cmpF rfl rfl rfl rfl rfl rfl rfl (by first | (simp only [cmpP]; omega) | exact rfl) ?_
    | refine s_arith rfl rfl rfl rfl rfl rfl rfl (by first | (exact IntWalk.i64_in _ (by omega)) | (exact IntWalk.u8_in _ (by omega))) ?_
    | refine s_callP rfl rfl rfl rfl rfl (awake_spec) (SubL.of_eq rfl) ?_
    | refine a_condT rfl ?_
    | refine a_condF rfl ?_
    | refine a_skip ?_
    | refine a_exit ?_
    | refine a_ret ?_
    | refine a_block ?_)
    first | refine fin (x := .lit _) (.inr rfl) rfl (Sub.refl _) ?_ (OSub.none _) | refine fin (x := .im _ _) (.inr rfl) rfl (Sub.refl _) ?_ (OSub.none _) | refine fin (x := .tup [.lit _, .lit _]) (.inr rfl) rfl (Sub.refl _) ?_ (OSub.none _) | refine fin (x := .tup [.im _ _, .lit _]) (.inr rfl) rfl (Sub.refl _) ?_ (OSub.none _) | refine fin (x := .tup [.lit _, .lit _, .lit _]) (.inr rfl) rfl (Sub.refl _) ?_ (OSub.none _) | refine fin (x := .agg _) (.inr rfl) rfl (Sub.refl _) ?_ (OSub.none _)
    exact ⟨rfl, rfl⟩
  · have s1 := few_spec n hn l hl (by omega)
    have hv := few_valid (n % 6) ⟨by omega, by omega⟩ l (by omega)
    have q1 := Int.emod_nonneg n (b := 6) (by decide)
    have q2 := Int.emod_lt_of_pos n (b := 6) (by decide)
    generalize n % 6 = q at *
    have hm := Made_spec q c.1 c.2.1 c.2.2.1 c.2.2.2 ⟨by omega, by omega⟩ hc.1 hc.2.1 hc.2.2.1 hc.2.2.2
    have hr := mkC_ok q ⟨by omega, by omega⟩ c
    rw [show mkT q c.1 c.2.1 c.2.2.1 c.2.2.2 = mkC q c from rfl] at hm
    obtain ⟨c0, c1, c2, c3⟩ := c
    simp only at hm
    rw [show c8 (c0, c1, c2, c3) = [A8 c0, A8 c1, A8 c2, A8 c3] from rfl]
    have hlen : (fewL q l).length ≤ 20 := by simp [fewL]; omega
    generalize mkC q (c0, c1, c2, c3) = x at *
    generalize fewL q l = T at *
    obtain ⟨t0, t1, t2, t3, t4⟩ := x
    simp only at hr
    obtain ⟨⟨r1, r2⟩, r3, ⟨r4, r5⟩, r6, r7⟩ := hr
    subst r3
    rw [show cT ⟨t0, t1, 0, t3, t4⟩ = [AI t0, AI t1, AI 0, AI t3, AI t4] from rfl] at hm
    have h1 : oneT q ⟨1, t1, 0, t3, t4⟩ = 0 := oneT_zero.2 ⟨.inl rfl, by simp only; omega, by simp only; omega⟩
    have h2 : validT q (T ++ [oppT ⟨1, t1, 0, t3, t4⟩]) = 0 := by
      obtain ⟨⟨n0, n12⟩, _, hT⟩ := validT_zero.1 hv
      refine validT_zero.2 ⟨⟨n0, n12⟩, by simp; omega, fun y hy => ?_⟩
      rcases List.mem_append.1 hy with hy | hy
      · exact hT y hy
      · obtain rfl := List.mem_singleton.1 hy
        exact ⟨.inl rfl, by simp only [oppT]; omega, by simp only [oppT]; omega⟩
    have ho := opposite hv h1 rfl h2
    have s2 := Implies_spec q T ⟨1, t1, 0, t3, t4⟩
    have s3 := Solve_spec q (T ++ [oppT ⟨1, t1, 0, t3, t4⟩])
    rw [show tA ⟨1, t1, 0, t3, t4⟩ = .agg [AI 1, AI t1, AI 0, AI t3, AI t4] from rfl] at s2
    obtain ⟨o1, o2⟩ := ho
    rw [o1] at s2
    generalize (solveR q (T ++ [oppT ⟨1, t1, 0, t3, t4⟩])).1 = V at *
    generalize (solveR q (T ++ [oppT ⟨1, t1, 0, t3, t4⟩])).2 = e at *
    generalize (impliesR q T ⟨1, t1, 0, t3, t4⟩).1 = b at *
    have lT : (T.map cT).length = T.length := by simp
    have hg : ∀ v : Value, ACalls Try.prog 17 [AI q, .lit v] [(v, .row 26 5 (T.map cT ++ [[AI 1, AI t3, AI (t4 + 1), AI t1, AI 0]]))] (fun y L => y = .tup [ints V, AI e] ∧ L = []) := fun v => by
      rw [show T.map cT ++ [[AI 1, AI t3, AI (t4 + 1), AI t1, AI 0]] = (T ++ [oppT ⟨1, t1, 0, t3, t4⟩]).map cT by rw [List.map_append]; rfl]
      exact ACalls.give s3 trivial ⟨FZ.refl _, FZ.here, trivial⟩
    have hcl := CloneT_spec T (by omega)
    rcases o2 with ⟨rfl, rfl⟩ | ⟨rfl, rfl⟩
    all_goals
      refine a_enter Try.func5 (by kernel_rfl) rfl Try.ntmps5 rfl (by simp) ?_
      refine a_seq ?_
      refine a_reg ?_
      repeat (first
    | refine a_seq ?_
    | refine t_lit tok rfl rfl rfl rfl ?_
    | refine t_im tok rfl rfl rfl rfl ?_
    | refine t_ip tok rfl rfl rfl rfl ?_
    | refine t_pt tok rfl rfl rfl rfl ?_
    | refine t_agg tok rfl rfl rfl rfl ?_
    | refine t_tup tok rfl rfl rfl rfl ?_
    | refine t_fn tok rfl rfl rfl rfl ?_
    | refine AL.nil ?_
    | refine s_skip rfl rfl rfl ?_
    | refine s_cmpT rfl rfl rfl rfl rfl rfl rfl (by first | (simp only [cmpP]; omega) | exact rfl) ?_
    | refine s_cmpF rfl rfl rfl rfl rfl rfl rfl (by first | (simp only [cmpP]; omega) | exact rfl) ?_
    | refine s_arith rfl rfl rfl rfl rfl rfl rfl (by first | (exact IntWalk.i64_in _ (by omega)) | (exact IntWalk.u8_in _ (by omega))) ?_
    | refine s_box rfl rfl rfl rfl rfl rfl (fun u => ?_)
    | refine a_condT rfl ?_
    | refine a_condF rfl ?_
    | refine a_skip ?_
    | refine a_exit ?_
    | refine a_ret ?_
    | refine a_block ?_)
      refine a_frzBox 0 5 rfl rfl ?_
      repeat (first
    | refine a_seq ?_
    | refine a_reg ?_
    | refine t_lit tok rfl rfl rfl rfl ?_
    | refine t_im tok rfl rfl rfl rfl ?_
    | refine t_ip tok rfl rfl rfl rfl ?_
    | refine t_pt tok rfl rfl rfl rfl ?_
    | refine t_agg tok rfl rfl rfl rfl ?_
    | refine t_tup tok rfl rfl rfl rfl ?_
    | refine t_fn tok rfl rfl rfl rfl ?_
    | refine AL.nil ?_
    | refine s_skip rfl rfl rfl ?_
    | refine s_cmpT rfl rfl rfl rfl rfl rfl rfl (by first | (simp only [cmpP]; omega) | exact rfl) ?_
    | refine s_cmpF rfl rfl rfl rfl rfl rfl rfl (by first | (simp only [cmpP]; omega) | exact rfl) ?_
    | refine s_arith rfl rfl rfl rfl rfl rfl rfl (by first | (exact IntWalk.i64_in _ (by omega)) | (exact IntWalk.u8_in _ (by omega))) ?_
    | refine s_callP rfl rfl rfl rfl rfl (awake_spec) (SubL.of_eq rfl) ?_
    | refine s_callP rfl rfl rfl rfl rfl (s1) (SubL.of_eq rfl) ?_
    | refine s_callP rfl rfl rfl rfl rfl (hm) (SubL.of_eq rfl) ?_
    | refine s_alloc tok rfl rfl rfl rfl rfl (fun u => ?_)
    | refine s_store tok 0 rfl rfl rfl rfl rfl rfl rfl rfl (by decide) rfl rfl rfl (Nat.le_refl _) ?_
    | refine s_store tok 0 rfl rfl rfl rfl rfl rfl rfl rfl (by decide) rfl rfl rfl (Nat.le_of_ble_eq_true rfl) ?_
    | refine a_condT rfl ?_
    | refine a_condF rfl ?_
    | refine a_skip ?_
    | refine a_exit ?_
    | refine a_ret ?_
    | refine a_block ?_)
      refine a_frzBox 0 9 rfl rfl ?_
      repeat (first
    | refine a_seq ?_
    | refine a_reg ?_
    | refine a_regT (.br [0, 2, 3, 4, 5, 6, 7, 8, 9, 10, 11, 12] (.seg [1, 13, 14, 15]) (.seg [13, 1, 14, 15])) mixed rfl rfl (by decide +kernel) (at_br ?_)
    | refine t_lit tok rfl rfl rfl rfl ?_
    | refine t_im tok rfl rfl rfl rfl ?_
    | refine t_ip tok rfl rfl rfl rfl ?_
    | refine t_pt tok rfl rfl rfl rfl ?_
    | refine t_agg tok rfl rfl rfl rfl ?_
    | refine t_tup tok rfl rfl rfl rfl ?_
    | refine t_fn tok rfl rfl rfl rfl ?_
    | refine AL.nil ?_
    | refine s_skip rfl rfl rfl ?_
    | refine s_cmpT rfl rfl rfl rfl rfl rfl rfl (by first | (simp only [cmpP]; omega) | exact rfl) ?_
    | refine s_cmpF rfl rfl rfl rfl rfl rfl rfl (by first | (simp only [cmpP]; omega) | exact rfl) ?_
    | refine s_arith rfl rfl rfl rfl rfl rfl rfl (by first | (exact IntWalk.i64_in _ (by omega)) | (exact IntWalk.u8_in _ (by omega))) ?_
    | refine a_condT rfl ?_
    | refine a_condF rfl ?_
    | refine a_skip ?_
    | refine a_exit ?_
    | refine a_ret ?_
    | refine a_block ?_)
      refine ⟨at_seg ?_, at_seg ?_⟩
      · refine s_callG rfl rfl rfl rfl rfl (hcl) (SubL.of_eq rfl) (fun v => ?_)
        (first | refine s_build1 tok rfl rfl rfl rfl rfl rfl rfl rfl (fun u => ?_) | refine s_build1M tok rfl rfl rfl rfl rfl rfl rfl (fun u => ?_) | refine s_build1A tok rfl rfl rfl rfl rfl rfl rfl rfl (by decide) (fun u => ?_)); refine s_append1 tok 0 rfl rfl rfl rfl rfl rfl (by decide) rfl rfl rfl rfl (by omega) (by omega) (fun v1 => ?_)
        repeat (first
    | refine a_seq ?_
    | refine a_reg ?_
    | refine a_regP mixed (by decide +kernel) ?_
    | refine t_lit tok rfl rfl rfl rfl ?_
    | refine t_im tok rfl rfl rfl rfl ?_
    | refine t_ip tok rfl rfl rfl rfl ?_
    | refine t_pt tok rfl rfl rfl rfl ?_
    | refine t_agg tok rfl rfl rfl rfl ?_
    | refine t_tup tok rfl rfl rfl rfl ?_
    | refine t_fn tok rfl rfl rfl rfl ?_
    | refine AL.nil ?_
    | refine s_skip rfl rfl rfl ?_
    | refine s_cmpT rfl rfl rfl rfl rfl rfl rfl (by first | (simp only [cmpP]; omega) | exact rfl) ?_
    | refine s_cmpF rfl rfl rfl rfl rfl rfl rfl (by first | (simp only [cmpP]; omega) | exact rfl) ?_
    | refine s_arith rfl rfl rfl rfl rfl rfl rfl (by first | (exact IntWalk.i64_in _ (by omega)) | (exact IntWalk.u8_in _ (by omega))) ?_
    | refine s_callP rfl rfl rfl rfl rfl (s2) (SubL.of_eq rfl) ?_
    | refine a_condT rfl ?_
    | refine a_condF rfl ?_
    | refine a_skip ?_
    | refine a_exit ?_
    | refine a_ret ?_
    | refine a_block ?_)
        refine s_callO 0 rfl rfl rfl rfl rfl rfl (hg v1) (SubL.of_eq rfl) ?_
        rintro _ _ ⟨rfl, rfl⟩
        repeat (first
    | refine a_seq ?_
    | refine a_reg ?_
    | refine a_regP mixed (by decide +kernel) ?_
    | refine t_lit tok rfl rfl rfl rfl ?_
    | refine t_im tok rfl rfl rfl rfl ?_
    | refine t_ip tok rfl rfl rfl rfl ?_
    | refine t_pt tok rfl rfl rfl rfl ?_
    | refine t_agg tok rfl rfl rfl rfl ?_
    | refine t_tup tok rfl rfl rfl rfl ?_
    | refine t_fn tok rfl rfl rfl rfl ?_
    | refine AL.nil ?_
    | refine s_skip rfl rfl rfl ?_
    | refine s_cmpT rfl rfl rfl rfl rfl rfl rfl (by first | (simp only [cmpP]; omega) | exact rfl) ?_
    | refine s_cmpF rfl rfl rfl rfl rfl rfl rfl (by first | (simp only [cmpP]; omega) | exact rfl) ?_
    | refine s_arith rfl rfl rfl rfl rfl rfl rfl (by first | (exact IntWalk.i64_in _ (by omega)) | (exact IntWalk.u8_in _ (by omega))) ?_
    | refine s_boolEq tok rfl rfl rfl rfl rfl rfl rfl ?_
    | refine a_condT rfl ?_
    | refine a_condF rfl ?_
    | refine a_skip ?_
    | refine a_exit ?_
    | refine a_ret ?_
    | refine a_block ?_)
        first | refine fin (x := .lit _) (.inr rfl) rfl (Sub.refl _) ?_ (OSub.none _) | refine fin (x := .im _ _) (.inr rfl) rfl (Sub.refl _) ?_ (OSub.none _) | refine fin (x := .tup [.lit _, .lit _]) (.inr rfl) rfl (Sub.refl _) ?_ (OSub.none _) | refine fin (x := .tup [.im _ _, .lit _]) (.inr rfl) rfl (Sub.refl _) ?_ (OSub.none _) | refine fin (x := .tup [.lit _, .lit _, .lit _]) (.inr rfl) rfl (Sub.refl _) ?_ (OSub.none _) | refine fin (x := .agg _) (.inr rfl) rfl (Sub.refl _) ?_ (OSub.none _)
        exact ⟨rfl, rfl⟩
      · refine s_build1A tok rfl rfl rfl rfl rfl rfl rfl rfl (by decide) (fun u1 => ?_)
        refine s_callG rfl rfl rfl rfl rfl (hcl) (SubL.of_eq rfl) (fun v => ?_)
        refine s_appendOwn tok 0 1 rfl rfl rfl rfl rfl rfl (by decide) rfl rfl rfl rfl rfl rfl (by simp; omega) (by simp; omega) (fun v1 => ?_)
        repeat (first
    | refine a_seq ?_
    | refine a_reg ?_
    | refine a_regP mixed (by decide +kernel) ?_
    | refine t_lit tok rfl rfl rfl rfl ?_
    | refine t_im tok rfl rfl rfl rfl ?_
    | refine t_ip tok rfl rfl rfl rfl ?_
    | refine t_pt tok rfl rfl rfl rfl ?_
    | refine t_agg tok rfl rfl rfl rfl ?_
    | refine t_tup tok rfl rfl rfl rfl ?_
    | refine t_fn tok rfl rfl rfl rfl ?_
    | refine AL.nil ?_
    | refine s_skip rfl rfl rfl ?_
    | refine s_cmpT rfl rfl rfl rfl rfl rfl rfl (by first | (simp only [cmpP]; omega) | exact rfl) ?_
    | refine s_cmpF rfl rfl rfl rfl rfl rfl rfl (by first | (simp only [cmpP]; omega) | exact rfl) ?_
    | refine s_arith rfl rfl rfl rfl rfl rfl rfl (by first | (exact IntWalk.i64_in _ (by omega)) | (exact IntWalk.u8_in _ (by omega))) ?_
    | refine s_callP rfl rfl rfl rfl rfl (s2) (SubL.of_eq rfl) ?_
    | refine a_condT rfl ?_
    | refine a_condF rfl ?_
    | refine a_skip ?_
    | refine a_exit ?_
    | refine a_ret ?_
    | refine a_block ?_)
        refine s_callO 0 rfl rfl rfl rfl rfl rfl (hg v1) (SubL.of_eq rfl) ?_
        rintro _ _ ⟨rfl, rfl⟩
        repeat (first
    | refine a_seq ?_
    | refine a_reg ?_
    | refine a_regP mixed (by decide +kernel) ?_
    | refine t_lit tok rfl rfl rfl rfl ?_
    | refine t_im tok rfl rfl rfl rfl ?_
    | refine t_ip tok rfl rfl rfl rfl ?_
    | refine t_pt tok rfl rfl rfl rfl ?_
    | refine t_agg tok rfl rfl rfl rfl ?_
    | refine t_tup tok rfl rfl rfl rfl ?_
    | refine t_fn tok rfl rfl rfl rfl ?_
    | refine AL.nil ?_
    | refine s_skip rfl rfl rfl ?_
    | refine s_cmpT rfl rfl rfl rfl rfl rfl rfl (by first | (simp only [cmpP]; omega) | exact rfl) ?_
    | refine s_cmpF rfl rfl rfl rfl rfl rfl rfl (by first | (simp only [cmpP]; omega) | exact rfl) ?_
    | refine s_arith rfl rfl rfl rfl rfl rfl rfl (by first | (exact IntWalk.i64_in _ (by omega)) | (exact IntWalk.u8_in _ (by omega))) ?_
    | refine s_boolEq tok rfl rfl rfl rfl rfl rfl rfl ?_
    | refine a_condT rfl ?_
    | refine a_condF rfl ?_
    | refine a_skip ?_
    | refine a_exit ?_
    | refine a_ret ?_
    | refine a_block ?_)
        first | refine fin (x := .lit _) (.inr rfl) rfl (Sub.refl _) ?_ (OSub.none _) | refine fin (x := .im _ _) (.inr rfl) rfl (Sub.refl _) ?_ (OSub.none _) | refine fin (x := .tup [.lit _, .lit _]) (.inr rfl) rfl (Sub.refl _) ?_ (OSub.none _) | refine fin (x := .tup [.im _ _, .lit _]) (.inr rfl) rfl (Sub.refl _) ?_ (OSub.none _) | refine fin (x := .tup [.lit _, .lit _, .lit _]) (.inr rfl) rfl (Sub.refl _) ?_ (OSub.none _) | refine fin (x := .agg _) (.inr rfl) rfl (Sub.refl _) ?_ (OSub.none _)
        exact ⟨rfl, rfl⟩
end Go.Proofs.Ytniboaekigoheaa
