/-
  The tests that remain: the walks.
-/
import Derived.Test.YtniboaekigoheaaD12
import Derived.Test.YtniboaekigoheaaSjM12
import Derived.Test.YtniboaekigoheaaSjL6
namespace Go.Proofs.Ytniboaekigoheaa
open Go.Sj Go.Sj.Dif
set_option linter.unusedVariables false
set_option maxHeartbeats 4000000

theorem se_test : SE Try.prog 26 5 :=
  se_of122 Try.underlying26 (by kernel_rfl) (by kernel_rfl) (by decide) rfl Try.underlying3
    (by decide) rfl Try.underlying24 (by kernel_rfl) (by kernel_rfl) rfl (tok _ _ rfl) rfl (by decide) rfl Try.underlying24 (by kernel_rfl) (by kernel_rfl) rfl (tok _ _ rfl) rfl

theorem SameTests_same (l : List Tst) (hl : l.length ≤ 1099511627776) : Pure Try.prog 22 [testsA l, testsA l] (AB true) := by
  have ll : (l.map cT).length = l.length := by simp
  refine a_enter Try.func22 (by kernel_rfl) rfl Try.ntmps22 rfl (by simp) ?_
  repeat (first
    | refine a_seq ?_
    | refine a_reg ?_
    | refine a_regP mixed (by decide +kernel) ?_
    | refine t_lit tok rfl rfl rfl rfl ?_
    | refine t_im tok rfl rfl rfl rfl ?_
    | refine t_ip tok rfl rfl rfl rfl ?_
    | refine t_pt tok rfl rfl rfl rfl ?_
    | refine t_agg tok rfl rfl rfl rfl ?_
    | refine t_tup tok rfl rfl rfl rfl ?_
    | refine t_fn tok rfl rfl rfl rfl ?_
    | refine AL.nil ?_
    | refine s_skip rfl rfl rfl ?_
    | refine s_cmpT rfl rfl rfl rfl rfl rfl rfl (by first | (simp only [cmpP]; omega) | exact rfl) ?_
    | refine s_cmpF rfl rfl rfl rfl rfl rfl rfl (by first | (simp only [cmpP]; omega) | exact rfl) ?_
    | refine s_arith rfl rfl rfl rfl rfl rfl rfl (by first | (exact IntWalk.i64_in _ (by omega)) | (exact IntWalk.u8_in _ (by omega))) ?_
    | refine a_condT rfl ?_
    | refine a_condF rfl ?_
    | refine a_skip ?_
    | refine a_exit ?_
    | refine a_ret ?_
    | refine a_block ?_)
  refine a_loopX (fun k : Nat => [(0, testsA l), (1, testsA l), (5, AI k)]) (fun _ => []) (fun k => k ≤ l.length) (fun k => l.length - k) 0 (Nat.zero_le _) ?_ (OSub.refl _) ?_
  · repeat (first | exact subs_nil | refine subs_cons (Sub.of_eq rfl) ?_ | refine subs_cons (Sub.nil _) ?_)
  · intro k hk
    rcases Nat.lt_or_ge k l.length with h | h
    · have hx := List.getElem?_eq_getElem h
      generalize l[k] = x at hx
      have xk : (l.map cT)[(k : Int).toNat]? = some (cIs [x.k, x.lv, x.la, x.rv, x.ra]) := map_get hx
      repeat (first
    | refine a_seq ?_
    | refine a_reg ?_
    | refine a_regP mixed (by decide +kernel) ?_
    | refine t_lit tok rfl rfl rfl rfl ?_
    | refine t_im tok rfl rfl rfl rfl ?_
    | refine t_ip tok rfl rfl rfl rfl ?_
    | refine t_pt tok rfl rfl rfl rfl ?_
    | refine t_agg tok rfl rfl rfl rfl ?_
    | refine t_tup tok rfl rfl rfl rfl ?_
    | refine t_fn tok rfl rfl rfl rfl ?_
    | refine AL.nil ?_
    | refine s_skip rfl rfl rfl ?_
    | refine s_cmpT rfl rfl rfl rfl rfl rfl rfl (by first | (simp only [cmpP]; omega) | exact rfl) ?_
    | refine s_cmpF rfl rfl rfl rfl rfl rfl rfl (by first | (simp only [cmpP]; omega) | exact rfl) ?_
    | refine s_arith rfl rfl rfl rfl rfl rfl rfl (by first | (exact IntWalk.i64_in _ (by omega)) | (exact IntWalk.u8_in _ (by omega))) ?_
    | refine s_index tok rfl rfl rfl rfl rfl rfl rfl rfl rfl (by omega) xk ?_
    | refine s_sne (b := false) (xs := [x.k, x.lv, x.la, x.rv, x.ra]) (ys := [x.k, x.lv, x.la, x.rv, x.ra]) se_test rfl rfl rfl rfl rfl rfl rfl rfl (by simp) ?_
    | refine a_condT rfl ?_
    | refine a_condF rfl ?_
    | refine a_skip ?_
    | refine a_exit ?_
    | refine a_ret ?_
    | refine a_block ?_)
      refine ⟨k + 1, by omega, by omega, ?_, OSub.refl _⟩
      repeat (first | exact subs_nil | refine subs_cons (Sub.of_eq rfl) ?_ | refine subs_cons (Sub.nil _) ?_)
    · repeat (first
    | refine a_seq ?_
    | refine a_reg ?_
    | refine a_regP mixed (by decide +kernel) ?_
    | refine t_lit tok rfl rfl rfl rfl ?_
    | refine t_im tok rfl rfl rfl rfl ?_
    | refine t_ip tok rfl rfl rfl rfl ?_
    | refine t_pt tok rfl rfl rfl rfl ?_
    | refine t_agg tok rfl rfl rfl rfl ?_
    | refine t_tup tok rfl rfl rfl rfl ?_
    | refine t_fn tok rfl rfl rfl rfl ?_
    | refine AL.nil ?_
    | refine s_skip rfl rfl rfl ?_
    | refine s_cmpT rfl rfl rfl rfl rfl rfl rfl (by first | (simp only [cmpP]; omega) | exact rfl) ?_
    | refine s_cmpF rfl rfl rfl rfl rfl rfl rfl (by first | (simp only [cmpP]; omega) | exact rfl) ?_
    | refine s_arith rfl rfl rfl rfl rfl rfl rfl (by first | (exact IntWalk.i64_in _ (by omega)) | (exact IntWalk.u8_in _ (by omega))) ?_
    | refine a_condT rfl ?_
    | refine a_condF rfl ?_
    | refine a_skip ?_
    | refine a_exit ?_
    | refine a_ret ?_
    | refine a_block ?_)
      first | refine fin (x := .lit _) (.inr rfl) rfl (Sub.refl _) ?_ (OSub.refl _) | refine fin (x := .im _ _) (.inr rfl) rfl (Sub.refl _) ?_ (OSub.refl _) | refine fin (x := .tup [.lit _, .lit _]) (.inr rfl) rfl (Sub.refl _) ?_ (OSub.refl _) | refine fin (x := .tup [.im _ _, .lit _]) (.inr rfl) rfl (Sub.refl _) ?_ (OSub.refl _) | refine fin (x := .tup [.lit _, .lit _, .lit _]) (.inr rfl) rfl (Sub.refl _) ?_ (OSub.refl _) | refine fin (x := .agg _) (.inr rfl) rfl (Sub.refl _) ?_ (OSub.refl _)
      exact ⟨rfl, rfl⟩

theorem free_tup2 (b : Bool) (e : Int) : Free (.tup [AB b, AI e]) := .tup _ fun x hx => by
  rcases List.mem_cons.1 hx with rfl | hx
  · exact .lit _
  · obtain rfl : x = AI e := by simpa using hx
    exact .lit _
theorem Implies_lend (n : Int) (l : List Tst) (x : Tst) (v : Value) : ACalls Try.prog 13 [AI n, .lit v, tA x] [(v, .row 26 5 (l.map cT))] (fun y M => y = .tup [AB (impliesR n l x).1, AI (impliesR n l x).2] ∧ M = [(v, .row 26 5 (l.map cT))]) :=
  (ACalls.lendZ (E := 26) (Implies_spec n l x) (v := v) (sz := 5) (es := l.map cT) (args' := [AI n, .lit v, tA x]) ⟨FZ.refl _, FZ.here, FZ.refl _, trivial⟩ (fun y M ⟨h1, h2⟩ => by
    subst h1; subst h2
    exact ⟨free_tup2 _ _, fun p hp => by simp at hp⟩)).mono fun y M ⟨M', ⟨h1, h2⟩, h3⟩ => ⟨h1, by rw [h3, h2]; rfl⟩
theorem refImplies_lend (n : Int) (l : List Tst) (x : Tst) (v : Value) : ACalls Try.prog 15 [AI n, .lit v, tA x] [(v, .row 26 5 (l.map cT))] (fun y M => y = .tup [AB (impliesR n l x).1, AI (impliesR n l x).2] ∧ M = [(v, .row 26 5 (l.map cT))]) :=
  (ACalls.lendZ (E := 26) (refImplies_spec n l x) (v := v) (sz := 5) (es := l.map cT) (args' := [AI n, .lit v, tA x]) ⟨FZ.refl _, FZ.here, FZ.refl _, trivial⟩ (fun y M ⟨h1, h2⟩ => by
    subst h1; subst h2
    exact ⟨free_tup2 _ _, fun p hp => by simp at hp⟩)).mono fun y M ⟨M', ⟨h1, h2⟩, h3⟩ => ⟨h1, by rw [h3, h2]; rfl⟩

theorem Reduce_spec (n : Int) (l : List Tst) : Pure Try.prog 20 [AI n, testsA l] (.tup [testsA (reduceR n l).1, AI (reduceR n l).2]) := by
  have nil5 : Sub (.lit (.slice none 0 0)) (testsA []) := Sub.nil 5
  have hV := Valid_spec n l
  have ll : (l.map cT).length = l.length := by simp
  by_cases h0 : validT n l = 0
  · rw [show reduceR n l = (redF n l, 0) by simp only [reduceR, h0, ne_eq, not_true_eq_false, if_false]]
    obtain ⟨_, hlen, _⟩ := validT_zero.1 h0
    rw [h0] at hV
    refine a_enter Try.func20 (by kernel_rfl) rfl Try.ntmps20 rfl (by simp) ?_
    repeat (first
    | refine a_seq ?_
    | refine a_reg ?_
    | refine a_regP mixed (by decide +kernel) ?_
    | refine t_lit tok rfl rfl rfl rfl ?_
    | refine t_im tok rfl rfl rfl rfl ?_
    | refine t_ip tok rfl rfl rfl rfl ?_
    | refine t_pt tok rfl rfl rfl rfl ?_
    | refine t_agg tok rfl rfl rfl rfl ?_
    | refine t_tup tok rfl rfl rfl rfl ?_
    | refine t_fn tok rfl rfl rfl rfl ?_
    | refine AL.nil ?_
    | refine s_skip rfl rfl rfl ?_
    | refine s_cmpT rfl rfl rfl rfl rfl rfl rfl (by first | (simp only [cmpP]; omega) | exact rfl) ?_
    | refine s_cmpF rfl rfl rfl rfl rfl rfl rfl (by first | (simp only [cmpP]; omega) | exact rfl) ?_
    | refine s_arith rfl rfl rfl rfl rfl rfl rfl (by first | (exact IntWalk.i64_in _ (by omega)) | (exact IntWalk.u8_in _ (by omega))) ?_
    | refine s_callP rfl rfl rfl rfl rfl (hV) (SubL.of_eq rfl) ?_
    | refine a_condT rfl ?_
    | refine a_condF rfl ?_
    | refine a_skip ?_
    | refine a_exit ?_
    | refine a_ret ?_
    | refine a_block ?_)
    rw [ll]
    refine a_loop2 (fun (k : Nat) (v : Value) => [(0, AI n), (7, .lit v), (18, testsA l), (19, AI l.length), (20, AI k)]) (fun k v => [(v, .row 26 5 ((redF n (l.take k)).map cT))]) (fun k _ => k ≤ l.length) (fun k _ => l.length - k) 0 (.slice none 0 0) (Nat.zero_le _) ?_ (.free .nil) ?_
    · repeat (first | exact subs_nil | refine subs_cons (Sub.of_eq rfl) ?_ | refine subs_cons (Sub.nil _) ?_)
    · intro k v hk
      rcases Nat.lt_or_ge k l.length with h | h
      · have hx := List.getElem?_eq_getElem h
        generalize l[k] = x at hx
        have hs := redF_take (n := n) hx
        have hlo := redF_length n (l.take k)
        rw [List.length_take] at hlo
        have xk : (l.map cT)[(k : Int).toNat]? = some (cT x) := map_get hx
        generalize redF n (l.take k) = out at *
        have lo : (out.map cT).length = out.length := by simp
        have him := Implies_lend n out x v
        unfold redS at hs
        generalize impliesR n out x = R at *
        obtain ⟨b, e⟩ := R
        cases b with
        | true =>
          rw [if_pos rfl] at hs
          repeat (first
    | refine a_seq ?_
    | refine a_reg ?_
    | refine a_regP mixed (by decide +kernel) ?_
    | refine t_lit tok rfl rfl rfl rfl ?_
    | refine t_im tok rfl rfl rfl rfl ?_
    | refine t_ip tok rfl rfl rfl rfl ?_
    | refine t_pt tok rfl rfl rfl rfl ?_
    | refine t_agg tok rfl rfl rfl rfl ?_
    | refine t_tup tok rfl rfl rfl rfl ?_
    | refine t_fn tok rfl rfl rfl rfl ?_
    | refine AL.nil ?_
    | refine s_skip rfl rfl rfl ?_
    | refine s_cmpT rfl rfl rfl rfl rfl rfl rfl (by first | (simp only [cmpP]; omega) | exact rfl) ?_
    | refine s_cmpF rfl rfl rfl rfl rfl rfl rfl (by first | (simp only [cmpP]; omega) | exact rfl) ?_
    | refine s_arith rfl rfl rfl rfl rfl rfl rfl (by first | (exact IntWalk.i64_in _ (by omega)) | (exact IntWalk.u8_in _ (by omega))) ?_
    | refine s_alloc tok rfl rfl rfl rfl rfl (fun u => ?_)
    | refine s_store tok 0 rfl rfl rfl rfl rfl rfl rfl rfl (by decide) rfl rfl rfl (Nat.le_refl _) ?_
    | refine s_index tok rfl rfl rfl rfl rfl rfl rfl rfl rfl (by omega) xk ?_
    | refine s_ownLoad tok 0 rfl rfl rfl rfl (by decide) rfl rfl rfl rfl rfl rfl (List.cons_ne_nil _ _) ?_
    | refine a_condT rfl ?_
    | refine a_condF rfl ?_
    | refine a_skip ?_
    | refine a_exit ?_
    | refine a_ret ?_
    | refine a_block ?_)
          refine s_callO 1 rfl rfl rfl rfl rfl rfl (him) (SubL.of_eq rfl) ?_
          rintro _ _ ⟨rfl, rfl⟩
          repeat (first
    | refine a_seq ?_
    | refine a_reg ?_
    | refine a_regP mixed (by decide +kernel) ?_
    | refine t_lit tok rfl rfl rfl rfl ?_
    | refine t_im tok rfl rfl rfl rfl ?_
    | refine t_ip tok rfl rfl rfl rfl ?_
    | refine t_pt tok rfl rfl rfl rfl ?_
    | refine t_agg tok rfl rfl rfl rfl ?_
    | refine t_tup tok rfl rfl rfl rfl ?_
    | refine t_fn tok rfl rfl rfl rfl ?_
    | refine AL.nil ?_
    | refine s_skip rfl rfl rfl ?_
    | refine s_cmpT rfl rfl rfl rfl rfl rfl rfl (by first | (simp only [cmpP]; omega) | exact rfl) ?_
    | refine s_cmpF rfl rfl rfl rfl rfl rfl rfl (by first | (simp only [cmpP]; omega) | exact rfl) ?_
    | refine s_arith rfl rfl rfl rfl rfl rfl rfl (by first | (exact IntWalk.i64_in _ (by omega)) | (exact IntWalk.u8_in _ (by omega))) ?_
    | refine a_condT rfl ?_
    | refine a_condF rfl ?_
    | refine a_skip ?_
    | refine a_exit ?_
    | refine a_ret ?_
    | refine a_block ?_)
          refine ⟨k + 1, v, by omega, by omega, ?_, ?_⟩
          · repeat (first | exact subs_nil | refine subs_cons (Sub.of_eq rfl) ?_ | refine subs_cons (Sub.nil _) ?_)
          · rw [hs]
            exact .keep (.drop .nil)
        | false =>
          rw [if_neg (by simp)] at hs
          repeat (first
    | refine a_seq ?_
    | refine a_reg ?_
    | refine a_regP mixed (by decide +kernel) ?_
    | refine t_lit tok rfl rfl rfl rfl ?_
    | refine t_im tok rfl rfl rfl rfl ?_
    | refine t_ip tok rfl rfl rfl rfl ?_
    | refine t_pt tok rfl rfl rfl rfl ?_
    | refine t_agg tok rfl rfl rfl rfl ?_
    | refine t_tup tok rfl rfl rfl rfl ?_
    | refine t_fn tok rfl rfl rfl rfl ?_
    | refine AL.nil ?_
    | refine s_skip rfl rfl rfl ?_
    | refine s_cmpT rfl rfl rfl rfl rfl rfl rfl (by first | (simp only [cmpP]; omega) | exact rfl) ?_
    | refine s_cmpF rfl rfl rfl rfl rfl rfl rfl (by first | (simp only [cmpP]; omega) | exact rfl) ?_
    | refine s_arith rfl rfl rfl rfl rfl rfl rfl (by first | (exact IntWalk.i64_in _ (by omega)) | (exact IntWalk.u8_in _ (by omega))) ?_
    | refine s_alloc tok rfl rfl rfl rfl rfl (fun u => ?_)
    | refine s_store tok 0 rfl rfl rfl rfl rfl rfl rfl rfl (by decide) rfl rfl rfl (Nat.le_refl _) ?_
    | refine s_index tok rfl rfl rfl rfl rfl rfl rfl rfl rfl (by omega) xk ?_
    | refine s_ownLoad tok 0 rfl rfl rfl rfl (by decide) rfl rfl rfl rfl rfl rfl (List.cons_ne_nil _ _) ?_
    | refine a_condT rfl ?_
    | refine a_condF rfl ?_
    | refine a_skip ?_
    | refine a_exit ?_
    | refine a_ret ?_
    | refine a_block ?_)
          refine s_callO 1 rfl rfl rfl rfl rfl rfl (him) (SubL.of_eq rfl) ?_
          rintro _ _ ⟨rfl, rfl⟩
          repeat (first
    | refine a_seq ?_
    | refine a_reg ?_
    | refine a_regP mixed (by decide +kernel) ?_
    | refine t_lit tok rfl rfl rfl rfl ?_
    | refine t_im tok rfl rfl rfl rfl ?_
    | refine t_ip tok rfl rfl rfl rfl ?_
    | refine t_pt tok rfl rfl rfl rfl ?_
    | refine t_agg tok rfl rfl rfl rfl ?_
    | refine t_tup tok rfl rfl rfl rfl ?_
    | refine t_fn tok rfl rfl rfl rfl ?_
    | refine AL.nil ?_
    | refine s_skip rfl rfl rfl ?_
    | refine s_cmpT rfl rfl rfl rfl rfl rfl rfl (by first | (simp only [cmpP]; omega) | exact rfl) ?_
    | refine s_cmpF rfl rfl rfl rfl rfl rfl rfl (by first | (simp only [cmpP]; omega) | exact rfl) ?_
    | refine s_arith rfl rfl rfl rfl rfl rfl rfl (by first | (exact IntWalk.i64_in _ (by omega)) | (exact IntWalk.u8_in _ (by omega))) ?_
    | refine s_ownLoad tok 1 rfl rfl rfl rfl (by decide) rfl rfl rfl rfl rfl rfl (List.cons_ne_nil _ _) ?_
    | refine a_condT rfl ?_
    | refine a_condF rfl ?_
    | refine a_skip ?_
    | refine a_exit ?_
    | refine a_ret ?_
    | refine a_block ?_)
          (first | refine s_build1 tok rfl rfl rfl rfl rfl rfl rfl rfl (fun u => ?_) | refine s_build1M tok rfl rfl rfl rfl rfl rfl rfl (fun u => ?_) | refine s_build1A tok rfl rfl rfl rfl rfl rfl rfl rfl (by decide) (fun u => ?_)); refine s_append1 tok 0 rfl rfl rfl rfl rfl rfl (by decide) rfl rfl rfl rfl (by omega) (by omega) (fun v' => ?_)
          repeat (first
    | refine a_seq ?_
    | refine a_reg ?_
    | refine a_regP mixed (by decide +kernel) ?_
    | refine t_lit tok rfl rfl rfl rfl ?_
    | refine t_im tok rfl rfl rfl rfl ?_
    | refine t_ip tok rfl rfl rfl rfl ?_
    | refine t_pt tok rfl rfl rfl rfl ?_
    | refine t_agg tok rfl rfl rfl rfl ?_
    | refine t_tup tok rfl rfl rfl rfl ?_
    | refine t_fn tok rfl rfl rfl rfl ?_
    | refine AL.nil ?_
    | refine s_skip rfl rfl rfl ?_
    | refine s_cmpT rfl rfl rfl rfl rfl rfl rfl (by first | (simp only [cmpP]; omega) | exact rfl) ?_
    | refine s_cmpF rfl rfl rfl rfl rfl rfl rfl (by first | (simp only [cmpP]; omega) | exact rfl) ?_
    | refine s_arith rfl rfl rfl rfl rfl rfl rfl (by first | (exact IntWalk.i64_in _ (by omega)) | (exact IntWalk.u8_in _ (by omega))) ?_
    | refine a_condT rfl ?_
    | refine a_condF rfl ?_
    | refine a_skip ?_
    | refine a_exit ?_
    | refine a_ret ?_
    | refine a_block ?_)
          refine ⟨k + 1, v', by omega, by omega, ?_, ?_⟩
          · repeat (first | exact subs_nil | refine subs_cons (Sub.of_eq rfl) ?_ | refine subs_cons (Sub.nil _) ?_)
          · rw [hs, List.map_append]
            exact .keep (.drop .nil)
      · obtain rfl : k = l.length := by omega
        rw [List.take_length]
        repeat (first
    | refine a_seq ?_
    | refine a_reg ?_
    | refine a_regP mixed (by decide +kernel) ?_
    | refine t_lit tok rfl rfl rfl rfl ?_
    | refine t_im tok rfl rfl rfl rfl ?_
    | refine t_ip tok rfl rfl rfl rfl ?_
    | refine t_pt tok rfl rfl rfl rfl ?_
    | refine t_agg tok rfl rfl rfl rfl ?_
    | refine t_tup tok rfl rfl rfl rfl ?_
    | refine t_fn tok rfl rfl rfl rfl ?_
    | refine AL.nil ?_
    | refine s_skip rfl rfl rfl ?_
    | refine s_cmpT rfl rfl rfl rfl rfl rfl rfl (by first | (simp only [cmpP]; omega) | exact rfl) ?_
    | refine s_cmpF rfl rfl rfl rfl rfl rfl rfl (by first | (simp only [cmpP]; omega) | exact rfl) ?_
    | refine s_arith rfl rfl rfl rfl rfl rfl rfl (by first | (exact IntWalk.i64_in _ (by omega)) | (exact IntWalk.u8_in _ (by omega))) ?_
    | refine a_condT rfl ?_
    | refine a_condF rfl ?_
    | refine a_skip ?_
    | refine a_exit ?_
    | refine a_ret ?_
    | refine a_block ?_)
        exact finF 0 (x := .tup [.lit _, .lit _]) (.inr rfl) rfl rfl (FZ.tup (m := [testsA (redF n l), _]) ⟨FZ.here, FZ.refl _, trivial⟩) ⟨rfl, rfl⟩
  · rw [show reduceR n l = ([], validT n l) by simp only [reduceR, if_pos h0]]
    generalize validT n l = e at *
    refine a_enter Try.func20 (by kernel_rfl) rfl Try.ntmps20 rfl (by simp) ?_
    repeat (first
    | refine a_seq ?_
    | refine a_reg ?_
    | refine a_regP mixed (by decide +kernel) ?_
    | refine t_lit tok rfl rfl rfl rfl ?_
    | refine t_im tok rfl rfl rfl rfl ?_
    | refine t_ip tok rfl rfl rfl rfl ?_
    | refine t_pt tok rfl rfl rfl rfl ?_
    | refine t_agg tok rfl rfl rfl rfl ?_
    | refine t_tup tok rfl rfl rfl rfl ?_
    | refine t_fn tok rfl rfl rfl rfl ?_
    | refine AL.nil ?_
    | refine s_skip rfl rfl rfl ?_
    | refine s_cmpT rfl rfl rfl rfl rfl rfl rfl (by first | (simp only [cmpP]; omega) | exact rfl) ?_
    | refine s_cmpF rfl rfl rfl rfl rfl rfl rfl (by first | (simp only [cmpP]; omega) | exact rfl) ?_
    | refine s_arith rfl rfl rfl rfl rfl rfl rfl (by first | (exact IntWalk.i64_in _ (by omega)) | (exact IntWalk.u8_in _ (by omega))) ?_
    | refine s_callP rfl rfl rfl rfl rfl (hV) (SubL.of_eq rfl) ?_
    | refine a_condT rfl ?_
    | refine a_condF rfl ?_
    | refine a_skip ?_
    | refine a_exit ?_
    | refine a_ret ?_
    | refine a_block ?_)
    refine fin (x := .tup [.lit _, .lit _]) (.inr rfl) rfl ?_ ⟨rfl, rfl⟩ (OSub.refl _)
    exact Sub.tup ⟨nil5, Sub.refl _, trivial⟩

theorem refReduce_spec (n : Int) (l : List Tst) : Pure Try.prog 21 [AI n, testsA l] (.tup [testsA (reduceR n l).1, AI (reduceR n l).2]) := by
  have nil5 : Sub (.lit (.slice none 0 0)) (testsA []) := Sub.nil 5
  have hV := refValid_spec n l
  have ll : (l.map cT).length = l.length := by simp
  by_cases h0 : validT n l = 0
  · rw [show reduceR n l = (redF n l, 0) by simp only [reduceR, h0, ne_eq, not_true_eq_false, if_false]]
    obtain ⟨_, hlen, _⟩ := validT_zero.1 h0
    rw [h0] at hV
    refine a_enter Try.func21 (by kernel_rfl) rfl Try.ntmps21 rfl (by simp) ?_
    repeat (first
    | refine a_seq ?_
    | refine a_reg ?_
    | refine a_regP mixed (by decide +kernel) ?_
    | refine t_lit tok rfl rfl rfl rfl ?_
    | refine t_im tok rfl rfl rfl rfl ?_
    | refine t_ip tok rfl rfl rfl rfl ?_
    | refine t_pt tok rfl rfl rfl rfl ?_
    | refine t_agg tok rfl rfl rfl rfl ?_
    | refine t_tup tok rfl rfl rfl rfl ?_
    | refine t_fn tok rfl rfl rfl rfl ?_
    | refine AL.nil ?_
    | refine s_skip rfl rfl rfl ?_
    | refine s_cmpT rfl rfl rfl rfl rfl rfl rfl (by first | (simp only [cmpP]; omega) | exact rfl) ?_
    | refine s_cmpF rfl rfl rfl rfl rfl rfl rfl (by first | (simp only [cmpP]; omega) | exact rfl) ?_
    | refine s_arith rfl rfl rfl rfl rfl rfl rfl (by first | (exact IntWalk.i64_in _ (by omega)) | (exact IntWalk.u8_in _ (by omega))) ?_
    | refine s_callP rfl rfl rfl rfl rfl (hV) (SubL.of_eq rfl) ?_
    | refine a_condT rfl ?_
    | refine a_condF rfl ?_
    | refine a_skip ?_
    | refine a_exit ?_
    | refine a_ret ?_
    | refine a_block ?_)
    refine a_loop2 (fun (k : Nat) (v : Value) => [(0, AI n), (1, testsA l), (7, .lit v), (8, AI k)]) (fun k v => [(v, .row 26 5 ((redF n (l.take k)).map cT))]) (fun k _ => k ≤ l.length) (fun k _ => l.length - k) 0 (.slice none 0 0) (Nat.zero_le _) ?_ (.free .nil) ?_
    · repeat (first | exact subs_nil | refine subs_cons (Sub.of_eq rfl) ?_ | refine subs_cons (Sub.nil _) ?_)
    · intro k v hk
      rcases Nat.lt_or_ge k l.length with h | h
      · have hx := List.getElem?_eq_getElem h
        generalize l[k] = x at hx
        have hs := redF_take (n := n) hx
        have hlo := redF_length n (l.take k)
        rw [List.length_take] at hlo
        have xk : (l.map cT)[(k : Int).toNat]? = some (cT x) := map_get hx
        generalize redF n (l.take k) = out at *
        have lo : (out.map cT).length = out.length := by simp
        have him := refImplies_lend n out x v
        unfold redS at hs
        generalize impliesR n out x = R at *
        obtain ⟨b, e⟩ := R
        cases b with
        | true =>
          rw [if_pos rfl] at hs
          repeat (first
    | refine a_seq ?_
    | refine a_reg ?_
    | refine a_regP mixed (by decide +kernel) ?_
    | refine t_lit tok rfl rfl rfl rfl ?_
    | refine t_im tok rfl rfl rfl rfl ?_
    | refine t_ip tok rfl rfl rfl rfl ?_
    | refine t_pt tok rfl rfl rfl rfl ?_
    | refine t_agg tok rfl rfl rfl rfl ?_
    | refine t_tup tok rfl rfl rfl rfl ?_
    | refine t_fn tok rfl rfl rfl rfl ?_
    | refine AL.nil ?_
    | refine s_skip rfl rfl rfl ?_
    | refine s_cmpT rfl rfl rfl rfl rfl rfl rfl (by first | (simp only [cmpP]; omega) | exact rfl) ?_
    | refine s_cmpF rfl rfl rfl rfl rfl rfl rfl (by first | (simp only [cmpP]; omega) | exact rfl) ?_
    | refine s_arith rfl rfl rfl rfl rfl rfl rfl (by first | (exact IntWalk.i64_in _ (by omega)) | (exact IntWalk.u8_in _ (by omega))) ?_
    | refine s_index tok rfl rfl rfl rfl rfl rfl rfl rfl rfl (by omega) xk ?_
    | refine a_condT rfl ?_
    | refine a_condF rfl ?_
    | refine a_skip ?_
    | refine a_exit ?_
    | refine a_ret ?_
    | refine a_block ?_)
          refine s_callO 0 rfl rfl rfl rfl rfl rfl (him) (SubL.of_eq rfl) ?_
          rintro _ _ ⟨rfl, rfl⟩
          repeat (first
    | refine a_seq ?_
    | refine a_reg ?_
    | refine a_regP mixed (by decide +kernel) ?_
    | refine t_lit tok rfl rfl rfl rfl ?_
    | refine t_im tok rfl rfl rfl rfl ?_
    | refine t_ip tok rfl rfl rfl rfl ?_
    | refine t_pt tok rfl rfl rfl rfl ?_
    | refine t_agg tok rfl rfl rfl rfl ?_
    | refine t_tup tok rfl rfl rfl rfl ?_
    | refine t_fn tok rfl rfl rfl rfl ?_
    | refine AL.nil ?_
    | refine s_skip rfl rfl rfl ?_
    | refine s_cmpT rfl rfl rfl rfl rfl rfl rfl (by first | (simp only [cmpP]; omega) | exact rfl) ?_
    | refine s_cmpF rfl rfl rfl rfl rfl rfl rfl (by first | (simp only [cmpP]; omega) | exact rfl) ?_
    | refine s_arith rfl rfl rfl rfl rfl rfl rfl (by first | (exact IntWalk.i64_in _ (by omega)) | (exact IntWalk.u8_in _ (by omega))) ?_
    | refine a_condT rfl ?_
    | refine a_condF rfl ?_
    | refine a_skip ?_
    | refine a_exit ?_
    | refine a_ret ?_
    | refine a_block ?_)
          refine ⟨k + 1, v, by omega, by omega, ?_, ?_⟩
          · repeat (first | exact subs_nil | refine subs_cons (Sub.of_eq rfl) ?_ | refine subs_cons (Sub.nil _) ?_)
          · rw [hs]
            exact OSub.refl _
        | false =>
          rw [if_neg (by simp)] at hs
          repeat (first
    | refine a_seq ?_
    | refine a_reg ?_
    | refine a_regP mixed (by decide +kernel) ?_
    | refine t_lit tok rfl rfl rfl rfl ?_
    | refine t_im tok rfl rfl rfl rfl ?_
    | refine t_ip tok rfl rfl rfl rfl ?_
    | refine t_pt tok rfl rfl rfl rfl ?_
    | refine t_agg tok rfl rfl rfl rfl ?_
    | refine t_tup tok rfl rfl rfl rfl ?_
    | refine t_fn tok rfl rfl rfl rfl ?_
    | refine AL.nil ?_
    | refine s_skip rfl rfl rfl ?_
    | refine s_cmpT rfl rfl rfl rfl rfl rfl rfl (by first | (simp only [cmpP]; omega) | exact rfl) ?_
    | refine s_cmpF rfl rfl rfl rfl rfl rfl rfl (by first | (simp only [cmpP]; omega) | exact rfl) ?_
    | refine s_arith rfl rfl rfl rfl rfl rfl rfl (by first | (exact IntWalk.i64_in _ (by omega)) | (exact IntWalk.u8_in _ (by omega))) ?_
    | refine s_index tok rfl rfl rfl rfl rfl rfl rfl rfl rfl (by omega) xk ?_
    | refine a_condT rfl ?_
    | refine a_condF rfl ?_
    | refine a_skip ?_
    | refine a_exit ?_
    | refine a_ret ?_
    | refine a_block ?_)
          refine s_callO 0 rfl rfl rfl rfl rfl rfl (him) (SubL.of_eq rfl) ?_
          rintro _ _ ⟨rfl, rfl⟩
          repeat (first
    | refine a_seq ?_
    | refine a_reg ?_
    | refine a_regP mixed (by decide +kernel) ?_
    | refine t_lit tok rfl rfl rfl rfl ?_
    | refine t_im tok rfl rfl rfl rfl ?_
    | refine t_ip tok rfl rfl rfl rfl ?_
    | refine t_pt tok rfl rfl rfl rfl ?_
    | refine t_agg tok rfl rfl rfl rfl ?_
    | refine t_tup tok rfl rfl rfl rfl ?_
    | refine t_fn tok rfl rfl rfl rfl ?_
    | refine AL.nil ?_
    | refine s_skip rfl rfl rfl ?_
    | refine s_cmpT rfl rfl rfl rfl rfl rfl rfl (by first | (simp only [cmpP]; omega) | exact rfl) ?_
    | refine s_cmpF rfl rfl rfl rfl rfl rfl rfl (by first | (simp only [cmpP]; omega) | exact rfl) ?_
    | refine s_arith rfl rfl rfl rfl rfl rfl rfl (by first | (exact IntWalk.i64_in _ (by omega)) | (exact IntWalk.u8_in _ (by omega))) ?_
    | refine s_index tok rfl rfl rfl rfl rfl rfl rfl rfl rfl (by omega) xk ?_
    | refine a_condT rfl ?_
    | refine a_condF rfl ?_
    | refine a_skip ?_
    | refine a_exit ?_
    | refine a_ret ?_
    | refine a_block ?_)
          (first | refine s_build1 tok rfl rfl rfl rfl rfl rfl rfl rfl (fun u => ?_) | refine s_build1M tok rfl rfl rfl rfl rfl rfl rfl (fun u => ?_) | refine s_build1A tok rfl rfl rfl rfl rfl rfl rfl rfl (by decide) (fun u => ?_)); refine s_append1 tok 0 rfl rfl rfl rfl rfl rfl (by decide) rfl rfl rfl rfl (by omega) (by omega) (fun v' => ?_)
          repeat (first
    | refine a_seq ?_
    | refine a_reg ?_
    | refine a_regP mixed (by decide +kernel) ?_
    | refine t_lit tok rfl rfl rfl rfl ?_
    | refine t_im tok rfl rfl rfl rfl ?_
    | refine t_ip tok rfl rfl rfl rfl ?_
    | refine t_pt tok rfl rfl rfl rfl ?_
    | refine t_agg tok rfl rfl rfl rfl ?_
    | refine t_tup tok rfl rfl rfl rfl ?_
    | refine t_fn tok rfl rfl rfl rfl ?_
    | refine AL.nil ?_
    | refine s_skip rfl rfl rfl ?_
    | refine s_cmpT rfl rfl rfl rfl rfl rfl rfl (by first | (simp only [cmpP]; omega) | exact rfl) ?_
    | refine s_cmpF rfl rfl rfl rfl rfl rfl rfl (by first | (simp only [cmpP]; omega) | exact rfl) ?_
    | refine s_arith rfl rfl rfl rfl rfl rfl rfl (by first | (exact IntWalk.i64_in _ (by omega)) | (exact IntWalk.u8_in _ (by omega))) ?_
    | refine a_condT rfl ?_
    | refine a_condF rfl ?_
    | refine a_skip ?_
    | refine a_exit ?_
    | refine a_ret ?_
    | refine a_block ?_)
          refine ⟨k + 1, v', by omega, by omega, ?_, ?_⟩
          · repeat (first | exact subs_nil | refine subs_cons (Sub.of_eq rfl) ?_ | refine subs_cons (Sub.nil _) ?_)
          · rw [hs, List.map_append]
            exact OSub.refl _
      · obtain rfl : k = l.length := by omega
        rw [List.take_length]
        repeat (first
    | refine a_seq ?_
    | refine a_reg ?_
    | refine a_regP mixed (by decide +kernel) ?_
    | refine t_lit tok rfl rfl rfl rfl ?_
    | refine t_im tok rfl rfl rfl rfl ?_
    | refine t_ip tok rfl rfl rfl rfl ?_
    | refine t_pt tok rfl rfl rfl rfl ?_
    | refine t_agg tok rfl rfl rfl rfl ?_
    | refine t_tup tok rfl rfl rfl rfl ?_
    | refine t_fn tok rfl rfl rfl rfl ?_
    | refine AL.nil ?_
    | refine s_skip rfl rfl rfl ?_
    | refine s_cmpT rfl rfl rfl rfl rfl rfl rfl (by first | (simp only [cmpP]; omega) | exact rfl) ?_
    | refine s_cmpF rfl rfl rfl rfl rfl rfl rfl (by first | (simp only [cmpP]; omega) | exact rfl) ?_
    | refine s_arith rfl rfl rfl rfl rfl rfl rfl (by first | (exact IntWalk.i64_in _ (by omega)) | (exact IntWalk.u8_in _ (by omega))) ?_
    | refine a_condT rfl ?_
    | refine a_condF rfl ?_
    | refine a_skip ?_
    | refine a_exit ?_
    | refine a_ret ?_
    | refine a_block ?_)
        exact finF 0 (x := .tup [.lit _, .lit _]) (.inr rfl) rfl rfl (FZ.tup (m := [testsA (redF n l), _]) ⟨FZ.here, FZ.refl _, trivial⟩) ⟨rfl, rfl⟩
  · rw [show reduceR n l = ([], validT n l) by simp only [reduceR, if_pos h0]]
    generalize validT n l = e at *
    refine a_enter Try.func21 (by kernel_rfl) rfl Try.ntmps21 rfl (by simp) ?_
    repeat (first
    | refine a_seq ?_
    | refine a_reg ?_
    | refine a_regP mixed (by decide +kernel) ?_
    | refine t_lit tok rfl rfl rfl rfl ?_
    | refine t_im tok rfl rfl rfl rfl ?_
    | refine t_ip tok rfl rfl rfl rfl ?_
    | refine t_pt tok rfl rfl rfl rfl ?_
    | refine t_agg tok rfl rfl rfl rfl ?_
    | refine t_tup tok rfl rfl rfl rfl ?_
    | refine t_fn tok rfl rfl rfl rfl ?_
    | refine AL.nil ?_
    | refine s_skip rfl rfl rfl ?_
    | refine s_cmpT rfl rfl rfl rfl rfl rfl rfl (by first | (simp only [cmpP]; omega) | exact rfl) ?_
    | refine s_cmpF rfl rfl rfl rfl rfl rfl rfl (by first | (simp only [cmpP]; omega) | exact rfl) ?_
    | refine s_arith rfl rfl rfl rfl rfl rfl rfl (by first | (exact IntWalk.i64_in _ (by omega)) | (exact IntWalk.u8_in _ (by omega))) ?_
    | refine s_callP rfl rfl rfl rfl rfl (hV) (SubL.of_eq rfl) ?_
    | refine a_condT rfl ?_
    | refine a_condF rfl ?_
    | refine a_skip ?_
    | refine a_exit ?_
    | refine a_ret ?_
    | refine a_block ?_)
    refine fin (x := .tup [.lit _, .lit _]) (.inr rfl) rfl ?_ ⟨rfl, rfl⟩ (OSub.refl _)
    exact Sub.tup ⟨nil5, Sub.refl _, trivial⟩

theorem DifferenceReduce_spec (n : Int) (l : List Tst) : Pure Try.prog 6 [AI n, testsA l] (AB true) := by
  have ll : (l.map cT).length = l.length := by simp
  by_cases h : 45 < l.length
  · refine a_enter Try.func6 (by kernel_rfl) rfl Try.ntmps6 rfl (by simp) ?_
    repeat (first
    | refine a_seq ?_
    | refine a_reg ?_
    | refine a_regP mixed (by decide +kernel) ?_
    | refine t_lit tok rfl rfl rfl rfl ?_
    | refine t_im tok rfl rfl rfl rfl ?_
    | refine t_ip tok rfl rfl rfl rfl ?_
    | refine t_pt tok rfl rfl rfl rfl ?_
    | refine t_agg tok rfl rfl rfl rfl ?_
    | refine t_tup tok rfl rfl rfl rfl ?_
    | refine t_fn tok rfl rfl rfl rfl ?_
    | refine AL.nil ?_
    | refine s_skip rfl rfl rfl ?_
    | refine s_cmpT rfl rfl rfl rfl rfl rfl rfl (by first | (simp only [cmpP]; omega) | exact rfl) ?_
    | refine s_cmpF rfl rfl rfl rfl rfl rfl rfl (by first | (simp only [cmpP]; omega) | exact rfl) ?_
    | refine s_arith rfl rfl rfl rfl rfl rfl rfl (by first | (exact IntWalk.i64_in _ (by omega)) | (exact IntWalk.u8_in _ (by omega))) ?_
    | refine s_callP rfl rfl rfl rfl rfl (awake_spec) (SubL.of_eq rfl) ?_
    | refine a_condT rfl ?_
    | refine a_condF rfl ?_
    | refine a_skip ?_
    | refine a_exit ?_
    | refine a_ret ?_
    | refine a_block ?_)
    first | refine fin (x := .lit _) (.inr rfl) rfl (Sub.refl _) ?_ (OSub.none _) | refine fin (x := .im _ _) (.inr rfl) rfl (Sub.refl _) ?_ (OSub.none _) | refine fin (x := .tup [.lit _, .lit _]) (.inr rfl) rfl (Sub.refl _) ?_ (OSub.none _) | refine fin (x := .tup [.im _ _, .lit _]) (.inr rfl) rfl (Sub.refl _) ?_ (OSub.none _) | refine fin (x := .tup [.lit _, .lit _, .lit _]) (.inr rfl) rfl (Sub.refl _) ?_ (OSub.none _) | refine fin (x := .agg _) (.inr rfl) rfl (Sub.refl _) ?_ (OSub.none _)
    exact ⟨rfl, rfl⟩
  · have s1 := (CloneT_spec l (by omega)).pure
    have s2 := Reduce_spec n l
    have s3 := refReduce_spec n l
    have hR : (reduceR n l).1.length ≤ l.length := by
      unfold reduceR
      split
      · simp
      · exact redF_length n l
    have s4 := SameTests_same (reduceR n l).1 (by omega)
    by_cases h0 : validT n l = 0
    · have hall := reduce_all h0
      rw [show reduceR n l = (redF n l, 0) by simp only [reduceR, h0, ne_eq, not_true_eq_false, if_false]] at s2 s3 s4
      simp only at s2 s3 s4
      generalize redF n l = A at *
      refine a_enter Try.func6 (by kernel_rfl) rfl Try.ntmps6 rfl (by simp) ?_
      repeat (first
    | refine a_seq ?_
    | refine a_reg ?_
    | refine a_regP mixed (by decide +kernel) ?_
    | refine t_lit tok rfl rfl rfl rfl ?_
    | refine t_im tok rfl rfl rfl rfl ?_
    | refine t_ip tok rfl rfl rfl rfl ?_
    | refine t_pt tok rfl rfl rfl rfl ?_
    | refine t_agg tok rfl rfl rfl rfl ?_
    | refine t_tup tok rfl rfl rfl rfl ?_
    | refine t_fn tok rfl rfl rfl rfl ?_
    | refine AL.nil ?_
    | refine s_skip rfl rfl rfl ?_
    | refine s_cmpT rfl rfl rfl rfl rfl rfl rfl (by first | (simp only [cmpP]; omega) | exact rfl) ?_
    | refine s_cmpF rfl rfl rfl rfl rfl rfl rfl (by first | (simp only [cmpP]; omega) | exact rfl) ?_
    | refine s_arith rfl rfl rfl rfl rfl rfl rfl (by first | (exact IntWalk.i64_in _ (by omega)) | (exact IntWalk.u8_in _ (by omega))) ?_
    | refine s_callP rfl rfl rfl rfl rfl (awake_spec) (SubL.of_eq rfl) ?_
    | refine s_callP rfl rfl rfl rfl rfl (s1) (SubL.of_eq rfl) ?_
    | refine s_callP rfl rfl rfl rfl rfl (s2) (SubL.of_eq rfl) ?_
    | refine s_callP rfl rfl rfl rfl rfl (s3) (SubL.of_eq rfl) ?_
    | refine s_callP rfl rfl rfl rfl rfl (s4) (SubL.of_eq rfl) ?_
    | refine a_condT rfl ?_
    | refine a_condF rfl ?_
    | refine a_skip ?_
    | refine a_exit ?_
    | refine a_ret ?_
    | refine a_block ?_)
      rw [ll]
      refine a_loopX (fun k : Nat => [(0, AI n), (5, testsA A), (55, testsA l), (56, AI l.length), (57, AI k)]) (fun _ => []) (fun k => k ≤ l.length) (fun k => l.length - k) 0 (Nat.zero_le _) ?_ (OSub.refl _) ?_
      · repeat (first | exact subs_nil | refine subs_cons (Sub.of_eq rfl) ?_ | refine subs_cons (Sub.nil _) ?_)
      · intro k hk
        rcases Nat.lt_or_ge k l.length with h | h
        · have hx := List.getElem?_eq_getElem h
          have s6 := Implies_spec n A l[k]
          rw [hall _ (List.getElem_mem h)] at s6
          simp only at s6
          generalize l[k] = x at *
          have xk : (l.map cT)[(k : Int).toNat]? = some (cT x) := map_get hx
          repeat (first
    | refine a_seq ?_
    | refine a_reg ?_
    | refine a_regP mixed (by decide +kernel) ?_
    | refine t_lit tok rfl rfl rfl rfl ?_
    | refine t_im tok rfl rfl rfl rfl ?_
    | refine t_ip tok rfl rfl rfl rfl ?_
    | refine t_pt tok rfl rfl rfl rfl ?_
    | refine t_agg tok rfl rfl rfl rfl ?_
    | refine t_tup tok rfl rfl rfl rfl ?_
    | refine t_fn tok rfl rfl rfl rfl ?_
    | refine AL.nil ?_
    | refine s_skip rfl rfl rfl ?_
    | refine s_cmpT rfl rfl rfl rfl rfl rfl rfl (by first | (simp only [cmpP]; omega) | exact rfl) ?_
    | refine s_cmpF rfl rfl rfl rfl rfl rfl rfl (by first | (simp only [cmpP]; omega) | exact rfl) ?_
    | refine s_arith rfl rfl rfl rfl rfl rfl rfl (by first | (exact IntWalk.i64_in _ (by omega)) | (exact IntWalk.u8_in _ (by omega))) ?_
    | refine s_alloc tok rfl rfl rfl rfl rfl (fun u => ?_)
    | refine s_store tok 0 rfl rfl rfl rfl rfl rfl rfl rfl (by decide) rfl rfl rfl (Nat.le_refl _) ?_
    | refine s_index tok rfl rfl rfl rfl rfl rfl rfl rfl rfl (by omega) xk ?_
    | refine s_ownLoad tok 0 rfl rfl rfl rfl (by decide) rfl rfl rfl rfl rfl rfl (List.cons_ne_nil _ _) ?_
    | refine s_callP rfl rfl rfl rfl rfl (s6) (SubL.of_eq rfl) ?_
    | refine a_condT rfl ?_
    | refine a_condF rfl ?_
    | refine a_skip ?_
    | refine a_exit ?_
    | refine a_ret ?_
    | refine a_block ?_)
          refine ⟨k + 1, by omega, by omega, ?_, OSub.none _⟩
          repeat (first | exact subs_nil | refine subs_cons (Sub.of_eq rfl) ?_ | refine subs_cons (Sub.nil _) ?_)
        · repeat (first
    | refine a_seq ?_
    | refine a_reg ?_
    | refine a_regP mixed (by decide +kernel) ?_
    | refine t_lit tok rfl rfl rfl rfl ?_
    | refine t_im tok rfl rfl rfl rfl ?_
    | refine t_ip tok rfl rfl rfl rfl ?_
    | refine t_pt tok rfl rfl rfl rfl ?_
    | refine t_agg tok rfl rfl rfl rfl ?_
    | refine t_tup tok rfl rfl rfl rfl ?_
    | refine t_fn tok rfl rfl rfl rfl ?_
    | refine AL.nil ?_
    | refine s_skip rfl rfl rfl ?_
    | refine s_cmpT rfl rfl rfl rfl rfl rfl rfl (by first | (simp only [cmpP]; omega) | exact rfl) ?_
    | refine s_cmpF rfl rfl rfl rfl rfl rfl rfl (by first | (simp only [cmpP]; omega) | exact rfl) ?_
    | refine s_arith rfl rfl rfl rfl rfl rfl rfl (by first | (exact IntWalk.i64_in _ (by omega)) | (exact IntWalk.u8_in _ (by omega))) ?_
    | refine a_condT rfl ?_
    | refine a_condF rfl ?_
    | refine a_skip ?_
    | refine a_exit ?_
    | refine a_ret ?_
    | refine a_block ?_)
          first | refine fin (x := .lit _) (.inr rfl) rfl (Sub.refl _) ?_ (OSub.refl _) | refine fin (x := .im _ _) (.inr rfl) rfl (Sub.refl _) ?_ (OSub.refl _) | refine fin (x := .tup [.lit _, .lit _]) (.inr rfl) rfl (Sub.refl _) ?_ (OSub.refl _) | refine fin (x := .tup [.im _ _, .lit _]) (.inr rfl) rfl (Sub.refl _) ?_ (OSub.refl _) | refine fin (x := .tup [.lit _, .lit _, .lit _]) (.inr rfl) rfl (Sub.refl _) ?_ (OSub.refl _) | refine fin (x := .agg _) (.inr rfl) rfl (Sub.refl _) ?_ (OSub.refl _)
          exact ⟨rfl, rfl⟩
    · rw [show reduceR n l = ([], validT n l) by simp only [reduceR, if_pos h0]] at s2 s3 s4
      simp only at s2 s3 s4
      generalize validT n l = e at *
      refine a_enter Try.func6 (by kernel_rfl) rfl Try.ntmps6 rfl (by simp) ?_
      repeat (first
    | refine a_seq ?_
    | refine a_reg ?_
    | refine a_regP mixed (by decide +kernel) ?_
    | refine t_lit tok rfl rfl rfl rfl ?_
    | refine t_im tok rfl rfl rfl rfl ?_
    | refine t_ip tok rfl rfl rfl rfl ?_
    | refine t_pt tok rfl rfl rfl rfl ?_
    | refine t_agg tok rfl rfl rfl rfl ?_
    | refine t_tup tok rfl rfl rfl rfl ?_
    | refine t_fn tok rfl rfl rfl rfl ?_
    | refine AL.nil ?_
    | refine s_skip rfl rfl rfl ?_
    | refine s_cmpT rfl rfl rfl rfl rfl rfl rfl (by first | (simp only [cmpP]; omega) | exact rfl) ?_
    | refine s_cmpF rfl rfl rfl rfl rfl rfl rfl (by first | (simp only [cmpP]; omega) | exact rfl) ?_
    | refine s_arith rfl rfl rfl rfl rfl rfl rfl (by first | (exact IntWalk.i64_in _ (by omega)) | (exact IntWalk.u8_in _ (by omega))) ?_
    | refine s_callP rfl rfl rfl rfl rfl (awake_spec) (SubL.of_eq rfl) ?_
    | refine s_callP rfl rfl rfl rfl rfl (s1) (SubL.of_eq rfl) ?_
    | refine s_callP rfl rfl rfl rfl rfl (s2) (SubL.of_eq rfl) ?_
    | refine s_callP rfl rfl rfl rfl rfl (s3) (SubL.of_eq rfl) ?_
    | refine s_callP rfl rfl rfl rfl rfl (s4) (SubL.of_eq rfl) ?_
    | refine a_condT rfl ?_
    | refine a_condF rfl ?_
    | refine a_skip ?_
    | refine a_exit ?_
    | refine a_ret ?_
    | refine a_block ?_)
      first | refine fin (x := .lit _) (.inr rfl) rfl (Sub.refl _) ?_ (OSub.none _) | refine fin (x := .im _ _) (.inr rfl) rfl (Sub.refl _) ?_ (OSub.none _) | refine fin (x := .tup [.lit _, .lit _]) (.inr rfl) rfl (Sub.refl _) ?_ (OSub.none _) | refine fin (x := .tup [.im _ _, .lit _]) (.inr rfl) rfl (Sub.refl _) ?_ (OSub.none _) | refine fin (x := .tup [.lit _, .lit _, .lit _]) (.inr rfl) rfl (Sub.refl _) ?_ (OSub.none _) | refine fin (x := .agg _) (.inr rfl) rfl (Sub.refl _) ?_ (OSub.none _)
      exact ⟨rfl, rfl⟩
end Go.Proofs.Ytniboaekigoheaa
