/-
  The laws on one change of a statistic: the walks.
-/
import Derived.Test.YtcacbdohlfljfaaGreatSjQ8
import Derived.Test.YtcacbdohlfljfaaGreatZ14
import Derived.Test.YtcacbdohlfljfaaGreatZ12a
import Derived.Test.YtcacbdohlfljfaaGreatZ12b
import Derived.Test.YtcacbdohlfljfaaGreatSjQ7
namespace Go.Proofs.YtcacbdohlfljfaaGreat
open Go.Sj Go.Sj.Typ Go.Sj.Sta
set_option linter.unusedVariables false
set_option linter.unusedSimpArgs false
set_option maxHeartbeats 16000000

theorem StatisticNode_spec (t : Tys) (ht : OkT t) (s : Sta) (hs1 : OkS s) (a b c d : Int) : Pure Tryz.prog 7 [tysA t, staA s, .agg [AI a, AI b, AI c, AI d]] (AB true) := by
  have hf := Few_spec t ht
  have hw := awakeS_spec
  have f1 := sfew_spec s
  refine a_enter Tryz.func7 (by kernel_rfl) rfl Tryz.ntmps7 rfl (by simp) ?_
  refine a_seq ?_
  refine a_reg ?_
  repeat (first | refine a_seq ?_ | refine tL tok ?_ | refine tI tok ?_ | refine tP tok ?_ | refine tQ tok ?_ | refine tA tok ?_ | refine tU tok ?_ | refine tF tok ?_ | refine AL.nil ?_ | refine s_skip rfl rfl rfl ?_ | refine cT rfl rfl rfl rfl rfl rfl rfl ?_ | refine cF rfl rfl rfl rfl rfl rfl rfl ?_ | refine cA rfl rfl rfl rfl rfl rfl rfl ?_ | refine s_box rfl rfl rfl rfl rfl rfl (fun u => ?_) | refine a_condT rfl ?_ | refine a_condF rfl ?_ | refine a_skip ?_ | refine a_exit ?_ | refine a_ret ?_ | refine a_block ?_)
  refine a_frzBox 0 5 rfl rfl ?_
  refine a_frzBox 0 4 rfl rfl ?_
  refine a_frzBox 0 3 rfl rfl ?_
  repeat (first | refine a_seq ?_ | refine a_reg ?_ | refine a_regP mixed (by decide +kernel) ?_ | refine tL tok ?_ | refine tI tok ?_ | refine tP tok ?_ | refine tQ tok ?_ | refine tA tok ?_ | refine tU tok ?_ | refine tF tok ?_ | refine AL.nil ?_ | refine s_skip rfl rfl rfl ?_ | refine cT rfl rfl rfl rfl rfl rfl rfl ?_ | refine cF rfl rfl rfl rfl rfl rfl rfl ?_ | refine cA rfl rfl rfl rfl rfl rfl rfl ?_ | refine s_callP rfl rfl rfl rfl rfl (hw) (SubL.of_eq rfl) ?_ | refine a_condT rfl ?_ | refine a_condF rfl ?_ | refine a_skip ?_ | refine a_exit ?_ | refine a_ret ?_ | refine a_block ?_)
  (refine s_call (Lc := []) rfl rfl rfl rfl rfl (hf) (SubL.of_eq rfl) (List.Perm.refl _) ?_; rintro _ _ ⟨⟨q, rfl, hs⟩, rfl⟩)
  cases q with
  | false =>
    repeat (first | refine a_seq ?_ | refine a_reg ?_ | refine a_regP mixed (by decide +kernel) ?_ | refine tL tok ?_ | refine tI tok ?_ | refine tP tok ?_ | refine tQ tok ?_ | refine tA tok ?_ | refine tU tok ?_ | refine tF tok ?_ | refine AL.nil ?_ | refine s_skip rfl rfl rfl ?_ | refine cT rfl rfl rfl rfl rfl rfl rfl ?_ | refine cF rfl rfl rfl rfl rfl rfl rfl ?_ | refine cA rfl rfl rfl rfl rfl rfl rfl ?_ | refine s_callP rfl rfl rfl rfl rfl (hw) (SubL.of_eq rfl) ?_ | refine a_condT rfl ?_ | refine a_condF rfl ?_ | refine a_skip ?_ | refine a_exit ?_ | refine a_ret ?_ | refine a_block ?_)
    first | refine zL rfl ?_ | refine zI rfl ?_ | refine zT rfl ?_ | refine zU rfl ?_ | refine zV rfl ?_ | refine zA rfl ?_
    exact ⟨rfl, rfl⟩
  | true =>
    by_cases h1 : s.nodes.length ≤ 45 ∧ s.edges.length ≤ 85
    · rw [decide_eq_true h1] at f1
      have hsm := hs rfl
      have s1 := refCopied_spec s (by omega) (by omega)
      have s2 := Node18_spec t hsm s ⟨by omega, by omega⟩ a d
      have s3 := refNode18_spec t hsm s ⟨by omega, by omega⟩ a d
      by_cases he : nodeE' t s a d = 0
      · have hN := nodeE_zero'.1 he
        have hR := nodeR_kk hN
        have hB := node_back hN
        have hSV := node_next hN
        have hd := hN.sg
        obtain ⟨S, hS⟩ : ∃ S : Sta, ⟨addC s.nodes ⟨a, 0, 0, d⟩, s.edges⟩ = S := ⟨_, rfl⟩
        rw [hS] at hR hB hSV
        have hl : S.nodes.length ≤ 1000 ∧ S.edges.length ≤ 1000 := by
          have h1 := len_tot hSV.nodes.pos
          have h2 := hSV.ntot
          have h3 := len_tot hSV.edges.pos
          have h4 := hSV.etot
          omega
        have s4 := Node18_spec t hsm S hl a (-d)
        rw [hB] at s4
        rw [hR] at s2 s3
        have s5 := refSame_spec S S (okS_of hl) (okS_of hl)
        rw [same_self] at s5
        have s6 := refSame_spec s s hs1 hs1
        rw [same_self] at s6
        repeat (first | refine a_seq ?_ | refine a_reg ?_ | refine tL tok ?_ | refine tI tok ?_ | refine tP tok ?_ | refine tQ tok ?_ | refine tA tok ?_ | refine tU tok ?_ | refine tF tok ?_ | refine AL.nil ?_ | refine s_skip rfl rfl rfl ?_ | refine cT rfl rfl rfl rfl rfl rfl rfl ?_ | refine cF rfl rfl rfl rfl rfl rfl rfl ?_ | refine cA rfl rfl rfl rfl rfl rfl rfl ?_ | refine s_callP rfl rfl rfl rfl rfl (f1) (SubL.of_eq rfl) ?_ | refine a_condT rfl ?_ | refine a_condF rfl ?_ | refine a_skip ?_ | refine a_exit ?_ | refine a_ret ?_ | refine a_block ?_)
        refine a_regXP [0, 1, 3, 4, 5, 6] (.nd [2] (.nd [7, 8, 9, 10, 11, 12, 13] .stop (.nd [11, 7, 8, 9, 10, 12, 13] .stop .stop)) (.nd [11, 2, 7, 8, 9, 10, 12, 13] .stop .stop)) mixed rfl rfl (by decide +kernel) ?_
        repeat' (first | exact ax_none | refine ax_stop ?_ | refine ax_nd ?_ ?_ | refine tL tok ?_ | refine tI tok ?_ | refine tP tok ?_ | refine tQ tok ?_ | refine tA tok ?_ | refine tU tok ?_ | refine tF tok ?_ | refine AL.nil ?_ | refine s_skip rfl rfl rfl ?_ | refine cT rfl rfl rfl rfl rfl rfl rfl ?_ | refine cF rfl rfl rfl rfl rfl rfl rfl ?_ | refine cA rfl rfl rfl rfl rfl rfl rfl ?_ | refine s_callP rfl rfl rfl rfl rfl (s1) (SubL.of_eq rfl) ?_ | refine s_callP rfl rfl rfl rfl rfl (s2) (SubL.of_eq rfl) ?_ | refine s_alloc tok rfl rfl rfl rfl rfl (fun u => ?_) | refine s_store tok 0 rfl rfl rfl rfl rfl rfl rfl rfl (by decide) rfl rfl rfl (Nat.le_of_ble_eq_true rfl) ?_)
        all_goals
          repeat (first | refine a_seq ?_ | refine a_reg ?_ | refine a_regP mixed (by decide +kernel) ?_ | refine tL tok ?_ | refine tI tok ?_ | refine tP tok ?_ | refine tQ tok ?_ | refine tA tok ?_ | refine tU tok ?_ | refine tF tok ?_ | refine AL.nil ?_ | refine s_skip rfl rfl rfl ?_ | refine cT rfl rfl rfl rfl rfl rfl rfl ?_ | refine cF rfl rfl rfl rfl rfl rfl rfl ?_ | refine cA rfl rfl rfl rfl rfl rfl rfl ?_ | refine s_callP rfl rfl rfl rfl rfl (s3) (SubL.of_eq rfl) ?_ | refine s_callP rfl rfl rfl rfl rfl (s4) (SubL.of_eq rfl) ?_ | refine s_callP rfl rfl rfl rfl rfl (s5) (SubL.of_eq rfl) ?_ | refine s_callP rfl rfl rfl rfl rfl (s6) (SubL.of_eq rfl) ?_ | refine s_neg rfl rfl rfl rfl rfl (by exact IntWalk.i64_in _ (by omega)) ?_ | refine s_alloc tok rfl rfl rfl rfl rfl (fun u => ?_) | refine s_store tok 0 rfl rfl rfl rfl rfl rfl rfl rfl (by decide) rfl rfl rfl (Nat.le_of_ble_eq_true rfl) ?_ | refine s_ownLoad tok 0 rfl rfl rfl rfl (by decide) rfl rfl rfl rfl rfl rfl (List.cons_ne_nil _ _) ?_ | refine s_ownLoad tok 1 rfl rfl rfl rfl (by decide) rfl rfl rfl rfl rfl rfl (List.cons_ne_nil _ _) ?_ | refine s_ownLoad tok 2 rfl rfl rfl rfl (by decide) rfl rfl rfl rfl rfl rfl (List.cons_ne_nil _ _) ?_ | refine a_condT rfl ?_ | refine a_condF rfl ?_ | refine a_skip ?_ | refine a_exit ?_ | refine a_ret ?_ | refine a_block ?_)
          first | refine zL rfl ?_ | refine zI rfl ?_ | refine zT rfl ?_ | refine zU rfl ?_ | refine zV rfl ?_ | refine zA rfl ?_
          exact ⟨rfl, rfl⟩
      · have hR := nodeR_er rfl he
        generalize nodeE' t s a d = e at *
        rw [hR] at s2 s3
        have s5 := refSame_spec ⟨[], []⟩ ⟨[], []⟩ (okS_of ⟨Nat.zero_le _, Nat.zero_le _⟩) (okS_of ⟨Nat.zero_le _, Nat.zero_le _⟩)
        rw [same_self] at s5
        obtain ⟨S, hS⟩ : ∃ S : Sta, (⟨[], []⟩ : Sta) = S := ⟨_, rfl⟩
        rw [hS] at s2 s3 s5
        repeat (first | refine a_seq ?_ | refine a_reg ?_ | refine tL tok ?_ | refine tI tok ?_ | refine tP tok ?_ | refine tQ tok ?_ | refine tA tok ?_ | refine tU tok ?_ | refine tF tok ?_ | refine AL.nil ?_ | refine s_skip rfl rfl rfl ?_ | refine cT rfl rfl rfl rfl rfl rfl rfl ?_ | refine cF rfl rfl rfl rfl rfl rfl rfl ?_ | refine cA rfl rfl rfl rfl rfl rfl rfl ?_ | refine s_callP rfl rfl rfl rfl rfl (f1) (SubL.of_eq rfl) ?_ | refine a_condT rfl ?_ | refine a_condF rfl ?_ | refine a_skip ?_ | refine a_exit ?_ | refine a_ret ?_ | refine a_block ?_)
        refine a_regXP [0, 1, 3, 4, 5, 6] (.nd [2] (.nd [7, 8, 9, 10, 11, 12, 13] .stop (.nd [11, 7, 8, 9, 10, 12, 13] .stop .stop)) (.nd [11, 2, 7, 8, 9, 10, 12, 13] .stop .stop)) mixed rfl rfl (by decide +kernel) ?_
        repeat' (first | exact ax_none | refine ax_stop ?_ | refine ax_nd ?_ ?_ | refine tL tok ?_ | refine tI tok ?_ | refine tP tok ?_ | refine tQ tok ?_ | refine tA tok ?_ | refine tU tok ?_ | refine tF tok ?_ | refine AL.nil ?_ | refine s_skip rfl rfl rfl ?_ | refine cT rfl rfl rfl rfl rfl rfl rfl ?_ | refine cF rfl rfl rfl rfl rfl rfl rfl ?_ | refine cA rfl rfl rfl rfl rfl rfl rfl ?_ | refine s_callP rfl rfl rfl rfl rfl (s1) (SubL.of_eq rfl) ?_ | refine s_callP rfl rfl rfl rfl rfl (s2) (SubL.of_eq rfl) ?_ | refine s_alloc tok rfl rfl rfl rfl rfl (fun u => ?_) | refine s_store tok 0 rfl rfl rfl rfl rfl rfl rfl rfl (by decide) rfl rfl rfl (Nat.le_of_ble_eq_true rfl) ?_)
        all_goals
          repeat (first | refine a_seq ?_ | refine a_reg ?_ | refine a_regP mixed (by decide +kernel) ?_ | refine tL tok ?_ | refine tI tok ?_ | refine tP tok ?_ | refine tQ tok ?_ | refine tA tok ?_ | refine tU tok ?_ | refine tF tok ?_ | refine AL.nil ?_ | refine s_skip rfl rfl rfl ?_ | refine cT rfl rfl rfl rfl rfl rfl rfl ?_ | refine cF rfl rfl rfl rfl rfl rfl rfl ?_ | refine cA rfl rfl rfl rfl rfl rfl rfl ?_ | refine s_callP rfl rfl rfl rfl rfl (s3) (SubL.of_eq rfl) ?_ | refine s_callP rfl rfl rfl rfl rfl (s5) (SubL.of_eq rfl) ?_ | refine s_alloc tok rfl rfl rfl rfl rfl (fun u => ?_) | refine s_store tok 0 rfl rfl rfl rfl rfl rfl rfl rfl (by decide) rfl rfl rfl (Nat.le_of_ble_eq_true rfl) ?_ | refine s_ownLoad tok 0 rfl rfl rfl rfl (by decide) rfl rfl rfl rfl rfl rfl (List.cons_ne_nil _ _) ?_ | refine s_ownLoad tok 1 rfl rfl rfl rfl (by decide) rfl rfl rfl rfl rfl rfl (List.cons_ne_nil _ _) ?_ | refine a_condT rfl ?_ | refine a_condF rfl ?_ | refine a_skip ?_ | refine a_exit ?_ | refine a_ret ?_ | refine a_block ?_)
          first | refine zL rfl ?_ | refine zI rfl ?_ | refine zT rfl ?_ | refine zU rfl ?_ | refine zV rfl ?_ | refine zA rfl ?_
          exact ⟨rfl, rfl⟩
    · rw [decide_eq_false h1] at f1
      repeat (first | refine a_seq ?_ | refine a_reg ?_ | refine a_regP mixed (by decide +kernel) ?_ | refine tL tok ?_ | refine tI tok ?_ | refine tP tok ?_ | refine tQ tok ?_ | refine tA tok ?_ | refine tU tok ?_ | refine tF tok ?_ | refine AL.nil ?_ | refine s_skip rfl rfl rfl ?_ | refine cT rfl rfl rfl rfl rfl rfl rfl ?_ | refine cF rfl rfl rfl rfl rfl rfl rfl ?_ | refine cA rfl rfl rfl rfl rfl rfl rfl ?_ | refine s_callP rfl rfl rfl rfl rfl (f1) (SubL.of_eq rfl) ?_ | refine s_callP rfl rfl rfl rfl rfl (hw) (SubL.of_eq rfl) ?_ | refine a_condT rfl ?_ | refine a_condF rfl ?_ | refine a_skip ?_ | refine a_exit ?_ | refine a_ret ?_ | refine a_block ?_)
      first | refine zL rfl ?_ | refine zI rfl ?_ | refine zT rfl ?_ | refine zU rfl ?_ | refine zV rfl ?_ | refine zA rfl ?_
      exact ⟨rfl, rfl⟩
end Go.Proofs.YtcacbdohlfljfaaGreat
