/-
  The laws on one change of a statistic: the walks.
-/
import Derived.Test.YtcacbdohlfljfaaGreatSjQ8
import Derived.Test.YtcacbdohlfljfaaGreatZ14
import Derived.Test.YtcacbdohlfljfaaGreatZ12c
import Derived.Test.YtcacbdohlfljfaaGreatZ12d
import Derived.Test.YtcacbdohlfljfaaGreatSjQ7
namespace Go.Proofs.YtcacbdohlfljfaaGreat
open Go.Sj Go.Sj.Typ Go.Sj.Sta
set_option linter.unusedVariables false
set_option linter.unusedSimpArgs false
set_option maxHeartbeats 16000000

theorem StatisticEdge_spec (t : Tys) (ht : OkT t) (s : Sta) (hs1 : OkS s) (a b c d : Int) : Pure Tryz.prog 6 [tysA t, staA s, .agg [AI a, AI b, AI c, AI d]] (AB true) := by
  have hf := Few_spec t ht
  have hw := awakeS_spec
  have f1 := sfew_spec s
  refine a_enter Tryz.func6 (by kernel_rfl) rfl Tryz.ntmps6 rfl (by simp) ?_
  refine a_seq ?_
  refine a_reg ?_
  repeat (first | refine gZ pk ?_ | (show AL _ _ _ _ _ _ _; first | refine jB (fun u => ?_)))
  refine a_frzBox 0 5 rfl rfl ?_
  refine a_frzBox 0 4 rfl rfl ?_
  refine a_frzBox 0 3 rfl rfl ?_
  repeat (first | refine gA pk ?_ | (show AL _ _ _ _ _ _ _; first | refine jP hw ?_))
  (refine s_call (Lc := []) rfl rfl rfl rfl rfl (hf) (SubL.of_eq rfl) (List.Perm.refl _) ?_; rintro _ _ ⟨⟨q, rfl, hs⟩, rfl⟩)
  cases q with
  | false =>
    repeat (first | refine gA pk ?_ | (show AL _ _ _ _ _ _ _; first | refine jP hw ?_))
    refine finQ ?_
    exact ⟨rfl, rfl⟩
  | true =>
    by_cases h1 : s.nodes.length ≤ 45 ∧ s.edges.length ≤ 85
    · rw [decide_eq_true h1] at f1
      have hsm := hs rfl
      have s1 := refCopied_spec s (by omega) (by omega)
      have s2 := Edge18_spec t hsm s ⟨by omega, by omega⟩ a b c d
      have s3 := refEdge18_spec t hsm s ⟨by omega, by omega⟩ a b c d
      by_cases he : edgeE' t s a b c d = 0
      · have hN := edgeE_zero'.1 he
        have hR := edgeR_kk hN
        have hB := edge_back hN
        have hSV := edge_next hN
        have hd := hN.sg
        obtain ⟨S, hS⟩ : ∃ S : Sta, ⟨s.nodes, addC s.edges ⟨a, b, c, d⟩⟩ = S := ⟨_, rfl⟩
        rw [hS] at hR hB hSV
        have hl : S.nodes.length ≤ 1000 ∧ S.edges.length ≤ 1000 := by
          have h1 := len_tot hSV.nodes.pos
          have h2 := hSV.ntot
          have h3 := len_tot hSV.edges.pos
          have h4 := hSV.etot
          omega
        have s4 := Edge18_spec t hsm S hl a b c (-d)
        rw [hB] at s4
        rw [hR] at s2 s3
        have s5 := refSame_spec S S (okS_of hl) (okS_of hl)
        rw [same_self] at s5
        have s6 := refSame_spec s s hs1 hs1
        rw [same_self] at s6
        repeat (first | refine gN pk ?_ | (show AL _ _ _ _ _ _ _; first | refine jP f1 ?_))
        refine a_regXP [0, 1, 3, 4, 5, 6, 7, 8, 9, 10] (.nd [2] (.nd [11, 12, 13, 14, 15, 16, 17] .stop (.nd [15, 11, 12, 13, 14, 16, 17] .stop .stop)) (.nd [15, 2, 11, 12, 13, 14, 16, 17] .stop .stop)) mixed rfl rfl (by decide +kernel) ?_
        repeat' (first | (with_reducible show AX _ _ _ _ _ _ _ _ _; first | exact ax_none | refine ax_stop ?_ | refine ax_nd ?_ ?_) | refine gY pk ?_ | (show AL _ _ _ _ _ _ _; first | refine jP s1 ?_ | refine jP s2 ?_ | refine jL tok (fun u => ?_) | refine jS tok 0 ?_) | fail)
        all_goals
          repeat (first | refine gA pk ?_ | (show AL _ _ _ _ _ _ _; first | refine jP s3 ?_ | refine jP s4 ?_ | refine jP s5 ?_ | refine jP s6 ?_ | refine s_neg rfl rfl rfl rfl rfl (by exact IntWalk.i64_in _ (by omega)) ?_ | refine jL tok (fun u => ?_) | refine jS tok 0 ?_ | refine jO tok 0 ?_ | refine jO tok 1 ?_ | refine jO tok 2 ?_))
          refine finQ ?_
          exact ⟨rfl, rfl⟩
      · have hR := edgeR_er rfl he
        generalize edgeE' t s a b c d = e at *
        rw [hR] at s2 s3
        have s5 := refSame_spec ⟨[], []⟩ ⟨[], []⟩ (okS_of ⟨Nat.zero_le _, Nat.zero_le _⟩) (okS_of ⟨Nat.zero_le _, Nat.zero_le _⟩)
        rw [same_self] at s5
        obtain ⟨S, hS⟩ : ∃ S : Sta, (⟨[], []⟩ : Sta) = S := ⟨_, rfl⟩
        rw [hS] at s2 s3 s5
        repeat (first | refine gN pk ?_ | (show AL _ _ _ _ _ _ _; first | refine jP f1 ?_))
        refine a_regXP [0, 1, 3, 4, 5, 6, 7, 8, 9, 10] (.nd [2] (.nd [11, 12, 13, 14, 15, 16, 17] .stop (.nd [15, 11, 12, 13, 14, 16, 17] .stop .stop)) (.nd [15, 2, 11, 12, 13, 14, 16, 17] .stop .stop)) mixed rfl rfl (by decide +kernel) ?_
        repeat' (first | (with_reducible show AX _ _ _ _ _ _ _ _ _; first | exact ax_none | refine ax_stop ?_ | refine ax_nd ?_ ?_) | refine gY pk ?_ | (show AL _ _ _ _ _ _ _; first | refine jP s1 ?_ | refine jP s2 ?_ | refine jL tok (fun u => ?_) | refine jS tok 0 ?_) | fail)
        all_goals
          repeat (first | refine gA pk ?_ | (show AL _ _ _ _ _ _ _; first | refine jP s3 ?_ | refine jP s5 ?_ | refine jL tok (fun u => ?_) | refine jS tok 0 ?_ | refine jO tok 0 ?_ | refine jO tok 1 ?_))
          refine finQ ?_
          exact ⟨rfl, rfl⟩
    · rw [decide_eq_false h1] at f1
      repeat (first | refine gA pk ?_ | (show AL _ _ _ _ _ _ _; first | refine jP f1 ?_ | refine jP hw ?_))
      refine finQ ?_
      exact ⟨rfl, rfl⟩
end Go.Proofs.YtcacbdohlfljfaaGreat
