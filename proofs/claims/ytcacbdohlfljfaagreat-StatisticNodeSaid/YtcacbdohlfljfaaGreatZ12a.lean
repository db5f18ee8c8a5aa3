/-
  One change of a statistic: the walks. Conditions: small type graphs, short statistics.
-/
import Derived.Test.YtcacbdohlfljfaaGreatSjQ8
import Derived.Test.YtcacbdohlfljfaaGreatZ12
import Derived.Test.YtcacbdohlfljfaaGreatZ10
import Derived.Test.YtcacbdohlfljfaaGreatSjQN
namespace Go.Proofs.YtcacbdohlfljfaaGreat
open Go.Sj Go.Sj.Typ Go.Sj.Sta
set_option linter.unusedVariables false
set_option linter.unusedSimpArgs false
set_option maxHeartbeats 16000000

theorem Node18_spec (t : Tys) (ht : Small t) (s : Sta) (hs : s.nodes.length ≤ 1000 ∧ s.edges.length ≤ 1000) (k z : Int) : Pure Tryz.prog 27 [tysA t, staA s, AI k, AI z] (.tup [staA (nodeR t s k z).1, AI (nodeR t s k z).2]) := by
  have ln : (s.nodes.map cCnt).length = s.nodes.length := by simp
  have le : (s.edges.map cCnt).length = s.edges.length := by simp
  have lt : (t.nodes.map cNod).length = t.nodes.length := by simp
  have htn := ht.nodes
  have s1 := sValid_spec t ht s hs
  have s2 := is_spec' k t.nodes.length
  rw [← lt] at s2
  have s6 := copied_spec s hs.1 hs.2
  by_cases hv : sValid t s = 0
  · have hV := sValid_zero.1 hv
    have hl5 := len_tot hV.nodes.pos
    have hl6 := hV.ntot
    rw [hv] at s1
    by_cases hk : 0 ≤ k ∧ k < t.nodes.length
    · rw [decide_eq_true (by rw [lt]; exact hk)] at s2
      have hsm : ∀ c ∈ s.nodes, smC c := fun c hc => nodeOk_sm (n := t.nodes.length) (by omega) (hV.nodes.ok c hc)
      have hsn : ∀ c ∈ s.nodes, 1 ≤ c.nu ∧ c.nu ≤ 40 := fun c hc => (hV.nodes.ok c hc).2.2.2
      have hxs : ∀ y, smC ⟨k, 0, 0, y⟩ := fun y => by unfold smC; simp only; omega
      have s3 := total_spec s.nodes (by omega) (fun c hc => by have := hsn c hc; omega)
      have s4 := number_spec s.nodes hV.nodes.srt (by omega) hsm ⟨k, 0, 0, 0⟩ (hxs 0)
      obtain ⟨n, hn⟩ : ∃ n, numK s.nodes ⟨k, 0, 0, 0⟩ = n := ⟨_, rfl⟩
      have hn' : numK s.nodes ⟨k, 0, 0, z⟩ = n := by rw [← hn]; exact numK_z ..
      rw [hn] at s4
      have s5 := ContainsFuncC_spec s.edges (by have := hs.2; omega) 58 [.ip [AI k]] (fun c => decide (c.fr = k ∨ c.to = k)) (fun c _ => touch1_spec c k)
      change Pure _ _ _ (AB (touchB s.edges k)) at s5
      by_cases hz1 : z = 1
      · by_cases h40 : tot s.nodes = 40
        · rw [nodeR_er (e := 3) (by unfold nodeE'; rw [if_neg (Decidable.not_not.2 hv), if_neg (by omega), if_pos ⟨hz1, h40⟩]) (by decide)]
          refine a_enterM (rs := [.cell 8 35, .tmp 9]) tok Tryz.func27 (by kernel_rfl) rfl Tryz.ntmps27 rfl (by decide) (by simp) ?_
          refine a_seq ?_
          refine a_reg ?_
          repeat (first | refine a_seq ?_ | refine tL tok ?_ | refine tI tok ?_ | refine tP tok ?_ | refine tQ tok ?_ | refine tA tok ?_ | refine tU tok ?_ | refine tF tok ?_ | refine AL.nil ?_ | refine s_skip rfl rfl rfl ?_ | refine cT rfl rfl rfl rfl rfl rfl rfl ?_ | refine cF rfl rfl rfl rfl rfl rfl rfl ?_ | refine cA rfl rfl rfl rfl rfl rfl rfl ?_ | refine s_box rfl rfl rfl rfl rfl rfl (fun u => ?_) | refine s_alloc tok rfl rfl rfl rfl rfl (fun u8 => ?_) | refine a_condT rfl ?_ | refine a_condF rfl ?_ | refine a_skip ?_ | refine a_exit ?_ | refine a_ret ?_ | refine a_block ?_)
          refine a_frzBox 1 6 rfl rfl ?_
          refine a_frzBox 1 5 rfl rfl ?_
          refine a_frzBox 1 4 rfl rfl ?_
          repeat (first | refine a_seq ?_ | refine a_reg ?_ | refine a_regP mixed (by decide +kernel) ?_ | refine tL tok ?_ | refine tI tok ?_ | refine tP tok ?_ | refine tQ tok ?_ | refine tA tok ?_ | refine tU tok ?_ | refine tF tok ?_ | refine AL.nil ?_ | refine s_skip rfl rfl rfl ?_ | refine cT rfl rfl rfl rfl rfl rfl rfl ?_ | refine cF rfl rfl rfl rfl rfl rfl rfl ?_ | refine cA rfl rfl rfl rfl rfl rfl rfl ?_ | refine s_callP rfl rfl rfl rfl rfl (s1) (SubL.of_eq rfl) ?_ | refine s_callP rfl rfl rfl rfl rfl (s2) (SubL.of_eq rfl) ?_ | refine s_callP rfl rfl rfl rfl rfl (s3) (SubL.of_eq rfl) ?_ | refine s_callP rfl rfl rfl rfl rfl (s4) (SubL.of_eq rfl) ?_ | refine s_callP rfl rfl rfl rfl rfl (s5) (SubL.of_eq rfl) ?_ | refine s_store tok 0 rfl rfl rfl rfl rfl rfl rfl rfl (by decide) rfl rfl rfl (Nat.le_of_ble_eq_true rfl) ?_ | refine a_condT rfl ?_ | refine a_condF rfl ?_ | refine a_skip ?_ | refine a_exit ?_ | refine a_block ?_)
          refine a_frzBox 0 8 rfl rfl ?_
          refine a_ret ?_
          exact ⟨.inr rfl, _, .tup [staA ⟨[], []⟩, AI 3], [], rfl, Turn.of (Sub.tup (l := [.agg [SN0, SN0], AI 3]) ⟨Sub.agg (m := [cntsA [], cntsA []]) ⟨nil_cnts, nil_cnts, trivial⟩, Sub.refl _, trivial⟩) (OSub.none _), rfl, rfl⟩
        · rw [nodeR_kk ⟨hV, hk, .inl hz1, fun h => h40 h.2, fun h => absurd h.1 (by omega), fun h => absurd h.1 (by omega)⟩]
          have s7 := counted_spec s.nodes hV.nodes.srt (by omega) (fun c hc => ⟨hsm c hc, by have := hsn c hc; omega⟩) ⟨k, 0, 0, z⟩ ⟨hxs z, by simp only; omega⟩
          refine a_enterM (rs := [.cell 8 35, .tmp 9]) tok Tryz.func27 (by kernel_rfl) rfl Tryz.ntmps27 rfl (by decide) (by simp) ?_
          refine a_seq ?_
          refine a_reg ?_
          repeat (first | refine a_seq ?_ | refine tL tok ?_ | refine tI tok ?_ | refine tP tok ?_ | refine tQ tok ?_ | refine tA tok ?_ | refine tU tok ?_ | refine tF tok ?_ | refine AL.nil ?_ | refine s_skip rfl rfl rfl ?_ | refine cT rfl rfl rfl rfl rfl rfl rfl ?_ | refine cF rfl rfl rfl rfl rfl rfl rfl ?_ | refine cA rfl rfl rfl rfl rfl rfl rfl ?_ | refine s_box rfl rfl rfl rfl rfl rfl (fun u => ?_) | refine s_alloc tok rfl rfl rfl rfl rfl (fun u8 => ?_) | refine a_condT rfl ?_ | refine a_condF rfl ?_ | refine a_skip ?_ | refine a_exit ?_ | refine a_ret ?_ | refine a_block ?_)
          refine a_frzBox 1 6 rfl rfl ?_
          refine a_frzBox 1 5 rfl rfl ?_
          refine a_frzBox 1 4 rfl rfl ?_
          repeat (first | refine a_seq ?_ | refine a_reg ?_ | refine a_regP mixed (by decide +kernel) ?_ | refine tL tok ?_ | refine tI tok ?_ | refine tP tok ?_ | refine tQ tok ?_ | refine tA tok ?_ | refine tU tok ?_ | refine tF tok ?_ | refine AL.nil ?_ | refine s_skip rfl rfl rfl ?_ | refine cT rfl rfl rfl rfl rfl rfl rfl ?_ | refine cF rfl rfl rfl rfl rfl rfl rfl ?_ | refine cA rfl rfl rfl rfl rfl rfl rfl ?_ | refine s_callP rfl rfl rfl rfl rfl (s1) (SubL.of_eq rfl) ?_ | refine s_callP rfl rfl rfl rfl rfl (s2) (SubL.of_eq rfl) ?_ | refine s_callP rfl rfl rfl rfl rfl (s3) (SubL.of_eq rfl) ?_ | refine s_callP rfl rfl rfl rfl rfl (s4) (SubL.of_eq rfl) ?_ | refine s_callP rfl rfl rfl rfl rfl (s5) (SubL.of_eq rfl) ?_ | refine s_callP rfl rfl rfl rfl rfl (s6) (SubL.of_eq rfl) ?_ | refine s_callP rfl rfl rfl rfl rfl (s7) (SubL.of_eq rfl) ?_ | refine s_alloc tok rfl rfl rfl rfl rfl (fun u => ?_) | refine s_ownLoad tok 0 rfl rfl rfl rfl (by decide) rfl rfl rfl rfl rfl rfl (List.cons_ne_nil _ _) ?_ | refine s_store tok 0 rfl rfl rfl rfl rfl rfl rfl rfl (by decide) rfl rfl rfl (Nat.le_of_ble_eq_true rfl) ?_ | refine s_store tok 1 rfl rfl rfl rfl rfl rfl rfl rfl (by decide) rfl rfl rfl (Nat.le_of_ble_eq_true rfl) ?_ | refine a_condT rfl ?_ | refine a_condF rfl ?_ | refine a_skip ?_ | refine a_exit ?_ | refine a_block ?_)
          refine a_frzBox 1 8 rfl rfl ?_
          refine a_ret ?_
          exact ⟨.inr rfl, _, _, [], rfl, Turn.of (Sub.refl _) (OSub.none _), rfl, rfl⟩
      · by_cases hz2 : z = -1
        · by_cases hn0 : n = 0
          · rw [nodeR_er (e := 10) (by unfold nodeE'; rw [if_neg (Decidable.not_not.2 hv), if_neg (by omega), if_neg (by omega), if_pos ⟨hz2, by rw [hn']; exact hn0⟩]) (by decide)]
            refine a_enterM (rs := [.cell 8 35, .tmp 9]) tok Tryz.func27 (by kernel_rfl) rfl Tryz.ntmps27 rfl (by decide) (by simp) ?_
            refine a_seq ?_
            refine a_reg ?_
            repeat (first | refine a_seq ?_ | refine tL tok ?_ | refine tI tok ?_ | refine tP tok ?_ | refine tQ tok ?_ | refine tA tok ?_ | refine tU tok ?_ | refine tF tok ?_ | refine AL.nil ?_ | refine s_skip rfl rfl rfl ?_ | refine cT rfl rfl rfl rfl rfl rfl rfl ?_ | refine cF rfl rfl rfl rfl rfl rfl rfl ?_ | refine cA rfl rfl rfl rfl rfl rfl rfl ?_ | refine s_box rfl rfl rfl rfl rfl rfl (fun u => ?_) | refine s_alloc tok rfl rfl rfl rfl rfl (fun u8 => ?_) | refine a_condT rfl ?_ | refine a_condF rfl ?_ | refine a_skip ?_ | refine a_exit ?_ | refine a_ret ?_ | refine a_block ?_)
            refine a_frzBox 1 6 rfl rfl ?_
            refine a_frzBox 1 5 rfl rfl ?_
            refine a_frzBox 1 4 rfl rfl ?_
            repeat (first | refine a_seq ?_ | refine a_reg ?_ | refine a_regP mixed (by decide +kernel) ?_ | refine tL tok ?_ | refine tI tok ?_ | refine tP tok ?_ | refine tQ tok ?_ | refine tA tok ?_ | refine tU tok ?_ | refine tF tok ?_ | refine AL.nil ?_ | refine s_skip rfl rfl rfl ?_ | refine cT rfl rfl rfl rfl rfl rfl rfl ?_ | refine cF rfl rfl rfl rfl rfl rfl rfl ?_ | refine cA rfl rfl rfl rfl rfl rfl rfl ?_ | refine s_callP rfl rfl rfl rfl rfl (s1) (SubL.of_eq rfl) ?_ | refine s_callP rfl rfl rfl rfl rfl (s2) (SubL.of_eq rfl) ?_ | refine s_callP rfl rfl rfl rfl rfl (s3) (SubL.of_eq rfl) ?_ | refine s_callP rfl rfl rfl rfl rfl (s4) (SubL.of_eq rfl) ?_ | refine s_callP rfl rfl rfl rfl rfl (s5) (SubL.of_eq rfl) ?_ | refine s_store tok 0 rfl rfl rfl rfl rfl rfl rfl rfl (by decide) rfl rfl rfl (Nat.le_of_ble_eq_true rfl) ?_ | refine a_condT rfl ?_ | refine a_condF rfl ?_ | refine a_skip ?_ | refine a_exit ?_ | refine a_block ?_)
            refine a_frzBox 0 8 rfl rfl ?_
            refine a_ret ?_
            exact ⟨.inr rfl, _, .tup [staA ⟨[], []⟩, AI 10], [], rfl, Turn.of (Sub.tup (l := [.agg [SN0, SN0], AI 10]) ⟨Sub.agg (m := [cntsA [], cntsA []]) ⟨nil_cnts, nil_cnts, trivial⟩, Sub.refl _, trivial⟩) (OSub.none _), rfl, rfl⟩
          · by_cases hn1 : n = 1
            · cases hb : touchB s.edges k with
              | true =>
                rw [hb] at s5
                rw [nodeR_er (e := 14) (by unfold nodeE'; rw [if_neg (Decidable.not_not.2 hv), if_neg (by omega), if_neg (by omega), if_neg (by rw [hn']; omega), if_pos ⟨hz2, by rw [hn']; exact hn1, hb⟩]) (by decide)]
                refine a_enterM (rs := [.cell 8 35, .tmp 9]) tok Tryz.func27 (by kernel_rfl) rfl Tryz.ntmps27 rfl (by decide) (by simp) ?_
                refine a_seq ?_
                refine a_reg ?_
                repeat (first | refine a_seq ?_ | refine tL tok ?_ | refine tI tok ?_ | refine tP tok ?_ | refine tQ tok ?_ | refine tA tok ?_ | refine tU tok ?_ | refine tF tok ?_ | refine AL.nil ?_ | refine s_skip rfl rfl rfl ?_ | refine cT rfl rfl rfl rfl rfl rfl rfl ?_ | refine cF rfl rfl rfl rfl rfl rfl rfl ?_ | refine cA rfl rfl rfl rfl rfl rfl rfl ?_ | refine s_box rfl rfl rfl rfl rfl rfl (fun u => ?_) | refine s_alloc tok rfl rfl rfl rfl rfl (fun u8 => ?_) | refine a_condT rfl ?_ | refine a_condF rfl ?_ | refine a_skip ?_ | refine a_exit ?_ | refine a_ret ?_ | refine a_block ?_)
                refine a_frzBox 1 6 rfl rfl ?_
                refine a_frzBox 1 5 rfl rfl ?_
                refine a_frzBox 1 4 rfl rfl ?_
                repeat (first | refine a_seq ?_ | refine a_reg ?_ | refine a_regP mixed (by decide +kernel) ?_ | refine tL tok ?_ | refine tI tok ?_ | refine tP tok ?_ | refine tQ tok ?_ | refine tA tok ?_ | refine tU tok ?_ | refine tF tok ?_ | refine AL.nil ?_ | refine s_skip rfl rfl rfl ?_ | refine cT rfl rfl rfl rfl rfl rfl rfl ?_ | refine cF rfl rfl rfl rfl rfl rfl rfl ?_ | refine cA rfl rfl rfl rfl rfl rfl rfl ?_ | refine s_callP rfl rfl rfl rfl rfl (s1) (SubL.of_eq rfl) ?_ | refine s_callP rfl rfl rfl rfl rfl (s2) (SubL.of_eq rfl) ?_ | refine s_callP rfl rfl rfl rfl rfl (s3) (SubL.of_eq rfl) ?_ | refine s_callP rfl rfl rfl rfl rfl (s4) (SubL.of_eq rfl) ?_ | refine s_callP rfl rfl rfl rfl rfl (s5) (SubL.of_eq rfl) ?_ | refine s_store tok 0 rfl rfl rfl rfl rfl rfl rfl rfl (by decide) rfl rfl rfl (Nat.le_of_ble_eq_true rfl) ?_ | refine a_condT rfl ?_ | refine a_condF rfl ?_ | refine a_skip ?_ | refine a_exit ?_ | refine a_block ?_)
                refine a_frzBox 0 8 rfl rfl ?_
                refine a_ret ?_
                exact ⟨.inr rfl, _, .tup [staA ⟨[], []⟩, AI 14], [], rfl, Turn.of (Sub.tup (l := [.agg [SN0, SN0], AI 14]) ⟨Sub.agg (m := [cntsA [], cntsA []]) ⟨nil_cnts, nil_cnts, trivial⟩, Sub.refl _, trivial⟩) (OSub.none _), rfl, rfl⟩
              | false =>
                rw [hb] at s5
                rw [nodeR_kk ⟨hV, hk, .inr hz2, fun h => hz1 h.1, fun h => hn0 (by rw [← hn']; exact h.2), fun h => absurd h.2.2 (by rw [hb]; decide)⟩]
                have s7 := counted_spec s.nodes hV.nodes.srt (by omega) (fun c hc => ⟨hsm c hc, by have := hsn c hc; omega⟩) ⟨k, 0, 0, z⟩ ⟨hxs z, by simp only; omega⟩
                refine a_enterM (rs := [.cell 8 35, .tmp 9]) tok Tryz.func27 (by kernel_rfl) rfl Tryz.ntmps27 rfl (by decide) (by simp) ?_
                refine a_seq ?_
                refine a_reg ?_
                repeat (first | refine a_seq ?_ | refine tL tok ?_ | refine tI tok ?_ | refine tP tok ?_ | refine tQ tok ?_ | refine tA tok ?_ | refine tU tok ?_ | refine tF tok ?_ | refine AL.nil ?_ | refine s_skip rfl rfl rfl ?_ | refine cT rfl rfl rfl rfl rfl rfl rfl ?_ | refine cF rfl rfl rfl rfl rfl rfl rfl ?_ | refine cA rfl rfl rfl rfl rfl rfl rfl ?_ | refine s_box rfl rfl rfl rfl rfl rfl (fun u => ?_) | refine s_alloc tok rfl rfl rfl rfl rfl (fun u8 => ?_) | refine a_condT rfl ?_ | refine a_condF rfl ?_ | refine a_skip ?_ | refine a_exit ?_ | refine a_ret ?_ | refine a_block ?_)
                refine a_frzBox 1 6 rfl rfl ?_
                refine a_frzBox 1 5 rfl rfl ?_
                refine a_frzBox 1 4 rfl rfl ?_
                repeat (first | refine a_seq ?_ | refine a_reg ?_ | refine a_regP mixed (by decide +kernel) ?_ | refine tL tok ?_ | refine tI tok ?_ | refine tP tok ?_ | refine tQ tok ?_ | refine tA tok ?_ | refine tU tok ?_ | refine tF tok ?_ | refine AL.nil ?_ | refine s_skip rfl rfl rfl ?_ | refine cT rfl rfl rfl rfl rfl rfl rfl ?_ | refine cF rfl rfl rfl rfl rfl rfl rfl ?_ | refine cA rfl rfl rfl rfl rfl rfl rfl ?_ | refine s_callP rfl rfl rfl rfl rfl (s1) (SubL.of_eq rfl) ?_ | refine s_callP rfl rfl rfl rfl rfl (s2) (SubL.of_eq rfl) ?_ | refine s_callP rfl rfl rfl rfl rfl (s3) (SubL.of_eq rfl) ?_ | refine s_callP rfl rfl rfl rfl rfl (s4) (SubL.of_eq rfl) ?_ | refine s_callP rfl rfl rfl rfl rfl (s5) (SubL.of_eq rfl) ?_ | refine s_callP rfl rfl rfl rfl rfl (s6) (SubL.of_eq rfl) ?_ | refine s_callP rfl rfl rfl rfl rfl (s7) (SubL.of_eq rfl) ?_ | refine s_alloc tok rfl rfl rfl rfl rfl (fun u => ?_) | refine s_ownLoad tok 0 rfl rfl rfl rfl (by decide) rfl rfl rfl rfl rfl rfl (List.cons_ne_nil _ _) ?_ | refine s_store tok 0 rfl rfl rfl rfl rfl rfl rfl rfl (by decide) rfl rfl rfl (Nat.le_of_ble_eq_true rfl) ?_ | refine s_store tok 1 rfl rfl rfl rfl rfl rfl rfl rfl (by decide) rfl rfl rfl (Nat.le_of_ble_eq_true rfl) ?_ | refine a_condT rfl ?_ | refine a_condF rfl ?_ | refine a_skip ?_ | refine a_exit ?_ | refine a_block ?_)
                refine a_frzBox 1 8 rfl rfl ?_
                refine a_ret ?_
                exact ⟨.inr rfl, _, _, [], rfl, Turn.of (Sub.refl _) (OSub.none _), rfl, rfl⟩
            · rw [nodeR_kk ⟨hV, hk, .inr hz2, fun h => hz1 h.1, fun h => hn0 (by rw [← hn']; exact h.2), fun h => hn1 (by rw [← hn']; exact h.2.1)⟩]
              have s7 := counted_spec s.nodes hV.nodes.srt (by omega) (fun c hc => ⟨hsm c hc, by have := hsn c hc; omega⟩) ⟨k, 0, 0, z⟩ ⟨hxs z, by simp only; omega⟩
              refine a_enterM (rs := [.cell 8 35, .tmp 9]) tok Tryz.func27 (by kernel_rfl) rfl Tryz.ntmps27 rfl (by decide) (by simp) ?_
              refine a_seq ?_
              refine a_reg ?_
              repeat (first | refine a_seq ?_ | refine tL tok ?_ | refine tI tok ?_ | refine tP tok ?_ | refine tQ tok ?_ | refine tA tok ?_ | refine tU tok ?_ | refine tF tok ?_ | refine AL.nil ?_ | refine s_skip rfl rfl rfl ?_ | refine cT rfl rfl rfl rfl rfl rfl rfl ?_ | refine cF rfl rfl rfl rfl rfl rfl rfl ?_ | refine cA rfl rfl rfl rfl rfl rfl rfl ?_ | refine s_box rfl rfl rfl rfl rfl rfl (fun u => ?_) | refine s_alloc tok rfl rfl rfl rfl rfl (fun u8 => ?_) | refine a_condT rfl ?_ | refine a_condF rfl ?_ | refine a_skip ?_ | refine a_exit ?_ | refine a_ret ?_ | refine a_block ?_)
              refine a_frzBox 1 6 rfl rfl ?_
              refine a_frzBox 1 5 rfl rfl ?_
              refine a_frzBox 1 4 rfl rfl ?_
              repeat (first | refine a_seq ?_ | refine a_reg ?_ | refine a_regP mixed (by decide +kernel) ?_ | refine tL tok ?_ | refine tI tok ?_ | refine tP tok ?_ | refine tQ tok ?_ | refine tA tok ?_ | refine tU tok ?_ | refine tF tok ?_ | refine AL.nil ?_ | refine s_skip rfl rfl rfl ?_ | refine cT rfl rfl rfl rfl rfl rfl rfl ?_ | refine cF rfl rfl rfl rfl rfl rfl rfl ?_ | refine cA rfl rfl rfl rfl rfl rfl rfl ?_ | refine s_callP rfl rfl rfl rfl rfl (s1) (SubL.of_eq rfl) ?_ | refine s_callP rfl rfl rfl rfl rfl (s2) (SubL.of_eq rfl) ?_ | refine s_callP rfl rfl rfl rfl rfl (s3) (SubL.of_eq rfl) ?_ | refine s_callP rfl rfl rfl rfl rfl (s4) (SubL.of_eq rfl) ?_ | refine s_callP rfl rfl rfl rfl rfl (s5) (SubL.of_eq rfl) ?_ | refine s_callP rfl rfl rfl rfl rfl (s6) (SubL.of_eq rfl) ?_ | refine s_callP rfl rfl rfl rfl rfl (s7) (SubL.of_eq rfl) ?_ | refine s_alloc tok rfl rfl rfl rfl rfl (fun u => ?_) | refine s_ownLoad tok 0 rfl rfl rfl rfl (by decide) rfl rfl rfl rfl rfl rfl (List.cons_ne_nil _ _) ?_ | refine s_store tok 0 rfl rfl rfl rfl rfl rfl rfl rfl (by decide) rfl rfl rfl (Nat.le_of_ble_eq_true rfl) ?_ | refine s_store tok 1 rfl rfl rfl rfl rfl rfl rfl rfl (by decide) rfl rfl rfl (Nat.le_of_ble_eq_true rfl) ?_ | refine a_condT rfl ?_ | refine a_condF rfl ?_ | refine a_skip ?_ | refine a_exit ?_ | refine a_block ?_)
              refine a_frzBox 1 8 rfl rfl ?_
              refine a_ret ?_
              exact ⟨.inr rfl, _, _, [], rfl, Turn.of (Sub.refl _) (OSub.none _), rfl, rfl⟩
        · rw [nodeR_er (e := 6) (by unfold nodeE'; rw [if_neg (Decidable.not_not.2 hv), if_pos (.inr ⟨hz1, hz2⟩)]) (by decide)]
          refine a_enterM (rs := [.cell 8 35, .tmp 9]) tok Tryz.func27 (by kernel_rfl) rfl Tryz.ntmps27 rfl (by decide) (by simp) ?_
          refine a_seq ?_
          refine a_reg ?_
          repeat (first | refine a_seq ?_ | refine tL tok ?_ | refine tI tok ?_ | refine tP tok ?_ | refine tQ tok ?_ | refine tA tok ?_ | refine tU tok ?_ | refine tF tok ?_ | refine AL.nil ?_ | refine s_skip rfl rfl rfl ?_ | refine cT rfl rfl rfl rfl rfl rfl rfl ?_ | refine cF rfl rfl rfl rfl rfl rfl rfl ?_ | refine cA rfl rfl rfl rfl rfl rfl rfl ?_ | refine s_box rfl rfl rfl rfl rfl rfl (fun u => ?_) | refine s_alloc tok rfl rfl rfl rfl rfl (fun u8 => ?_) | refine a_condT rfl ?_ | refine a_condF rfl ?_ | refine a_skip ?_ | refine a_exit ?_ | refine a_ret ?_ | refine a_block ?_)
          refine a_frzBox 1 6 rfl rfl ?_
          refine a_frzBox 1 5 rfl rfl ?_
          refine a_frzBox 1 4 rfl rfl ?_
          repeat (first | refine a_seq ?_ | refine a_reg ?_ | refine a_regP mixed (by decide +kernel) ?_ | refine tL tok ?_ | refine tI tok ?_ | refine tP tok ?_ | refine tQ tok ?_ | refine tA tok ?_ | refine tU tok ?_ | refine tF tok ?_ | refine AL.nil ?_ | refine s_skip rfl rfl rfl ?_ | refine cT rfl rfl rfl rfl rfl rfl rfl ?_ | refine cF rfl rfl rfl rfl rfl rfl rfl ?_ | refine cA rfl rfl rfl rfl rfl rfl rfl ?_ | refine s_callP rfl rfl rfl rfl rfl (s1) (SubL.of_eq rfl) ?_ | refine s_callP rfl rfl rfl rfl rfl (s2) (SubL.of_eq rfl) ?_ | refine s_store tok 0 rfl rfl rfl rfl rfl rfl rfl rfl (by decide) rfl rfl rfl (Nat.le_of_ble_eq_true rfl) ?_ | refine a_condT rfl ?_ | refine a_condF rfl ?_ | refine a_skip ?_ | refine a_exit ?_ | refine a_block ?_)
          refine a_frzBox 0 8 rfl rfl ?_
          refine a_ret ?_
          exact ⟨.inr rfl, _, .tup [staA ⟨[], []⟩, AI 6], [], rfl, Turn.of (Sub.tup (l := [.agg [SN0, SN0], AI 6]) ⟨Sub.agg (m := [cntsA [], cntsA []]) ⟨nil_cnts, nil_cnts, trivial⟩, Sub.refl _, trivial⟩) (OSub.none _), rfl, rfl⟩
    · rw [nodeR_er (e := 6) (by unfold nodeE'; rw [if_neg (Decidable.not_not.2 hv), if_pos (.inl hk)]) (by decide)]
      rw [decide_eq_false (by rw [lt]; exact hk)] at s2
      refine a_enterM (rs := [.cell 8 35, .tmp 9]) tok Tryz.func27 (by kernel_rfl) rfl Tryz.ntmps27 rfl (by decide) (by simp) ?_
      refine a_seq ?_
      refine a_reg ?_
      repeat (first | refine a_seq ?_ | refine tL tok ?_ | refine tI tok ?_ | refine tP tok ?_ | refine tQ tok ?_ | refine tA tok ?_ | refine tU tok ?_ | refine tF tok ?_ | refine AL.nil ?_ | refine s_skip rfl rfl rfl ?_ | refine cT rfl rfl rfl rfl rfl rfl rfl ?_ | refine cF rfl rfl rfl rfl rfl rfl rfl ?_ | refine cA rfl rfl rfl rfl rfl rfl rfl ?_ | refine s_box rfl rfl rfl rfl rfl rfl (fun u => ?_) | refine s_alloc tok rfl rfl rfl rfl rfl (fun u8 => ?_) | refine a_condT rfl ?_ | refine a_condF rfl ?_ | refine a_skip ?_ | refine a_exit ?_ | refine a_ret ?_ | refine a_block ?_)
      refine a_frzBox 1 6 rfl rfl ?_
      refine a_frzBox 1 5 rfl rfl ?_
      refine a_frzBox 1 4 rfl rfl ?_
      repeat (first | refine a_seq ?_ | refine a_reg ?_ | refine a_regP mixed (by decide +kernel) ?_ | refine tL tok ?_ | refine tI tok ?_ | refine tP tok ?_ | refine tQ tok ?_ | refine tA tok ?_ | refine tU tok ?_ | refine tF tok ?_ | refine AL.nil ?_ | refine s_skip rfl rfl rfl ?_ | refine cT rfl rfl rfl rfl rfl rfl rfl ?_ | refine cF rfl rfl rfl rfl rfl rfl rfl ?_ | refine cA rfl rfl rfl rfl rfl rfl rfl ?_ | refine s_callP rfl rfl rfl rfl rfl (s1) (SubL.of_eq rfl) ?_ | refine s_callP rfl rfl rfl rfl rfl (s2) (SubL.of_eq rfl) ?_ | refine s_store tok 0 rfl rfl rfl rfl rfl rfl rfl rfl (by decide) rfl rfl rfl (Nat.le_of_ble_eq_true rfl) ?_ | refine a_condT rfl ?_ | refine a_condF rfl ?_ | refine a_skip ?_ | refine a_exit ?_ | refine a_block ?_)
      refine a_frzBox 0 8 rfl rfl ?_
      refine a_ret ?_
      exact ⟨.inr rfl, _, .tup [staA ⟨[], []⟩, AI 6], [], rfl, Turn.of (Sub.tup (l := [.agg [SN0, SN0], AI 6]) ⟨Sub.agg (m := [cntsA [], cntsA []]) ⟨nil_cnts, nil_cnts, trivial⟩, Sub.refl _, trivial⟩) (OSub.none _), rfl, rfl⟩
  · rw [nodeR_er (e := sValid t s) (by unfold nodeE'; rw [if_pos hv]) hv]
    generalize sValid t s = e at *
    refine a_enterM (rs := [.cell 8 35, .tmp 9]) tok Tryz.func27 (by kernel_rfl) rfl Tryz.ntmps27 rfl (by decide) (by simp) ?_
    refine a_seq ?_
    refine a_reg ?_
    repeat (first | refine a_seq ?_ | refine tL tok ?_ | refine tI tok ?_ | refine tP tok ?_ | refine tQ tok ?_ | refine tA tok ?_ | refine tU tok ?_ | refine tF tok ?_ | refine AL.nil ?_ | refine s_skip rfl rfl rfl ?_ | refine cT rfl rfl rfl rfl rfl rfl rfl ?_ | refine cF rfl rfl rfl rfl rfl rfl rfl ?_ | refine cA rfl rfl rfl rfl rfl rfl rfl ?_ | refine s_box rfl rfl rfl rfl rfl rfl (fun u => ?_) | refine s_alloc tok rfl rfl rfl rfl rfl (fun u8 => ?_) | refine a_condT rfl ?_ | refine a_condF rfl ?_ | refine a_skip ?_ | refine a_exit ?_ | refine a_ret ?_ | refine a_block ?_)
    refine a_frzBox 1 6 rfl rfl ?_
    refine a_frzBox 1 5 rfl rfl ?_
    refine a_frzBox 1 4 rfl rfl ?_
    repeat (first | refine a_seq ?_ | refine a_reg ?_ | refine a_regP mixed (by decide +kernel) ?_ | refine tL tok ?_ | refine tI tok ?_ | refine tP tok ?_ | refine tQ tok ?_ | refine tA tok ?_ | refine tU tok ?_ | refine tF tok ?_ | refine AL.nil ?_ | refine s_skip rfl rfl rfl ?_ | refine cT rfl rfl rfl rfl rfl rfl rfl ?_ | refine cF rfl rfl rfl rfl rfl rfl rfl ?_ | refine cA rfl rfl rfl rfl rfl rfl rfl ?_ | refine s_callP rfl rfl rfl rfl rfl (s1) (SubL.of_eq rfl) ?_ | refine s_callP rfl rfl rfl rfl rfl (s2) (SubL.of_eq rfl) ?_ | refine s_store tok 0 rfl rfl rfl rfl rfl rfl rfl rfl (by decide) rfl rfl rfl (Nat.le_of_ble_eq_true rfl) ?_ | refine a_condT rfl ?_ | refine a_condF rfl ?_ | refine a_skip ?_ | refine a_exit ?_ | refine a_block ?_)
    refine a_frzBox 0 8 rfl rfl ?_
    refine a_ret ?_
    exact ⟨.inr rfl, _, .tup [staA ⟨[], []⟩, AI e], [], rfl, Turn.of (Sub.tup (l := [.agg [SN0, SN0], AI e]) ⟨Sub.agg (m := [cntsA [], cntsA []]) ⟨nil_cnts, nil_cnts, trivial⟩, Sub.refl _, trivial⟩) (OSub.none _), rfl, rfl⟩
end Go.Proofs.YtcacbdohlfljfaaGreat
