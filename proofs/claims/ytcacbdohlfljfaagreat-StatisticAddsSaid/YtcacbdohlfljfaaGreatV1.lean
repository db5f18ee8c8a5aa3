/-
  Walks: Z12, Z12a, Z12c.
-/
import Derived.Test.YtcacbdohlfljfaaGreatSjQ8
import Derived.Test.YtcacbdohlfljfaaGreatZ10a
import Derived.Test.YtcacbdohlfljfaaGreatZ9
import Derived.Test.YtcacbdohlfljfaaGreatSjQN
import Derived.Test.YtcacbdohlfljfaaGreatZ10
/-
  One change of a statistic: the walks. Conditions: small type graphs, short statistics.
-/
namespace Go.Proofs.YtcacbdohlfljfaaGreat
open Go.Sj Go.Sj.Typ Go.Sj.Sta
set_option linter.unusedVariables false
set_option linter.unusedSimpArgs false
set_option maxHeartbeats 16000000

theorem len_tot {l : List Cnt} (h : ∀ c ∈ l, 1 ≤ c.nu) : (l.length : Int) ≤ tot l := by
  induction l with
  | nil => exact Int.le_refl 0
  | cons c l ih =>
    have h1 := ih (fun d hd => h d (by simp [hd]))
    have h2 := h c (by simp)
    simp only [sumP, if_true, List.length_cons]
    simp only [tot] at h1
    omega
theorem nodeR_er {t : Tys} {s : Sta} {k z e : Int} (h : nodeE' t s k z = e) (he : e ≠ 0) : nodeR t s k z = (⟨[], []⟩, e) := by unfold nodeR; rw [h, if_pos he]
theorem nodeR_kk {t : Tys} {s : Sta} {k z : Int} (h : NodeOK t s k z) : nodeR t s k z = (⟨addC s.nodes ⟨k, 0, 0, z⟩, s.edges⟩, 0) := by unfold nodeR; rw [if_neg (Decidable.not_not.2 (nodeE_zero'.2 h))]
theorem edgeR_er {t : Tys} {s : Sta} {k a b z e : Int} (h : edgeE' t s k a b z = e) (he : e ≠ 0) : edgeR t s k a b z = (⟨[], []⟩, e) := by unfold edgeR; rw [h, if_pos he]
theorem edgeR_kk {t : Tys} {s : Sta} {k a b z : Int} (h : EdgeOK t s k a b z) : edgeR t s k a b z = (⟨s.nodes, addC s.edges ⟨k, a, b, z⟩⟩, 0) := by unfold edgeR; rw [if_neg (Decidable.not_not.2 (edgeE_zero'.2 h))]
end Go.Proofs.YtcacbdohlfljfaaGreat

/-
  One change of a statistic: the walks. Conditions: small type graphs, short statistics.
-/
namespace Go.Proofs.YtcacbdohlfljfaaGreat
open Go.Sj Go.Sj.Typ Go.Sj.Sta
set_option linter.unusedVariables false
set_option linter.unusedSimpArgs false
set_option maxHeartbeats 16000000

theorem Node18_spec (t : Tys) (ht : Small t) (s : Sta) (hs : s.nodes.length ≤ 1000 ∧ s.edges.length ≤ 1000) (k z : Int) : Pure Tryz.prog 27 [tysA t, staA s, AI k, AI z] (.tup [staA (nodeR t s k z).1, AI (nodeR t s k z).2]) := by
  have ln : (s.nodes.map cCnt).length = s.nodes.length := by simp
  have le : (s.edges.map cCnt).length = s.edges.length := by simp
  have lt : (t.nodes.map cNod).length = t.nodes.length := by simp
  have htn := ht.nodes
  have s1 := sValid_spec t ht s hs
  have s2 := is_spec' k t.nodes.length
  rw [← lt] at s2
  have s6 := copied_spec s hs.1 hs.2
  by_cases hv : sValid t s = 0
  · have hV := sValid_zero.1 hv
    have hl5 := len_tot hV.nodes.pos
    have hl6 := hV.ntot
    rw [hv] at s1
    by_cases hk : 0 ≤ k ∧ k < t.nodes.length
    · rw [decide_eq_true (by rw [lt]; exact hk)] at s2
      have hsm : ∀ c ∈ s.nodes, smC c := fun c hc => nodeOk_sm (n := t.nodes.length) (by omega) (hV.nodes.ok c hc)
      have hsn : ∀ c ∈ s.nodes, 1 ≤ c.nu ∧ c.nu ≤ 40 := fun c hc => (hV.nodes.ok c hc).2.2.2
      have hxs : ∀ y, smC ⟨k, 0, 0, y⟩ := fun y => by unfold smC; simp only; omega
      have s3 := total_spec s.nodes (by omega) (fun c hc => by have := hsn c hc; omega)
      have s4 := number_spec s.nodes hV.nodes.srt (by omega) hsm ⟨k, 0, 0, 0⟩ (hxs 0)
      obtain ⟨n, hn⟩ : ∃ n, numK s.nodes ⟨k, 0, 0, 0⟩ = n := ⟨_, rfl⟩
      have hn' : numK s.nodes ⟨k, 0, 0, z⟩ = n := by rw [← hn]; exact numK_z ..
      rw [hn] at s4
      have s5 := ContainsFuncC_spec s.edges (by have := hs.2; omega) 58 [.ip [AI k]] (fun c => decide (c.fr = k ∨ c.to = k)) (fun c _ => touch1_spec c k)
      change Pure _ _ _ (AB (touchB s.edges k)) at s5
      by_cases hz1 : z = 1
      · by_cases h40 : tot s.nodes = 40
        · rw [nodeR_er (e := 3) (by unfold nodeE'; rw [if_neg (Decidable.not_not.2 hv), if_neg (by omega), if_pos ⟨hz1, h40⟩]) (by decide)]
          refine a_enterM (rs := [.cell 8 35, .tmp 9]) tok Tryz.func27 (by kernel_rfl) rfl Tryz.ntmps27 rfl (by decide) (by simp) ?_
          refine a_seq ?_
          refine a_reg ?_
          repeat (first | refine gZ pk ?_ | (show AL _ _ _ _ _ _ _; first | refine jB (fun u => ?_) | refine jL tok (fun u8 => ?_)))
          refine a_frzBox 1 6 rfl rfl ?_
          refine a_frzBox 1 5 rfl rfl ?_
          refine a_frzBox 1 4 rfl rfl ?_
          repeat (first | refine gV pk ?_ | (show AL _ _ _ _ _ _ _; first | refine jP s1 ?_ | refine jP s2 ?_ | refine jP s3 ?_ | refine jP s4 ?_ | refine jP s5 ?_ | refine jS tok 0 ?_))
          refine a_frzBox 0 8 rfl rfl ?_
          refine a_ret ?_
          exact ⟨.inr rfl, _, .tup [staA ⟨[], []⟩, AI 3], [], rfl, Turn.of (Sub.tup (l := [.agg [SN0, SN0], AI 3]) ⟨Sub.agg (m := [cntsA [], cntsA []]) ⟨nil_cnts, nil_cnts, trivial⟩, Sub.refl _, trivial⟩) (OSub.none _), rfl, rfl⟩
        · rw [nodeR_kk ⟨hV, hk, .inl hz1, fun h => h40 h.2, fun h => absurd h.1 (by omega), fun h => absurd h.1 (by omega)⟩]
          have s7 := counted_spec s.nodes hV.nodes.srt (by omega) (fun c hc => ⟨hsm c hc, by have := hsn c hc; omega⟩) ⟨k, 0, 0, z⟩ ⟨hxs z, by simp only; omega⟩
          refine a_enterM (rs := [.cell 8 35, .tmp 9]) tok Tryz.func27 (by kernel_rfl) rfl Tryz.ntmps27 rfl (by decide) (by simp) ?_
          refine a_seq ?_
          refine a_reg ?_
          repeat (first | refine gZ pk ?_ | (show AL _ _ _ _ _ _ _; first | refine jB (fun u => ?_) | refine jL tok (fun u8 => ?_)))
          refine a_frzBox 1 6 rfl rfl ?_
          refine a_frzBox 1 5 rfl rfl ?_
          refine a_frzBox 1 4 rfl rfl ?_
          repeat (first | refine gV pk ?_ | (show AL _ _ _ _ _ _ _; first | refine jP s1 ?_ | refine jP s2 ?_ | refine jP s3 ?_ | refine jP s4 ?_ | refine jP s5 ?_ | refine jP s6 ?_ | refine jP s7 ?_ | refine jL tok (fun u => ?_) | refine jO tok 0 ?_ | refine jS tok 0 ?_ | refine jS tok 1 ?_))
          refine a_frzBox 1 8 rfl rfl ?_
          refine a_ret ?_
          exact ⟨.inr rfl, _, _, [], rfl, Turn.of (Sub.refl _) (OSub.none _), rfl, rfl⟩
      · by_cases hz2 : z = -1
        · by_cases hn0 : n = 0
          · rw [nodeR_er (e := 10) (by unfold nodeE'; rw [if_neg (Decidable.not_not.2 hv), if_neg (by omega), if_neg (by omega), if_pos ⟨hz2, by rw [hn']; exact hn0⟩]) (by decide)]
            refine a_enterM (rs := [.cell 8 35, .tmp 9]) tok Tryz.func27 (by kernel_rfl) rfl Tryz.ntmps27 rfl (by decide) (by simp) ?_
            refine a_seq ?_
            refine a_reg ?_
            repeat (first | refine gZ pk ?_ | (show AL _ _ _ _ _ _ _; first | refine jB (fun u => ?_) | refine jL tok (fun u8 => ?_)))
            refine a_frzBox 1 6 rfl rfl ?_
            refine a_frzBox 1 5 rfl rfl ?_
            refine a_frzBox 1 4 rfl rfl ?_
            repeat (first | refine gV pk ?_ | (show AL _ _ _ _ _ _ _; first | refine jP s1 ?_ | refine jP s2 ?_ | refine jP s3 ?_ | refine jP s4 ?_ | refine jP s5 ?_ | refine jS tok 0 ?_))
            refine a_frzBox 0 8 rfl rfl ?_
            refine a_ret ?_
            exact ⟨.inr rfl, _, .tup [staA ⟨[], []⟩, AI 10], [], rfl, Turn.of (Sub.tup (l := [.agg [SN0, SN0], AI 10]) ⟨Sub.agg (m := [cntsA [], cntsA []]) ⟨nil_cnts, nil_cnts, trivial⟩, Sub.refl _, trivial⟩) (OSub.none _), rfl, rfl⟩
          · by_cases hn1 : n = 1
            · cases hb : touchB s.edges k with
              | true =>
                rw [hb] at s5
                rw [nodeR_er (e := 14) (by unfold nodeE'; rw [if_neg (Decidable.not_not.2 hv), if_neg (by omega), if_neg (by omega), if_neg (by rw [hn']; omega), if_pos ⟨hz2, by rw [hn']; exact hn1, hb⟩]) (by decide)]
                refine a_enterM (rs := [.cell 8 35, .tmp 9]) tok Tryz.func27 (by kernel_rfl) rfl Tryz.ntmps27 rfl (by decide) (by simp) ?_
                refine a_seq ?_
                refine a_reg ?_
                repeat (first | refine gZ pk ?_ | (show AL _ _ _ _ _ _ _; first | refine jB (fun u => ?_) | refine jL tok (fun u8 => ?_)))
                refine a_frzBox 1 6 rfl rfl ?_
                refine a_frzBox 1 5 rfl rfl ?_
                refine a_frzBox 1 4 rfl rfl ?_
                repeat (first | refine gV pk ?_ | (show AL _ _ _ _ _ _ _; first | refine jP s1 ?_ | refine jP s2 ?_ | refine jP s3 ?_ | refine jP s4 ?_ | refine jP s5 ?_ | refine jS tok 0 ?_))
                refine a_frzBox 0 8 rfl rfl ?_
                refine a_ret ?_
                exact ⟨.inr rfl, _, .tup [staA ⟨[], []⟩, AI 14], [], rfl, Turn.of (Sub.tup (l := [.agg [SN0, SN0], AI 14]) ⟨Sub.agg (m := [cntsA [], cntsA []]) ⟨nil_cnts, nil_cnts, trivial⟩, Sub.refl _, trivial⟩) (OSub.none _), rfl, rfl⟩
              | false =>
                rw [hb] at s5
                rw [nodeR_kk ⟨hV, hk, .inr hz2, fun h => hz1 h.1, fun h => hn0 (by rw [← hn']; exact h.2), fun h => absurd h.2.2 (by rw [hb]; decide)⟩]
                have s7 := counted_spec s.nodes hV.nodes.srt (by omega) (fun c hc => ⟨hsm c hc, by have := hsn c hc; omega⟩) ⟨k, 0, 0, z⟩ ⟨hxs z, by simp only; omega⟩
                refine a_enterM (rs := [.cell 8 35, .tmp 9]) tok Tryz.func27 (by kernel_rfl) rfl Tryz.ntmps27 rfl (by decide) (by simp) ?_
                refine a_seq ?_
                refine a_reg ?_
                repeat (first | refine gZ pk ?_ | (show AL _ _ _ _ _ _ _; first | refine jB (fun u => ?_) | refine jL tok (fun u8 => ?_)))
                refine a_frzBox 1 6 rfl rfl ?_
                refine a_frzBox 1 5 rfl rfl ?_
                refine a_frzBox 1 4 rfl rfl ?_
                repeat (first | refine gV pk ?_ | (show AL _ _ _ _ _ _ _; first | refine jP s1 ?_ | refine jP s2 ?_ | refine jP s3 ?_ | refine jP s4 ?_ | refine jP s5 ?_ | refine jP s6 ?_ | refine jP s7 ?_ | refine jL tok (fun u => ?_) | refine jO tok 0 ?_ | refine jS tok 0 ?_ | refine jS tok 1 ?_))
                refine a_frzBox 1 8 rfl rfl ?_
                refine a_ret ?_
                exact ⟨.inr rfl, _, _, [], rfl, Turn.of (Sub.refl _) (OSub.none _), rfl, rfl⟩
            · rw [nodeR_kk ⟨hV, hk, .inr hz2, fun h => hz1 h.1, fun h => hn0 (by rw [← hn']; exact h.2), fun h => hn1 (by rw [← hn']; exact h.2.1)⟩]
              have s7 := counted_spec s.nodes hV.nodes.srt (by omega) (fun c hc => ⟨hsm c hc, by have := hsn c hc; omega⟩) ⟨k, 0, 0, z⟩ ⟨hxs z, by simp only; omega⟩
              refine a_enterM (rs := [.cell 8 35, .tmp 9]) tok Tryz.func27 (by kernel_rfl) rfl Tryz.ntmps27 rfl (by decide) (by simp) ?_
              refine a_seq ?_
              refine a_reg ?_
              repeat (first | refine gZ pk ?_ | (show AL _ _ _ _ _ _ _; first | refine jB (fun u => ?_) | refine jL tok (fun u8 => ?_)))
              refine a_frzBox 1 6 rfl rfl ?_
              refine a_frzBox 1 5 rfl rfl ?_
              refine a_frzBox 1 4 rfl rfl ?_
              repeat (first | refine gV pk ?_ | (show AL _ _ _ _ _ _ _; first | refine jP s1 ?_ | refine jP s2 ?_ | refine jP s3 ?_ | refine jP s4 ?_ | refine jP s5 ?_ | refine jP s6 ?_ | refine jP s7 ?_ | refine jL tok (fun u => ?_) | refine jO tok 0 ?_ | refine jS tok 0 ?_ | refine jS tok 1 ?_))
              refine a_frzBox 1 8 rfl rfl ?_
              refine a_ret ?_
              exact ⟨.inr rfl, _, _, [], rfl, Turn.of (Sub.refl _) (OSub.none _), rfl, rfl⟩
        · rw [nodeR_er (e := 6) (by unfold nodeE'; rw [if_neg (Decidable.not_not.2 hv), if_pos (.inr ⟨hz1, hz2⟩)]) (by decide)]
          refine a_enterM (rs := [.cell 8 35, .tmp 9]) tok Tryz.func27 (by kernel_rfl) rfl Tryz.ntmps27 rfl (by decide) (by simp) ?_
          refine a_seq ?_
          refine a_reg ?_
          repeat (first | refine gZ pk ?_ | (show AL _ _ _ _ _ _ _; first | refine jB (fun u => ?_) | refine jL tok (fun u8 => ?_)))
          refine a_frzBox 1 6 rfl rfl ?_
          refine a_frzBox 1 5 rfl rfl ?_
          refine a_frzBox 1 4 rfl rfl ?_
          repeat (first | refine gV pk ?_ | (show AL _ _ _ _ _ _ _; first | refine jP s1 ?_ | refine jP s2 ?_ | refine jS tok 0 ?_))
          refine a_frzBox 0 8 rfl rfl ?_
          refine a_ret ?_
          exact ⟨.inr rfl, _, .tup [staA ⟨[], []⟩, AI 6], [], rfl, Turn.of (Sub.tup (l := [.agg [SN0, SN0], AI 6]) ⟨Sub.agg (m := [cntsA [], cntsA []]) ⟨nil_cnts, nil_cnts, trivial⟩, Sub.refl _, trivial⟩) (OSub.none _), rfl, rfl⟩
    · rw [nodeR_er (e := 6) (by unfold nodeE'; rw [if_neg (Decidable.not_not.2 hv), if_pos (.inl hk)]) (by decide)]
      rw [decide_eq_false (by rw [lt]; exact hk)] at s2
      refine a_enterM (rs := [.cell 8 35, .tmp 9]) tok Tryz.func27 (by kernel_rfl) rfl Tryz.ntmps27 rfl (by decide) (by simp) ?_
      refine a_seq ?_
      refine a_reg ?_
      repeat (first | refine gZ pk ?_ | (show AL _ _ _ _ _ _ _; first | refine jB (fun u => ?_) | refine jL tok (fun u8 => ?_)))
      refine a_frzBox 1 6 rfl rfl ?_
      refine a_frzBox 1 5 rfl rfl ?_
      refine a_frzBox 1 4 rfl rfl ?_
      repeat (first | refine gV pk ?_ | (show AL _ _ _ _ _ _ _; first | refine jP s1 ?_ | refine jP s2 ?_ | refine jS tok 0 ?_))
      refine a_frzBox 0 8 rfl rfl ?_
      refine a_ret ?_
      exact ⟨.inr rfl, _, .tup [staA ⟨[], []⟩, AI 6], [], rfl, Turn.of (Sub.tup (l := [.agg [SN0, SN0], AI 6]) ⟨Sub.agg (m := [cntsA [], cntsA []]) ⟨nil_cnts, nil_cnts, trivial⟩, Sub.refl _, trivial⟩) (OSub.none _), rfl, rfl⟩
  · rw [nodeR_er (e := sValid t s) (by unfold nodeE'; rw [if_pos hv]) hv]
    generalize sValid t s = e at *
    refine a_enterM (rs := [.cell 8 35, .tmp 9]) tok Tryz.func27 (by kernel_rfl) rfl Tryz.ntmps27 rfl (by decide) (by simp) ?_
    refine a_seq ?_
    refine a_reg ?_
    repeat (first | refine gZ pk ?_ | (show AL _ _ _ _ _ _ _; first | refine jB (fun u => ?_) | refine jL tok (fun u8 => ?_)))
    refine a_frzBox 1 6 rfl rfl ?_
    refine a_frzBox 1 5 rfl rfl ?_
    refine a_frzBox 1 4 rfl rfl ?_
    repeat (first | refine gV pk ?_ | (show AL _ _ _ _ _ _ _; first | refine jP s1 ?_ | refine jP s2 ?_ | refine jS tok 0 ?_))
    refine a_frzBox 0 8 rfl rfl ?_
    refine a_ret ?_
    exact ⟨.inr rfl, _, .tup [staA ⟨[], []⟩, AI e], [], rfl, Turn.of (Sub.tup (l := [.agg [SN0, SN0], AI e]) ⟨Sub.agg (m := [cntsA [], cntsA []]) ⟨nil_cnts, nil_cnts, trivial⟩, Sub.refl _, trivial⟩) (OSub.none _), rfl, rfl⟩
end Go.Proofs.YtcacbdohlfljfaaGreat

/-
  One change of a statistic: the walks. Conditions: small type graphs, short statistics.
-/
namespace Go.Proofs.YtcacbdohlfljfaaGreat
open Go.Sj Go.Sj.Typ Go.Sj.Sta
set_option linter.unusedVariables false
set_option linter.unusedSimpArgs false
set_option maxHeartbeats 16000000

theorem Edge18_spec (t : Tys) (ht : Small t) (s : Sta) (hs : s.nodes.length ≤ 1000 ∧ s.edges.length ≤ 1000) (e a b z : Int) : Pure Tryz.prog 25 [tysA t, staA s, AI e, AI a, AI b, AI z] (.tup [staA (edgeR t s e a b z).1, AI (edgeR t s e a b z).2]) := by
  have ln : (s.nodes.map cCnt).length = s.nodes.length := by simp
  have le : (s.edges.map cCnt).length = s.edges.length := by simp
  have lt : (t.nodes.map cNod).length = t.nodes.length := by simp
  have lte : (t.edges.map cEdg).length = t.edges.length := by simp
  have htn := ht.nodes
  have hte := ht.edges
  have s1 := sValid_spec t ht s hs
  have s2 := is_spec' e t.edges.length
  rw [← lte] at s2
  have s3 := is_spec' a t.nodes.length
  rw [← lt] at s3
  have s4 := is_spec' b t.nodes.length
  rw [← lt] at s4
  have s5 := Fits_spec t ht e a b
  have s6 := copied_spec s hs.1 hs.2
  by_cases hv : sValid t s = 0
  · have hV := sValid_zero.1 hv
    have hl5 := len_tot hV.nodes.pos
    have hl6 := hV.ntot
    have hl7 := len_tot hV.edges.pos
    have hl8 := hV.etot
    rw [hv] at s1
    by_cases hk : (0 ≤ e ∧ e < t.edges.length) ∧ (0 ≤ a ∧ a < t.nodes.length) ∧ (0 ≤ b ∧ b < t.nodes.length)
    · rw [decide_eq_true (by rw [lte]; exact hk.1)] at s2
      rw [decide_eq_true (by rw [lt]; exact hk.2.1)] at s3
      rw [decide_eq_true (by rw [lt]; exact hk.2.2)] at s4
      have hsm : ∀ c ∈ s.nodes, smC c := fun c hc => nodeOk_sm (n := t.nodes.length) (by omega) (hV.nodes.ok c hc)
      have hse : ∀ c ∈ s.edges, smC c := fun c hc => edgeOk_sm (n := t.nodes.length) (m := t.edges.length) (by omega) (by omega) (hV.edges.ok c hc)
      have hsn : ∀ c ∈ s.edges, 1 ≤ c.nu ∧ c.nu ≤ 80 := fun c hc => (hV.edges.ok c hc).2.2.2
      have hxs : ∀ y, smC ⟨e, a, b, y⟩ := fun y => by unfold smC; simp only; omega
      have s7 := total_spec s.edges (by omega) (fun c hc => by have := hsn c hc; omega)
      have s8 := number_spec s.edges hV.edges.srt (by omega) hse ⟨e, a, b, z⟩ (hxs z)
      obtain ⟨n, hn'⟩ : ∃ n, numK s.edges ⟨e, a, b, z⟩ = n := ⟨_, rfl⟩
      rw [hn'] at s8
      have s9 := has_spec s a hs.1
      have s10 := has_spec s b hs.1
      by_cases hsg : z = 1 ∨ z = -1
      · cases hf : fitsR t e a b with
        | false =>
          rw [hf] at s5
          rw [edgeR_er (e := 13) (by unfold edgeE'; rw [if_neg (Decidable.not_not.2 hv), if_neg (by omega), if_pos hf]) (by decide)]
          rcases hsg with hz1 | hz1
          all_goals
            refine a_enterM (rs := [.cell 12 35, .tmp 13]) tok Tryz.func25 (by kernel_rfl) rfl Tryz.ntmps25 rfl (by decide) (by simp) ?_
            refine a_seq ?_
            refine a_reg ?_
            repeat (first | refine gZ pk ?_ | (show AL _ _ _ _ _ _ _; first | refine jB (fun u => ?_) | refine jL tok (fun u12 => ?_)))
            refine a_frzBox 1 7 rfl rfl ?_
            refine a_frzBox 1 6 rfl rfl ?_
            repeat (first | refine gV pk ?_ | (show AL _ _ _ _ _ _ _; first | refine jP s1 ?_ | refine jP s2 ?_ | refine jP s3 ?_ | refine jP s4 ?_ | refine jP s5 ?_ | refine jS tok 0 ?_))
            refine a_frzBox 0 12 rfl rfl ?_
            refine a_ret ?_
            exact ⟨.inr rfl, _, .tup [staA ⟨[], []⟩, AI 13], [], rfl, Turn.of (Sub.tup (l := [.agg [SN0, SN0], AI 13]) ⟨Sub.agg (m := [cntsA [], cntsA []]) ⟨nil_cnts, nil_cnts, trivial⟩, Sub.refl _, trivial⟩) (OSub.none _), rfl, rfl⟩
        | true =>
          rw [hf] at s5
          by_cases hz1 : z = 1
          · cases ha : hasB s.nodes a with
            | false =>
              rw [ha] at s9
              rw [edgeR_er (e := 10) (by unfold edgeE'; rw [if_neg (Decidable.not_not.2 hv), if_neg (by omega), if_neg (by rw [hf]; decide), if_pos (.inl ⟨hz1, .inl ha⟩)]) (by decide)]
              refine a_enterM (rs := [.cell 12 35, .tmp 13]) tok Tryz.func25 (by kernel_rfl) rfl Tryz.ntmps25 rfl (by decide) (by simp) ?_
              refine a_seq ?_
              refine a_reg ?_
              repeat (first | refine gZ pk ?_ | (show AL _ _ _ _ _ _ _; first | refine jB (fun u => ?_) | refine jL tok (fun u12 => ?_)))
              refine a_frzBox 1 7 rfl rfl ?_
              refine a_frzBox 1 6 rfl rfl ?_
              repeat (first | refine gV pk ?_ | (show AL _ _ _ _ _ _ _; first | refine jP s1 ?_ | refine jP s2 ?_ | refine jP s3 ?_ | refine jP s4 ?_ | refine jP s5 ?_ | refine jP s7 ?_ | refine jP s8 ?_ | refine jP s9 ?_ | refine jP s10 ?_ | refine jL tok (fun u => ?_) | refine jO tok 0 ?_ | refine jS tok 0 ?_ | refine jS tok 1 ?_))
              refine a_frzBox 1 12 rfl rfl ?_
              refine a_ret ?_
              exact ⟨.inr rfl, _, .tup [staA ⟨[], []⟩, AI 10], [], rfl, Turn.of (Sub.tup (l := [.agg [SN0, SN0], AI 10]) ⟨Sub.agg (m := [cntsA [], cntsA []]) ⟨nil_cnts, nil_cnts, trivial⟩, Sub.refl _, trivial⟩) (OSub.none _), rfl, rfl⟩
            | true =>
              rw [ha] at s9
              cases hb : hasB s.nodes b with
              | false =>
                rw [hb] at s10
                rw [edgeR_er (e := 10) (by unfold edgeE'; rw [if_neg (Decidable.not_not.2 hv), if_neg (by omega), if_neg (by rw [hf]; decide), if_pos (.inl ⟨hz1, .inr hb⟩)]) (by decide)]
                refine a_enterM (rs := [.cell 12 35, .tmp 13]) tok Tryz.func25 (by kernel_rfl) rfl Tryz.ntmps25 rfl (by decide) (by simp) ?_
                refine a_seq ?_
                refine a_reg ?_
                repeat (first | refine gZ pk ?_ | (show AL _ _ _ _ _ _ _; first | refine jB (fun u => ?_) | refine jL tok (fun u12 => ?_)))
                refine a_frzBox 1 7 rfl rfl ?_
                refine a_frzBox 1 6 rfl rfl ?_
                repeat (first | refine gV pk ?_ | (show AL _ _ _ _ _ _ _; first | refine jP s1 ?_ | refine jP s2 ?_ | refine jP s3 ?_ | refine jP s4 ?_ | refine jP s5 ?_ | refine jP s7 ?_ | refine jP s8 ?_ | refine jP s9 ?_ | refine jP s10 ?_ | refine jL tok (fun u => ?_) | refine jO tok 0 ?_ | refine jS tok 0 ?_ | refine jS tok 1 ?_))
                refine a_frzBox 1 12 rfl rfl ?_
                refine a_ret ?_
                exact ⟨.inr rfl, _, .tup [staA ⟨[], []⟩, AI 10], [], rfl, Turn.of (Sub.tup (l := [.agg [SN0, SN0], AI 10]) ⟨Sub.agg (m := [cntsA [], cntsA []]) ⟨nil_cnts, nil_cnts, trivial⟩, Sub.refl _, trivial⟩) (OSub.none _), rfl, rfl⟩
              | true =>
                rw [hb] at s10
                by_cases h80 : tot s.edges = 80
                · have hns : ¬ ((z = 1 ∧ (hasB s.nodes a = false ∨ hasB s.nodes b = false)) ∨ (z = -1 ∧ numK s.edges ⟨e, a, b, z⟩ = 0)) := by rw [ha, hb]; rintro (h | h) <;> first | (exact absurd h.2 (by decide)) | (exact absurd h.1 (by omega))
                  rw [edgeR_er (e := 3) (by unfold edgeE'; rw [if_neg (Decidable.not_not.2 hv), if_neg (by omega), if_neg (by rw [hf]; decide), if_neg hns, if_pos ⟨hz1, h80⟩]) (by decide)]
                  refine a_enterM (rs := [.cell 12 35, .tmp 13]) tok Tryz.func25 (by kernel_rfl) rfl Tryz.ntmps25 rfl (by decide) (by simp) ?_
                  refine a_seq ?_
                  refine a_reg ?_
                  repeat (first | refine gZ pk ?_ | (show AL _ _ _ _ _ _ _; first | refine jB (fun u => ?_) | refine jL tok (fun u12 => ?_)))
                  refine a_frzBox 1 7 rfl rfl ?_
                  refine a_frzBox 1 6 rfl rfl ?_
                  repeat (first | refine gV pk ?_ | (show AL _ _ _ _ _ _ _; first | refine jP s1 ?_ | refine jP s2 ?_ | refine jP s3 ?_ | refine jP s4 ?_ | refine jP s5 ?_ | refine jP s7 ?_ | refine jP s8 ?_ | refine jP s9 ?_ | refine jP s10 ?_ | refine jL tok (fun u => ?_) | refine jO tok 0 ?_ | refine jS tok 0 ?_ | refine jS tok 1 ?_))
                  refine a_frzBox 1 12 rfl rfl ?_
                  refine a_ret ?_
                  exact ⟨.inr rfl, _, .tup [staA ⟨[], []⟩, AI 3], [], rfl, Turn.of (Sub.tup (l := [.agg [SN0, SN0], AI 3]) ⟨Sub.agg (m := [cntsA [], cntsA []]) ⟨nil_cnts, nil_cnts, trivial⟩, Sub.refl _, trivial⟩) (OSub.none _), rfl, rfl⟩
                · have hns : ¬ ((z = 1 ∧ (hasB s.nodes a = false ∨ hasB s.nodes b = false)) ∨ (z = -1 ∧ numK s.edges ⟨e, a, b, z⟩ = 0)) := by rw [ha, hb]; rintro (h | h) <;> first | (exact absurd h.2 (by decide)) | (exact absurd h.1 (by omega))
                  have s11 := counted_spec s.edges hV.edges.srt (by omega) (fun c hc => ⟨hse c hc, by have := hsn c hc; omega⟩) ⟨e, a, b, z⟩ ⟨hxs z, by simp only; omega⟩
                  rw [edgeR_kk ⟨hV, hk, hsg, hf, hns, fun h => h80 h.2⟩]
                  refine a_enterM (rs := [.cell 12 35, .tmp 13]) tok Tryz.func25 (by kernel_rfl) rfl Tryz.ntmps25 rfl (by decide) (by simp) ?_
                  refine a_seq ?_
                  refine a_reg ?_
                  repeat (first | refine gZ pk ?_ | (show AL _ _ _ _ _ _ _; first | refine jB (fun u => ?_) | refine jL tok (fun u12 => ?_)))
                  refine a_frzBox 1 7 rfl rfl ?_
                  refine a_frzBox 1 6 rfl rfl ?_
                  repeat (first | refine gV pk ?_ | (show AL _ _ _ _ _ _ _; first | refine jP s1 ?_ | refine jP s2 ?_ | refine jP s3 ?_ | refine jP s4 ?_ | refine jP s5 ?_ | refine jP s6 ?_ | refine jP s7 ?_ | refine jP s8 ?_ | refine jP s9 ?_ | refine jP s10 ?_ | refine jP s11 ?_ | refine jL tok (fun u => ?_) | refine jO tok 0 ?_ | refine jO tok 1 ?_ | refine jS tok 0 ?_ | refine jS tok 1 ?_ | refine jS tok 2 ?_))
                  refine a_frzBox 2 12 rfl rfl ?_
                  refine a_ret ?_
                  exact ⟨.inr rfl, _, _, [], rfl, Turn.of (Sub.refl _) (OSub.none _), rfl, rfl⟩
          · have hz2 : z = -1 := by omega
            by_cases hn0 : n = 0
            · rw [edgeR_er (e := 10) (by unfold edgeE'; rw [if_neg (Decidable.not_not.2 hv), if_neg (by omega), if_neg (by rw [hf]; decide), if_pos (.inr ⟨hz2, by rw [hn']; exact hn0⟩)]) (by decide)]
              refine a_enterM (rs := [.cell 12 35, .tmp 13]) tok Tryz.func25 (by kernel_rfl) rfl Tryz.ntmps25 rfl (by decide) (by simp) ?_
              refine a_seq ?_
              refine a_reg ?_
              repeat (first | refine gZ pk ?_ | (show AL _ _ _ _ _ _ _; first | refine jB (fun u => ?_) | refine jL tok (fun u12 => ?_)))
              refine a_frzBox 1 7 rfl rfl ?_
              refine a_frzBox 1 6 rfl rfl ?_
              repeat (first | refine gV pk ?_ | (show AL _ _ _ _ _ _ _; first | refine jP s1 ?_ | refine jP s2 ?_ | refine jP s3 ?_ | refine jP s4 ?_ | refine jP s5 ?_ | refine jP s7 ?_ | refine jP s8 ?_ | refine jP s9 ?_ | refine jP s10 ?_ | refine jL tok (fun u => ?_) | refine jO tok 0 ?_ | refine jS tok 0 ?_ | refine jS tok 1 ?_))
              refine a_frzBox 1 12 rfl rfl ?_
              refine a_ret ?_
              exact ⟨.inr rfl, _, .tup [staA ⟨[], []⟩, AI 10], [], rfl, Turn.of (Sub.tup (l := [.agg [SN0, SN0], AI 10]) ⟨Sub.agg (m := [cntsA [], cntsA []]) ⟨nil_cnts, nil_cnts, trivial⟩, Sub.refl _, trivial⟩) (OSub.none _), rfl, rfl⟩
            · have hns : ¬ ((z = 1 ∧ (hasB s.nodes a = false ∨ hasB s.nodes b = false)) ∨ (z = -1 ∧ numK s.edges ⟨e, a, b, z⟩ = 0)) := by rintro (h | h); exact absurd h.1 hz1; exact hn0 (by rw [← hn']; exact h.2)
              have s11 := counted_spec s.edges hV.edges.srt (by omega) (fun c hc => ⟨hse c hc, by have := hsn c hc; omega⟩) ⟨e, a, b, z⟩ ⟨hxs z, by simp only; omega⟩
              rw [edgeR_kk ⟨hV, hk, hsg, hf, hns, fun h => hz1 h.1⟩]
              refine a_enterM (rs := [.cell 12 35, .tmp 13]) tok Tryz.func25 (by kernel_rfl) rfl Tryz.ntmps25 rfl (by decide) (by simp) ?_
              refine a_seq ?_
              refine a_reg ?_
              repeat (first | refine gZ pk ?_ | (show AL _ _ _ _ _ _ _; first | refine jB (fun u => ?_) | refine jL tok (fun u12 => ?_)))
              refine a_frzBox 1 7 rfl rfl ?_
              refine a_frzBox 1 6 rfl rfl ?_
              repeat (first | refine gV pk ?_ | (show AL _ _ _ _ _ _ _; first | refine jP s1 ?_ | refine jP s2 ?_ | refine jP s3 ?_ | refine jP s4 ?_ | refine jP s5 ?_ | refine jP s6 ?_ | refine jP s7 ?_ | refine jP s8 ?_ | refine jP s9 ?_ | refine jP s10 ?_ | refine jP s11 ?_ | refine jL tok (fun u => ?_) | refine jO tok 0 ?_ | refine jO tok 1 ?_ | refine jS tok 0 ?_ | refine jS tok 1 ?_ | refine jS tok 2 ?_))
              refine a_frzBox 2 12 rfl rfl ?_
              refine a_ret ?_
              exact ⟨.inr rfl, _, _, [], rfl, Turn.of (Sub.refl _) (OSub.none _), rfl, rfl⟩
      · rw [edgeR_er (e := 6) (by unfold edgeE'; rw [if_neg (Decidable.not_not.2 hv), if_pos (.inr (by omega))]) (by decide)]
        refine a_enterM (rs := [.cell 12 35, .tmp 13]) tok Tryz.func25 (by kernel_rfl) rfl Tryz.ntmps25 rfl (by decide) (by simp) ?_
        refine a_seq ?_
        refine a_reg ?_
        repeat (first | refine gZ pk ?_ | (show AL _ _ _ _ _ _ _; first | refine jB (fun u => ?_) | refine jL tok (fun u12 => ?_)))
        refine a_frzBox 1 7 rfl rfl ?_
        refine a_frzBox 1 6 rfl rfl ?_
        repeat (first | refine gV pk ?_ | (show AL _ _ _ _ _ _ _; first | refine jP s1 ?_ | refine jP s2 ?_ | refine jP s3 ?_ | refine jP s4 ?_ | refine jP s5 ?_ | refine jS tok 0 ?_))
        refine a_frzBox 0 12 rfl rfl ?_
        refine a_ret ?_
        exact ⟨.inr rfl, _, .tup [staA ⟨[], []⟩, AI 6], [], rfl, Turn.of (Sub.tup (l := [.agg [SN0, SN0], AI 6]) ⟨Sub.agg (m := [cntsA [], cntsA []]) ⟨nil_cnts, nil_cnts, trivial⟩, Sub.refl _, trivial⟩) (OSub.none _), rfl, rfl⟩
    · rw [edgeR_er (e := 6) (by unfold edgeE'; rw [if_neg (Decidable.not_not.2 hv), if_pos (.inl hk)]) (by decide)]
      have hcs : ¬ (0 ≤ e ∧ e < t.edges.length) ∨ ((0 ≤ e ∧ e < t.edges.length) ∧ ¬ (0 ≤ a ∧ a < t.nodes.length)) ∨ ((0 ≤ e ∧ e < t.edges.length) ∧ (0 ≤ a ∧ a < t.nodes.length) ∧ ¬ (0 ≤ b ∧ b < t.nodes.length)) := by omega
      rcases hcs with h | ⟨h, h'⟩ | ⟨h, h', h''⟩
      · rw [decide_eq_false (by rw [lte]; exact h)] at s2
        refine a_enterM (rs := [.cell 12 35, .tmp 13]) tok Tryz.func25 (by kernel_rfl) rfl Tryz.ntmps25 rfl (by decide) (by simp) ?_
        refine a_seq ?_
        refine a_reg ?_
        repeat (first | refine gZ pk ?_ | (show AL _ _ _ _ _ _ _; first | refine jB (fun u => ?_) | refine jL tok (fun u12 => ?_)))
        refine a_frzBox 1 7 rfl rfl ?_
        refine a_frzBox 1 6 rfl rfl ?_
        repeat (first | refine gV pk ?_ | (show AL _ _ _ _ _ _ _; first | refine jP s1 ?_ | refine jP s2 ?_ | refine jP s3 ?_ | refine jP s4 ?_ | refine jP s5 ?_ | refine jS tok 0 ?_))
        refine a_frzBox 0 12 rfl rfl ?_
        refine a_ret ?_
        exact ⟨.inr rfl, _, .tup [staA ⟨[], []⟩, AI 6], [], rfl, Turn.of (Sub.tup (l := [.agg [SN0, SN0], AI 6]) ⟨Sub.agg (m := [cntsA [], cntsA []]) ⟨nil_cnts, nil_cnts, trivial⟩, Sub.refl _, trivial⟩) (OSub.none _), rfl, rfl⟩
      · rw [decide_eq_true (by rw [lte]; exact h)] at s2
        rw [decide_eq_false (by rw [lt]; exact h')] at s3
        refine a_enterM (rs := [.cell 12 35, .tmp 13]) tok Tryz.func25 (by kernel_rfl) rfl Tryz.ntmps25 rfl (by decide) (by simp) ?_
        refine a_seq ?_
        refine a_reg ?_
        repeat (first | refine gZ pk ?_ | (show AL _ _ _ _ _ _ _; first | refine jB (fun u => ?_) | refine jL tok (fun u12 => ?_)))
        refine a_frzBox 1 7 rfl rfl ?_
        refine a_frzBox 1 6 rfl rfl ?_
        repeat (first | refine gV pk ?_ | (show AL _ _ _ _ _ _ _; first | refine jP s1 ?_ | refine jP s2 ?_ | refine jP s3 ?_ | refine jP s4 ?_ | refine jP s5 ?_ | refine jS tok 0 ?_))
        refine a_frzBox 0 12 rfl rfl ?_
        refine a_ret ?_
        exact ⟨.inr rfl, _, .tup [staA ⟨[], []⟩, AI 6], [], rfl, Turn.of (Sub.tup (l := [.agg [SN0, SN0], AI 6]) ⟨Sub.agg (m := [cntsA [], cntsA []]) ⟨nil_cnts, nil_cnts, trivial⟩, Sub.refl _, trivial⟩) (OSub.none _), rfl, rfl⟩
      · rw [decide_eq_true (by rw [lte]; exact h)] at s2
        rw [decide_eq_true (by rw [lt]; exact h')] at s3
        rw [decide_eq_false (by rw [lt]; exact h'')] at s4
        refine a_enterM (rs := [.cell 12 35, .tmp 13]) tok Tryz.func25 (by kernel_rfl) rfl Tryz.ntmps25 rfl (by decide) (by simp) ?_
        refine a_seq ?_
        refine a_reg ?_
        repeat (first | refine gZ pk ?_ | (show AL _ _ _ _ _ _ _; first | refine jB (fun u => ?_) | refine jL tok (fun u12 => ?_)))
        refine a_frzBox 1 7 rfl rfl ?_
        refine a_frzBox 1 6 rfl rfl ?_
        repeat (first | refine gV pk ?_ | (show AL _ _ _ _ _ _ _; first | refine jP s1 ?_ | refine jP s2 ?_ | refine jP s3 ?_ | refine jP s4 ?_ | refine jP s5 ?_ | refine jS tok 0 ?_))
        refine a_frzBox 0 12 rfl rfl ?_
        refine a_ret ?_
        exact ⟨.inr rfl, _, .tup [staA ⟨[], []⟩, AI 6], [], rfl, Turn.of (Sub.tup (l := [.agg [SN0, SN0], AI 6]) ⟨Sub.agg (m := [cntsA [], cntsA []]) ⟨nil_cnts, nil_cnts, trivial⟩, Sub.refl _, trivial⟩) (OSub.none _), rfl, rfl⟩
  · rw [edgeR_er (e := sValid t s) (by unfold edgeE'; rw [if_pos hv]) hv]
    generalize sValid t s = x at *
    refine a_enterM (rs := [.cell 12 35, .tmp 13]) tok Tryz.func25 (by kernel_rfl) rfl Tryz.ntmps25 rfl (by decide) (by simp) ?_
    refine a_seq ?_
    refine a_reg ?_
    repeat (first | refine gZ pk ?_ | (show AL _ _ _ _ _ _ _; first | refine jB (fun u => ?_) | refine jL tok (fun u12 => ?_)))
    refine a_frzBox 1 7 rfl rfl ?_
    refine a_frzBox 1 6 rfl rfl ?_
    repeat (first | refine gV pk ?_ | (show AL _ _ _ _ _ _ _; first | refine jP s1 ?_ | refine jP s2 ?_ | refine jP s3 ?_ | refine jP s4 ?_ | refine jP s5 ?_ | refine jS tok 0 ?_))
    refine a_frzBox 0 12 rfl rfl ?_
    refine a_ret ?_
    exact ⟨.inr rfl, _, .tup [staA ⟨[], []⟩, AI x], [], rfl, Turn.of (Sub.tup (l := [.agg [SN0, SN0], AI x]) ⟨Sub.agg (m := [cntsA [], cntsA []]) ⟨nil_cnts, nil_cnts, trivial⟩, Sub.refl _, trivial⟩) (OSub.none _), rfl, rfl⟩
end Go.Proofs.YtcacbdohlfljfaaGreat
