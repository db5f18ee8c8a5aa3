/-
  One change of a statistic: the walks. Conditions: small type graphs, short statistics.
-/
import Derived.Test.YtcacbdohlfljfaaGreatSjQ8
import Derived.Test.YtcacbdohlfljfaaGreatZ12
import Derived.Test.YtcacbdohlfljfaaGreatZ10r
import Derived.Test.YtcacbdohlfljfaaGreatSjQN
namespace Go.Proofs.YtcacbdohlfljfaaGreat
open Go.Sj Go.Sj.Typ Go.Sj.Sta
set_option linter.unusedVariables false
set_option linter.unusedSimpArgs false
set_option maxHeartbeats 16000000

theorem refEdge18_spec (t : Tys) (ht : Small t) (s : Sta) (hs : s.nodes.length ≤ 1000 ∧ s.edges.length ≤ 1000) (e a b z : Int) : Pure Tryz.prog 26 [tysA t, staA s, AI e, AI a, AI b, AI z] (.tup [staA (edgeR t s e a b z).1, AI (edgeR t s e a b z).2]) := by
  have ln : (s.nodes.map cCnt).length = s.nodes.length := by simp
  have le : (s.edges.map cCnt).length = s.edges.length := by simp
  have lt : (t.nodes.map cNod).length = t.nodes.length := by simp
  have lte : (t.edges.map cEdg).length = t.edges.length := by simp
  have htn := ht.nodes
  have hte := ht.edges
  have s1 := refsValid_spec t ht s hs
  have s2 := refis_spec e t.edges.length
  rw [← lte] at s2
  have s3 := refis_spec a t.nodes.length
  rw [← lt] at s3
  have s4 := refis_spec b t.nodes.length
  rw [← lt] at s4
  have s5 := refFits_spec t ht e a b
  have s6 := refCopied_spec s hs.1 hs.2
  by_cases hv : sValid t s = 0
  · have hV := sValid_zero.1 hv
    have hl5 := len_tot hV.nodes.pos
    have hl6 := hV.ntot
    have hl7 := len_tot hV.edges.pos
    have hl8 := hV.etot
    rw [hv] at s1
    by_cases hk : (0 ≤ e ∧ e < t.edges.length) ∧ (0 ≤ a ∧ a < t.nodes.length) ∧ (0 ≤ b ∧ b < t.nodes.length)
    · rw [decide_eq_true (by rw [lte]; exact hk.1)] at s2
      rw [decide_eq_true (by rw [lt]; exact hk.2.1)] at s3
      rw [decide_eq_true (by rw [lt]; exact hk.2.2)] at s4
      have hsm : ∀ c ∈ s.nodes, smC c := fun c hc => nodeOk_sm (n := t.nodes.length) (by omega) (hV.nodes.ok c hc)
      have hse : ∀ c ∈ s.edges, smC c := fun c hc => edgeOk_sm (n := t.nodes.length) (m := t.edges.length) (by omega) (by omega) (hV.edges.ok c hc)
      have hsn : ∀ c ∈ s.edges, 1 ≤ c.nu ∧ c.nu ≤ 80 := fun c hc => (hV.edges.ok c hc).2.2.2
      have hxs : ∀ y, smC ⟨e, a, b, y⟩ := fun y => by unfold smC; simp only; omega
      have s7 := reftotal_spec s.edges (by omega) (fun c hc => by have := hsn c hc; omega)
      have s8 := refnumber_spec s.edges (by omega) hse ⟨e, a, b, 0⟩ (hxs 0)
      obtain ⟨n, hn⟩ : ∃ n, numK s.edges ⟨e, a, b, 0⟩ = n := ⟨_, rfl⟩
      have hn' : numK s.edges ⟨e, a, b, z⟩ = n := by rw [← hn]; exact numK_z ..
      rw [hn] at s8
      have s9 := refnumber_spec s.nodes (by omega) hsm ⟨a, 0, 0, 0⟩ (by unfold smC; simp only; omega)
      have s10 := refnumber_spec s.nodes (by omega) hsm ⟨b, 0, 0, 0⟩ (by unfold smC; simp only; omega)
      have h9 := has_num hV.nodes.ok a 0
      have h10 := has_num hV.nodes.ok b 0
      generalize numK s.nodes ⟨a, 0, 0, 0⟩ = na at *
      generalize numK s.nodes ⟨b, 0, 0, 0⟩ = nb at *
      by_cases hsg : z = 1 ∨ z = -1
      · cases hf : fitsR t e a b with
        | false =>
          rw [hf] at s5
          rw [edgeR_er (e := 13) (by unfold edgeE'; rw [if_neg (Decidable.not_not.2 hv), if_neg (by omega), if_pos hf]) (by decide)]
          rcases hsg with hz1 | hz1
          all_goals
            refine a_enterM (rs := [.cell 12 35, .tmp 13]) tok Tryz.func26 (by kernel_rfl) rfl Tryz.ntmps26 rfl (by decide) (by simp) ?_
            refine a_seq ?_
            refine a_reg ?_
            repeat (first | refine gZ pk ?_ | (show AL _ _ _ _ _ _ _; first | refine jB (fun u => ?_) | refine jL tok (fun u12 => ?_)))
            refine a_frzBox 1 7 rfl rfl ?_
            refine a_frzBox 1 6 rfl rfl ?_
            repeat (first | refine gV pk ?_ | (show AL _ _ _ _ _ _ _; first | refine jP s1 ?_ | refine jP s2 ?_ | refine jP s3 ?_ | refine jP s4 ?_ | refine jP s5 ?_ | refine jS tok 0 ?_))
            refine a_frzBox 0 12 rfl rfl ?_
            refine a_ret ?_
            exact ⟨.inr rfl, _, .tup [staA ⟨[], []⟩, AI 13], [], rfl, Turn.of (Sub.tup (l := [.agg [SN0, SN0], AI 13]) ⟨Sub.agg (m := [cntsA [], cntsA []]) ⟨nil_cnts, nil_cnts, trivial⟩, Sub.refl _, trivial⟩) (OSub.none _), rfl, rfl⟩
        | true =>
          rw [hf] at s5
          by_cases hz1 : z = 1
          · cases ha : hasB s.nodes a with
            | false =>
              have hna : na = 0 := by rw [ha] at h9; exact of_decide_eq_true (by simpa using h9.symm)
              rw [edgeR_er (e := 10) (by unfold edgeE'; rw [if_neg (Decidable.not_not.2 hv), if_neg (by omega), if_neg (by rw [hf]; decide), if_pos (.inl ⟨hz1, .inl ha⟩)]) (by decide)]
              refine a_enterM (rs := [.cell 12 35, .tmp 13]) tok Tryz.func26 (by kernel_rfl) rfl Tryz.ntmps26 rfl (by decide) (by simp) ?_
              refine a_seq ?_
              refine a_reg ?_
              repeat (first | refine gZ pk ?_ | (show AL _ _ _ _ _ _ _; first | refine jB (fun u => ?_) | refine jL tok (fun u12 => ?_)))
              refine a_frzBox 1 7 rfl rfl ?_
              refine a_frzBox 1 6 rfl rfl ?_
              repeat (first | refine gV pk ?_ | (show AL _ _ _ _ _ _ _; first | refine jP s1 ?_ | refine jP s2 ?_ | refine jP s3 ?_ | refine jP s4 ?_ | refine jP s5 ?_ | refine jP s7 ?_ | refine jP s8 ?_ | refine jP s9 ?_ | refine jP s10 ?_ | refine jL tok (fun u => ?_) | refine jO tok 0 ?_ | refine jS tok 0 ?_ | refine jS tok 1 ?_))
              refine a_frzBox 1 12 rfl rfl ?_
              refine a_ret ?_
              exact ⟨.inr rfl, _, .tup [staA ⟨[], []⟩, AI 10], [], rfl, Turn.of (Sub.tup (l := [.agg [SN0, SN0], AI 10]) ⟨Sub.agg (m := [cntsA [], cntsA []]) ⟨nil_cnts, nil_cnts, trivial⟩, Sub.refl _, trivial⟩) (OSub.none _), rfl, rfl⟩
            | true =>
              have hna : na ≠ 0 := by rw [ha] at h9; simpa using h9.symm
              cases hb : hasB s.nodes b with
              | false =>
                have hnb : nb = 0 := by rw [hb] at h10; exact of_decide_eq_true (by simpa using h10.symm)
                rw [edgeR_er (e := 10) (by unfold edgeE'; rw [if_neg (Decidable.not_not.2 hv), if_neg (by omega), if_neg (by rw [hf]; decide), if_pos (.inl ⟨hz1, .inr hb⟩)]) (by decide)]
                refine a_enterM (rs := [.cell 12 35, .tmp 13]) tok Tryz.func26 (by kernel_rfl) rfl Tryz.ntmps26 rfl (by decide) (by simp) ?_
                refine a_seq ?_
                refine a_reg ?_
                repeat (first | refine gZ pk ?_ | (show AL _ _ _ _ _ _ _; first | refine jB (fun u => ?_) | refine jL tok (fun u12 => ?_)))
                refine a_frzBox 1 7 rfl rfl ?_
                refine a_frzBox 1 6 rfl rfl ?_
                repeat (first | refine gV pk ?_ | (show AL _ _ _ _ _ _ _; first | refine jP s1 ?_ | refine jP s2 ?_ | refine jP s3 ?_ | refine jP s4 ?_ | refine jP s5 ?_ | refine jP s7 ?_ | refine jP s8 ?_ | refine jP s9 ?_ | refine jP s10 ?_ | refine jL tok (fun u => ?_) | refine jO tok 0 ?_ | refine jS tok 0 ?_ | refine jS tok 1 ?_))
                refine a_frzBox 1 12 rfl rfl ?_
                refine a_ret ?_
                exact ⟨.inr rfl, _, .tup [staA ⟨[], []⟩, AI 10], [], rfl, Turn.of (Sub.tup (l := [.agg [SN0, SN0], AI 10]) ⟨Sub.agg (m := [cntsA [], cntsA []]) ⟨nil_cnts, nil_cnts, trivial⟩, Sub.refl _, trivial⟩) (OSub.none _), rfl, rfl⟩
              | true =>
                have hnb : nb ≠ 0 := by rw [hb] at h10; simpa using h10.symm
                by_cases h80 : tot s.edges = 80
                · have hns : ¬ ((z = 1 ∧ (hasB s.nodes a = false ∨ hasB s.nodes b = false)) ∨ (z = -1 ∧ numK s.edges ⟨e, a, b, z⟩ = 0)) := by rw [ha, hb]; rintro (h | h) <;> first | (exact absurd h.2 (by decide)) | (exact absurd h.1 (by omega))
                  rw [edgeR_er (e := 3) (by unfold edgeE'; rw [if_neg (Decidable.not_not.2 hv), if_neg (by omega), if_neg (by rw [hf]; decide), if_neg hns, if_pos ⟨hz1, h80⟩]) (by decide)]
                  refine a_enterM (rs := [.cell 12 35, .tmp 13]) tok Tryz.func26 (by kernel_rfl) rfl Tryz.ntmps26 rfl (by decide) (by simp) ?_
                  refine a_seq ?_
                  refine a_reg ?_
                  repeat (first | refine gZ pk ?_ | (show AL _ _ _ _ _ _ _; first | refine jB (fun u => ?_) | refine jL tok (fun u12 => ?_)))
                  refine a_frzBox 1 7 rfl rfl ?_
                  refine a_frzBox 1 6 rfl rfl ?_
                  repeat (first | refine gV pk ?_ | (show AL _ _ _ _ _ _ _; first | refine jP s1 ?_ | refine jP s2 ?_ | refine jP s3 ?_ | refine jP s4 ?_ | refine jP s5 ?_ | refine jP s7 ?_ | refine jP s8 ?_ | refine jP s9 ?_ | refine jP s10 ?_ | refine jL tok (fun u => ?_) | refine jO tok 0 ?_ | refine jS tok 0 ?_ | refine jS tok 1 ?_))
                  refine a_frzBox 1 12 rfl rfl ?_
                  refine a_ret ?_
                  exact ⟨.inr rfl, _, .tup [staA ⟨[], []⟩, AI 3], [], rfl, Turn.of (Sub.tup (l := [.agg [SN0, SN0], AI 3]) ⟨Sub.agg (m := [cntsA [], cntsA []]) ⟨nil_cnts, nil_cnts, trivial⟩, Sub.refl _, trivial⟩) (OSub.none _), rfl, rfl⟩
                · have hns : ¬ ((z = 1 ∧ (hasB s.nodes a = false ∨ hasB s.nodes b = false)) ∨ (z = -1 ∧ numK s.edges ⟨e, a, b, z⟩ = 0)) := by rw [ha, hb]; rintro (h | h) <;> first | (exact absurd h.2 (by decide)) | (exact absurd h.1 (by omega))
                  have s11 := refchange_spec s.edges hV.edges.srt (by omega) (fun c hc => ⟨hse c hc, by have := hsn c hc; omega⟩) e a b 0 z (hxs 0) (by omega)
                  rw [edgeR_kk ⟨hV, hk, hsg, hf, hns, fun h => h80 h.2⟩]
                  refine a_enterM (rs := [.cell 12 35, .tmp 13]) tok Tryz.func26 (by kernel_rfl) rfl Tryz.ntmps26 rfl (by decide) (by simp) ?_
                  refine a_seq ?_
                  refine a_reg ?_
                  repeat (first | refine gZ pk ?_ | (show AL _ _ _ _ _ _ _; first | refine jB (fun u => ?_) | refine jL tok (fun u12 => ?_)))
                  refine a_frzBox 1 7 rfl rfl ?_
                  refine a_frzBox 1 6 rfl rfl ?_
                  repeat (first | refine gV pk ?_ | (show AL _ _ _ _ _ _ _; first | refine jP s1 ?_ | refine jP s2 ?_ | refine jP s3 ?_ | refine jP s4 ?_ | refine jP s5 ?_ | refine jP s6 ?_ | refine jP s7 ?_ | refine jP s8 ?_ | refine jP s9 ?_ | refine jP s10 ?_ | refine jP s11 ?_ | refine jL tok (fun u => ?_) | refine jO tok 0 ?_ | refine jO tok 1 ?_ | refine jS tok 0 ?_ | refine jS tok 1 ?_ | refine jS tok 2 ?_))
                  refine a_frzBox 2 12 rfl rfl ?_
                  refine a_ret ?_
                  exact ⟨.inr rfl, _, _, [], rfl, Turn.of (Sub.refl _) (OSub.none _), rfl, rfl⟩
          · have hz2 : z = -1 := by omega
            by_cases hn0 : n = 0
            · rw [edgeR_er (e := 10) (by unfold edgeE'; rw [if_neg (Decidable.not_not.2 hv), if_neg (by omega), if_neg (by rw [hf]; decide), if_pos (.inr ⟨hz2, by rw [hn']; exact hn0⟩)]) (by decide)]
              refine a_enterM (rs := [.cell 12 35, .tmp 13]) tok Tryz.func26 (by kernel_rfl) rfl Tryz.ntmps26 rfl (by decide) (by simp) ?_
              refine a_seq ?_
              refine a_reg ?_
              repeat (first | refine gZ pk ?_ | (show AL _ _ _ _ _ _ _; first | refine jB (fun u => ?_) | refine jL tok (fun u12 => ?_)))
              refine a_frzBox 1 7 rfl rfl ?_
              refine a_frzBox 1 6 rfl rfl ?_
              repeat (first | refine gV pk ?_ | (show AL _ _ _ _ _ _ _; first | refine jP s1 ?_ | refine jP s2 ?_ | refine jP s3 ?_ | refine jP s4 ?_ | refine jP s5 ?_ | refine jP s7 ?_ | refine jP s8 ?_ | refine jP s9 ?_ | refine jP s10 ?_ | refine jL tok (fun u => ?_) | refine jO tok 0 ?_ | refine jS tok 0 ?_ | refine jS tok 1 ?_))
              refine a_frzBox 1 12 rfl rfl ?_
              refine a_ret ?_
              exact ⟨.inr rfl, _, .tup [staA ⟨[], []⟩, AI 10], [], rfl, Turn.of (Sub.tup (l := [.agg [SN0, SN0], AI 10]) ⟨Sub.agg (m := [cntsA [], cntsA []]) ⟨nil_cnts, nil_cnts, trivial⟩, Sub.refl _, trivial⟩) (OSub.none _), rfl, rfl⟩
            · have hns : ¬ ((z = 1 ∧ (hasB s.nodes a = false ∨ hasB s.nodes b = false)) ∨ (z = -1 ∧ numK s.edges ⟨e, a, b, z⟩ = 0)) := by rintro (h | h); exact absurd h.1 hz1; exact hn0 (by rw [← hn']; exact h.2)
              have s11 := refchange_spec s.edges hV.edges.srt (by omega) (fun c hc => ⟨hse c hc, by have := hsn c hc; omega⟩) e a b 0 z (hxs 0) (by omega)
              rw [edgeR_kk ⟨hV, hk, hsg, hf, hns, fun h => hz1 h.1⟩]
              refine a_enterM (rs := [.cell 12 35, .tmp 13]) tok Tryz.func26 (by kernel_rfl) rfl Tryz.ntmps26 rfl (by decide) (by simp) ?_
              refine a_seq ?_
              refine a_reg ?_
              repeat (first | refine gZ pk ?_ | (show AL _ _ _ _ _ _ _; first | refine jB (fun u => ?_) | refine jL tok (fun u12 => ?_)))
              refine a_frzBox 1 7 rfl rfl ?_
              refine a_frzBox 1 6 rfl rfl ?_
              repeat (first | refine gV pk ?_ | (show AL _ _ _ _ _ _ _; first | refine jP s1 ?_ | refine jP s2 ?_ | refine jP s3 ?_ | refine jP s4 ?_ | refine jP s5 ?_ | refine jP s6 ?_ | refine jP s7 ?_ | refine jP s8 ?_ | refine jP s9 ?_ | refine jP s10 ?_ | refine jP s11 ?_ | refine jL tok (fun u => ?_) | refine jO tok 0 ?_ | refine jO tok 1 ?_ | refine jS tok 0 ?_ | refine jS tok 1 ?_ | refine jS tok 2 ?_))
              refine a_frzBox 2 12 rfl rfl ?_
              refine a_ret ?_
              exact ⟨.inr rfl, _, _, [], rfl, Turn.of (Sub.refl _) (OSub.none _), rfl, rfl⟩
      · rw [edgeR_er (e := 6) (by unfold edgeE'; rw [if_neg (Decidable.not_not.2 hv), if_pos (.inr (by omega))]) (by decide)]
        refine a_enterM (rs := [.cell 12 35, .tmp 13]) tok Tryz.func26 (by kernel_rfl) rfl Tryz.ntmps26 rfl (by decide) (by simp) ?_
        refine a_seq ?_
        refine a_reg ?_
        repeat (first | refine gZ pk ?_ | (show AL _ _ _ _ _ _ _; first | refine jB (fun u => ?_) | refine jL tok (fun u12 => ?_)))
        refine a_frzBox 1 7 rfl rfl ?_
        refine a_frzBox 1 6 rfl rfl ?_
        repeat (first | refine gV pk ?_ | (show AL _ _ _ _ _ _ _; first | refine jP s1 ?_ | refine jP s2 ?_ | refine jP s3 ?_ | refine jP s4 ?_ | refine jP s5 ?_ | refine jS tok 0 ?_))
        refine a_frzBox 0 12 rfl rfl ?_
        refine a_ret ?_
        exact ⟨.inr rfl, _, .tup [staA ⟨[], []⟩, AI 6], [], rfl, Turn.of (Sub.tup (l := [.agg [SN0, SN0], AI 6]) ⟨Sub.agg (m := [cntsA [], cntsA []]) ⟨nil_cnts, nil_cnts, trivial⟩, Sub.refl _, trivial⟩) (OSub.none _), rfl, rfl⟩
    · rw [edgeR_er (e := 6) (by unfold edgeE'; rw [if_neg (Decidable.not_not.2 hv), if_pos (.inl hk)]) (by decide)]
      have hcs : ¬ (0 ≤ e ∧ e < t.edges.length) ∨ ((0 ≤ e ∧ e < t.edges.length) ∧ ¬ (0 ≤ a ∧ a < t.nodes.length)) ∨ ((0 ≤ e ∧ e < t.edges.length) ∧ (0 ≤ a ∧ a < t.nodes.length) ∧ ¬ (0 ≤ b ∧ b < t.nodes.length)) := by omega
      rcases hcs with h | ⟨h, h'⟩ | ⟨h, h', h''⟩
      · rw [decide_eq_false (by rw [lte]; exact h)] at s2
        refine a_enterM (rs := [.cell 12 35, .tmp 13]) tok Tryz.func26 (by kernel_rfl) rfl Tryz.ntmps26 rfl (by decide) (by simp) ?_
        refine a_seq ?_
        refine a_reg ?_
        repeat (first | refine gZ pk ?_ | (show AL _ _ _ _ _ _ _; first | refine jB (fun u => ?_) | refine jL tok (fun u12 => ?_)))
        refine a_frzBox 1 7 rfl rfl ?_
        refine a_frzBox 1 6 rfl rfl ?_
        repeat (first | refine gV pk ?_ | (show AL _ _ _ _ _ _ _; first | refine jP s1 ?_ | refine jP s2 ?_ | refine jP s3 ?_ | refine jP s4 ?_ | refine jP s5 ?_ | refine jS tok 0 ?_))
        refine a_frzBox 0 12 rfl rfl ?_
        refine a_ret ?_
        exact ⟨.inr rfl, _, .tup [staA ⟨[], []⟩, AI 6], [], rfl, Turn.of (Sub.tup (l := [.agg [SN0, SN0], AI 6]) ⟨Sub.agg (m := [cntsA [], cntsA []]) ⟨nil_cnts, nil_cnts, trivial⟩, Sub.refl _, trivial⟩) (OSub.none _), rfl, rfl⟩
      · rw [decide_eq_true (by rw [lte]; exact h)] at s2
        rw [decide_eq_false (by rw [lt]; exact h')] at s3
        refine a_enterM (rs := [.cell 12 35, .tmp 13]) tok Tryz.func26 (by kernel_rfl) rfl Tryz.ntmps26 rfl (by decide) (by simp) ?_
        refine a_seq ?_
        refine a_reg ?_
        repeat (first | refine gZ pk ?_ | (show AL _ _ _ _ _ _ _; first | refine jB (fun u => ?_) | refine jL tok (fun u12 => ?_)))
        refine a_frzBox 1 7 rfl rfl ?_
        refine a_frzBox 1 6 rfl rfl ?_
        repeat (first | refine gV pk ?_ | (show AL _ _ _ _ _ _ _; first | refine jP s1 ?_ | refine jP s2 ?_ | refine jP s3 ?_ | refine jP s4 ?_ | refine jP s5 ?_ | refine jS tok 0 ?_))
        refine a_frzBox 0 12 rfl rfl ?_
        refine a_ret ?_
        exact ⟨.inr rfl, _, .tup [staA ⟨[], []⟩, AI 6], [], rfl, Turn.of (Sub.tup (l := [.agg [SN0, SN0], AI 6]) ⟨Sub.agg (m := [cntsA [], cntsA []]) ⟨nil_cnts, nil_cnts, trivial⟩, Sub.refl _, trivial⟩) (OSub.none _), rfl, rfl⟩
      · rw [decide_eq_true (by rw [lte]; exact h)] at s2
        rw [decide_eq_true (by rw [lt]; exact h')] at s3
        rw [decide_eq_false (by rw [lt]; exact h'')] at s4
        refine a_enterM (rs := [.cell 12 35, .tmp 13]) tok Tryz.func26 (by kernel_rfl) rfl Tryz.ntmps26 rfl (by decide) (by simp) ?_
        refine a_seq ?_
        refine a_reg ?_
        repeat (first | refine gZ pk ?_ | (show AL _ _ _ _ _ _ _; first | refine jB (fun u => ?_) | refine jL tok (fun u12 => ?_)))
        refine a_frzBox 1 7 rfl rfl ?_
        refine a_frzBox 1 6 rfl rfl ?_
        repeat (first | refine gV pk ?_ | (show AL _ _ _ _ _ _ _; first | refine jP s1 ?_ | refine jP s2 ?_ | refine jP s3 ?_ | refine jP s4 ?_ | refine jP s5 ?_ | refine jS tok 0 ?_))
        refine a_frzBox 0 12 rfl rfl ?_
        refine a_ret ?_
        exact ⟨.inr rfl, _, .tup [staA ⟨[], []⟩, AI 6], [], rfl, Turn.of (Sub.tup (l := [.agg [SN0, SN0], AI 6]) ⟨Sub.agg (m := [cntsA [], cntsA []]) ⟨nil_cnts, nil_cnts, trivial⟩, Sub.refl _, trivial⟩) (OSub.none _), rfl, rfl⟩
  · rw [edgeR_er (e := sValid t s) (by unfold edgeE'; rw [if_pos hv]) hv]
    generalize sValid t s = x at *
    refine a_enterM (rs := [.cell 12 35, .tmp 13]) tok Tryz.func26 (by kernel_rfl) rfl Tryz.ntmps26 rfl (by decide) (by simp) ?_
    refine a_seq ?_
    refine a_reg ?_
    repeat (first | refine gZ pk ?_ | (show AL _ _ _ _ _ _ _; first | refine jB (fun u => ?_) | refine jL tok (fun u12 => ?_)))
    refine a_frzBox 1 7 rfl rfl ?_
    refine a_frzBox 1 6 rfl rfl ?_
    repeat (first | refine gV pk ?_ | (show AL _ _ _ _ _ _ _; first | refine jP s1 ?_ | refine jP s2 ?_ | refine jP s3 ?_ | refine jP s4 ?_ | refine jP s5 ?_ | refine jS tok 0 ?_))
    refine a_frzBox 0 12 rfl rfl ?_
    refine a_ret ?_
    exact ⟨.inr rfl, _, .tup [staA ⟨[], []⟩, AI x], [], rfl, Turn.of (Sub.tup (l := [.agg [SN0, SN0], AI x]) ⟨Sub.agg (m := [cntsA [], cntsA []]) ⟨nil_cnts, nil_cnts, trivial⟩, Sub.refl _, trivial⟩) (OSub.none _), rfl, rfl⟩
end Go.Proofs.YtcacbdohlfljfaaGreat
