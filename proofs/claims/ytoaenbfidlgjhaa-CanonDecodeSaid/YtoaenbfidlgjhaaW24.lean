/-
  The law on canonical graphs: the walk.
-/
import Derived.Test.YtoaenbfidlgjhaaSjQ8
import Derived.Test.YtoaenbfidlgjhaaW23
import Derived.Test.YtoaenbfidlgjhaaW18
namespace Go.Proofs.Ytoaenbfidlgjhaa
open Go.Sj Go.Sj.Typ Go.Sj.Sta Go.Sj.Can
set_option linter.unusedVariables false
set_option linter.unusedSimpArgs false
set_option maxHeartbeats 16000000

theorem canR_le (g : Gr) : ((canR g).1.nodes.length ≤ 1000 ∧ (canR g).1.edges.length ≤ 1000) ∧ (canR g).2.1.1.length ≤ 1000 ∧ (canR g).2.1.2.length ≤ 1000 := by
  unfold canR
  split
  · exact ⟨⟨Nat.zero_le _, Nat.zero_le _⟩, Nat.zero_le _, Nat.zero_le _⟩
  · rename_i h
    have hV := (cvalid_zero.1 (Decidable.not_not.1 h)).1
    obtain ⟨l1, l2⟩ := canG_len hV
    have := hV.nl
    have := hV.el
    refine ⟨⟨by show (canG g).nodes.length ≤ _; omega, by show (canG g).edges.length ≤ _; omega⟩, ?_, ?_⟩
    · show (ms g.nodes.length (ordG g)).length ≤ 1000
      rw [ms_len]; omega
    · show (ms g.edges.length (canE g (ordG g))).length ≤ 1000
      rw [ms_len]; omega
theorem canReorder_spec (g : Gr) (hG : GV g) : Pure Try.prog 24 [grA g, morA (canM g)] (.tup [grA (canG g), AI 0]) := by
  have ho := (findG_eq g).2.1
  have := gReorder_spec g hG _ _ (ms_prm ho.prm) (ms_prm (canE_prm hG ho))
  rw [reG_cgr hG ho] at this
  exact this
theorem CanonOf_spec (g : Gr) (hg : OkG g) : Pure Try.prog 5 [grA g] (AB true) := by
  have hw := awakeC_spec
  have s1 := Light_spec g hg
  cases hl : lightB g with
  | false =>
    rw [hl] at s1
    refine a_enter Try.func5 (by kernel_rfl) rfl Try.ntmps5 rfl (by simp) ?_; refine a_seq ?_; refine a_reg ?_; (repeat (first | refine gZ pk ?_ | (show AL _ _ _ _ _ _ _; first | refine jB (fun u => ?_)))); refine a_frzBox 0 1 rfl rfl ?_
    repeat (first | refine gA pk ?_ | (show AL _ _ _ _ _ _ _; first | refine jP hw ?_ | refine jP s1 ?_))
    refine finQ ?_
    exact ⟨rfl, rfl⟩
  | true =>
    rw [hl] at s1
    obtain ⟨l1, l2, l3⟩ := light_true hl
    have s2 := gCopied_spec g (by omega) (by omega)
    have s3 := COf_spec g hg l3
    have s4 := rOf_spec g hg
    obtain ⟨b1, b2, b3⟩ := canR_le g
    have s5 := gSame_spec (canR g).1 (canR g).1 ⟨by omega, by omega⟩ ⟨by omega, by omega⟩
    rw [gSame_self] at s5
    have s6 := Equal_spec (canR g).2.1.1 (canR g).2.1.1 (by omega) (by omega)
    have s7 := Equal_spec (canR g).2.1.2 (canR g).2.1.2 (by omega) (by omega)
    rw [decide_eq_true rfl] at s6 s7
    clear b1 b2 b3
    have s8 := fun hc : cvalid g = 0 => canReorder_spec g (cvalid_zero.1 hc).1
    unfold canR at s3 s4 s5 s6 s7
    by_cases hc : cvalid g = 0
    · rw [if_neg (Decidable.not_not.2 hc)] at s3 s4 s5 s6 s7
      replace s8 := s8 hc
      generalize canG g = c at *
      generalize canM g = m at *
      obtain ⟨c1, c2⟩ := c
      obtain ⟨m1, m2⟩ := m
      try simp only at s3 s4 s5 s6 s7 s8
      refine a_enter Try.func5 (by kernel_rfl) rfl Try.ntmps5 rfl (by simp) ?_; refine a_seq ?_; refine a_reg ?_; (repeat (first | refine gZ pk ?_ | (show AL _ _ _ _ _ _ _; first | refine jB (fun u => ?_)))); refine a_frzBox 0 1 rfl rfl ?_
      repeat (first | refine gA pk ?_ | (show AL _ _ _ _ _ _ _; first | refine jP hw ?_ | refine jP s1 ?_ | refine jP s2 ?_ | refine jP s3 ?_ | refine jP s4 ?_ | refine jP s5 ?_ | refine jP s6 ?_ | refine jP s7 ?_ | refine jP s8 ?_ | refine jL tok (fun u => ?_) | refine jS tok 0 ?_ | refine jS tok 1 ?_ | refine jS tok 2 ?_ | refine jS tok 3 ?_ | refine jS tok 4 ?_ | refine jO tok 0 ?_ | refine jO tok 1 ?_ | refine jO tok 2 ?_ | refine jO tok 3 ?_ | refine jO tok 4 ?_))
      refine finQ ?_
      exact ⟨rfl, rfl⟩
    · rw [if_pos hc] at s3 s4 s5 s6 s7
      clear s8
      generalize cvalid g = e at *
      try simp only at s3 s4 s5 s6 s7
      refine a_enter Try.func5 (by kernel_rfl) rfl Try.ntmps5 rfl (by simp) ?_; refine a_seq ?_; refine a_reg ?_; (repeat (first | refine gZ pk ?_ | (show AL _ _ _ _ _ _ _; first | refine jB (fun u => ?_)))); refine a_frzBox 0 1 rfl rfl ?_
      repeat (first | refine gA pk ?_ | (show AL _ _ _ _ _ _ _; first | refine jP hw ?_ | refine jP s1 ?_ | refine jP s2 ?_ | refine jP s3 ?_ | refine jP s4 ?_ | refine jP s5 ?_ | refine jP s6 ?_ | refine jP s7 ?_ | refine jL tok (fun u => ?_) | refine jS tok 0 ?_ | refine jS tok 1 ?_ | refine jS tok 2 ?_ | refine jS tok 3 ?_ | refine jS tok 4 ?_ | refine jO tok 0 ?_ | refine jO tok 1 ?_ | refine jO tok 2 ?_ | refine jO tok 3 ?_ | refine jO tok 4 ?_))
      refine finQ ?_
      exact ⟨rfl, rfl⟩
end Go.Proofs.Ytoaenbfidlgjhaa
