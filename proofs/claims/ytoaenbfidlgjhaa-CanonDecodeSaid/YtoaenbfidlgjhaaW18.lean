/-
  The law on codes: the walk; graphs compared.
-/
import Derived.Test.YtoaenbfidlgjhaaSjQ8
import Derived.Test.YtoaenbfidlgjhaaW17
import Derived.Test.YtoaenbfidlgjhaaW15
namespace Go.Proofs.Ytoaenbfidlgjhaa
open Go.Sj Go.Sj.Typ Go.Sj.Sta Go.Sj.Can
set_option linter.unusedVariables false
set_option linter.unusedSimpArgs false
set_option maxHeartbeats 16000000

theorem codeR_le (g : Gr) : (codeR g).1.length ≤ 200 := by
  unfold codeR
  split
  · exact Nat.zero_le _
  · rename_i h
    have hV := cvalid_zero.1 (Decidable.not_not.1 h)
    exact codG_le hV.1 hV.2
theorem CanonCode_spec (g : Gr) (hg : OkG g) : Pure Try.prog 4 [grA g] (AB true) := by
  have hw := awakeC_spec
  have s1 := Light_spec g hg
  cases hl : lightB g with
  | false =>
    rw [hl] at s1
    refine a_enter Try.func4 (by kernel_rfl) rfl Try.ntmps4 rfl (by simp) ?_; refine a_seq ?_; refine a_reg ?_; (repeat (first | refine gZ pk ?_ | (show AL _ _ _ _ _ _ _; first | refine jB (fun u => ?_)))); refine a_frzBox 0 1 rfl rfl ?_
    repeat (first | refine gA pk ?_ | (show AL _ _ _ _ _ _ _; first | refine jP hw ?_ | refine jP s1 ?_))
    refine finQ ?_
    exact ⟨rfl, rfl⟩
  | true =>
    rw [hl] at s1
    obtain ⟨l1, l2, l3⟩ := light_true hl
    have s2 := gCopied_spec g (by omega) (by omega)
    have s4 := Code_spec g hg l3
    have s5 := rCode_spec g hg
    have hle := codeR_le g
    have s6 := Equal_spec (codeR g).1 (codeR g).1 (by omega) (by omega)
    rw [decide_eq_true rfl] at s6
    obtain ⟨c, e⟩ := codeR g
    try simp only at s4 s5 s6
    refine a_enter Try.func4 (by kernel_rfl) rfl Try.ntmps4 rfl (by simp) ?_; refine a_seq ?_; refine a_reg ?_; (repeat (first | refine gZ pk ?_ | (show AL _ _ _ _ _ _ _; first | refine jB (fun u => ?_)))); refine a_frzBox 0 1 rfl rfl ?_
    repeat (first | refine gA pk ?_ | (show AL _ _ _ _ _ _ _; first | refine jP hw ?_ | refine jP s1 ?_ | refine jP s2 ?_ | refine jP s4 ?_ | refine jP s5 ?_ | refine jP s6 ?_))
    refine finQ ?_
    exact ⟨rfl, rfl⟩
end Go.Proofs.Ytoaenbfidlgjhaa
