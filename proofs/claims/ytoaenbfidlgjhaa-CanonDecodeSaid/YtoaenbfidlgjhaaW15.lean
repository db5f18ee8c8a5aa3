/-
  The law on codes in orders: the walk.
-/
import Derived.Test.YtoaenbfidlgjhaaSjQ8
import Derived.Test.YtoaenbfidlgjhaaW14
import Derived.Test.YtoaenbfidlgjhaaSjM32
namespace Go.Proofs.Ytoaenbfidlgjhaa
open Go.Sj Go.Sj.Typ Go.Sj.Sta Go.Sj.Can
set_option linter.unusedVariables false
set_option linter.unusedSimpArgs false
set_option maxHeartbeats 16000000

theorem light_true {g : Gr} (h : lightB g = true) : g.nodes.length ≤ 45 ∧ g.edges.length ≤ 90 ∧ (cvalid g = 0 → OkS' g) := by
  unfold lightB at h
  simp only [Bool.and_eq_true, Bool.or_eq_true, decide_eq_true_eq] at h
  refine ⟨h.1.1, h.1.2, fun hc => .inl ?_⟩
  rcases h.2 with h2 | h2
  · exact absurd hc h2
  · omega
theorem codeIn_zero {g : Gr} {o : List Int} (h : codeInE g o = 0) : cvalid g = 0 ∧ Cpl g.nodes.length o := by
  unfold codeInE at h
  split at h
  · contradiction
  · rename_i h1
    have h1 := Decidable.not_not.1 h1
    split at h
    · cases h
    · rename_i h2
      split at h
      · cases h
      · rename_i h3
        split at h
        · cases h
        · rename_i h4
          refine ⟨h1, ⟨Decidable.not_not.1 h4, fun x hx => ?_⟩, Decidable.not_not.1 h2⟩
          have := (List.any_eq_false.1 (by simpa using h3)) x hx
          unfold rngB at this
          simp only [Bool.or_eq_true, decide_eq_true_eq, not_or] at this
          omega
theorem codeR_zero {g : Gr} (h : cvalid g = 0) : codeR g = (codG g, 0) := by unfold codeR; rw [if_neg (Decidable.not_not.2 h)]
theorem codG_le {g : Gr} (hg : GV g) (hn : g.nodes.length ≤ 8) : (codG g).length ≤ 200 := by
  rw [codG_len hg, cdK]
  have := Nat.mul_le_mul hn hn
  have := hg.el
  omega
theorem codeIn_le {g : Gr} {o : List Int} : (codeInR g o).1.length ≤ 200 := by
  unfold codeInR
  split
  · exact Nat.zero_le _
  · rename_i h
    obtain ⟨h1, h2⟩ := codeIn_zero (Decidable.not_not.1 h)
    have hV := cvalid_zero.1 h1
    show (cd _ _ _ o).length ≤ 200
    rw [cd_full hV.1 h2, cdK]
    have := Nat.mul_le_mul hV.2 hV.2
    have := hV.1.el
    omega
theorem CanonCodeIn_spec (g : Gr) (hg : OkG g) (o : List Int) (ho : o.length ≤ 140737488355328) : Pure Try.prog 3 [grA g, ints o] (AB true) := by
  have hw := awakeC_spec
  have s1 := Light_spec g hg
  have lo : (rowI o).length = o.length := by simp
  cases hl : lightB g with
  | false =>
    rw [hl] at s1
    refine a_enter Try.func3 (by kernel_rfl) rfl Try.ntmps3 rfl (by simp) ?_; refine a_seq ?_; refine a_reg ?_; (repeat (first | refine gZ pk ?_ | (show AL _ _ _ _ _ _ _; first | refine jB (fun u => ?_)))); refine a_frzBox 0 2 rfl rfl ?_
    repeat (first | refine gA pk ?_ | (show AL _ _ _ _ _ _ _; first | refine jP hw ?_ | refine jP s1 ?_))
    refine finQ ?_
    exact ⟨rfl, rfl⟩
  | true =>
    rw [hl] at s1
    obtain ⟨l1, l2, l3⟩ := light_true hl
    by_cases h50 : o.length ≤ 50
    · have s2 := gCopied_spec g (by omega) (by omega)
      have s3 := (CloneN_spec o (by omega)).pure
      have s4 := CodeIn_spec g hg l3 o (by omega)
      have s5 := rCodeIn_spec g hg o (by omega)
      have hle := codeIn_le (g := g) (o := o)
      have s6 := Equal_spec (codeInR g o).1 (codeInR g o).1 (by omega) (by omega)
      rw [decide_eq_true rfl] at s6
      by_cases he : codeInE g o = 0
      · obtain ⟨hc, ho'⟩ := codeIn_zero he
        have hV := cvalid_zero.1 hc
        have s7 := Code_spec g hg l3
        rw [codeR_zero hc] at s7
        have hr : codeInR g o = (cd (nN g) (tT g) g.nodes.length o, 0) := by unfold codeInR; rw [if_neg (Decidable.not_not.2 he)]
        rw [hr] at s4 s5 s6 hle
        have hmin := (findG_eq g).2.2 o ho'
        have hcl := codG_le hV.1 hV.2
        simp only at hle
        have s8 := Compare_spec (codG g) (cd (nN g) (tT g) g.nodes.length o) (by omega) (by omega)
        generalize cd (nN g) (tT g) g.nodes.length o = c at *
        generalize codG g = d at *
        generalize cmpL d c = z at *
        refine a_enter Try.func3 (by kernel_rfl) rfl Try.ntmps3 rfl (by simp) ?_; refine a_seq ?_; refine a_reg ?_; (repeat (first | refine gZ pk ?_ | (show AL _ _ _ _ _ _ _; first | refine jB (fun u => ?_)))); refine a_frzBox 0 2 rfl rfl ?_
        repeat (first | refine gA pk ?_ | (show AL _ _ _ _ _ _ _; first | refine jP hw ?_ | refine jP s1 ?_ | refine jP s2 ?_ | refine jP s3 ?_ | refine jP s4 ?_ | refine jP s5 ?_ | refine jP s6 ?_ | refine jP s7 ?_ | refine jP s8 ?_))
        refine finQ ?_
        exact ⟨rfl, rfl⟩
      · have hr : codeInR g o = ([], codeInE g o) := by unfold codeInR; rw [if_pos he]
        rw [hr] at s4 s5 s6
        generalize codeInE g o = e at *
        refine a_enter Try.func3 (by kernel_rfl) rfl Try.ntmps3 rfl (by simp) ?_; refine a_seq ?_; refine a_reg ?_; (repeat (first | refine gZ pk ?_ | (show AL _ _ _ _ _ _ _; first | refine jB (fun u => ?_)))); refine a_frzBox 0 2 rfl rfl ?_
        repeat (first | refine gA pk ?_ | (show AL _ _ _ _ _ _ _; first | refine jP hw ?_ | refine jP s1 ?_ | refine jP s2 ?_ | refine jP s3 ?_ | refine jP s4 ?_ | refine jP s5 ?_ | refine jP s6 ?_))
        refine finQ ?_
        exact ⟨rfl, rfl⟩
    · refine a_enter Try.func3 (by kernel_rfl) rfl Try.ntmps3 rfl (by simp) ?_; refine a_seq ?_; refine a_reg ?_; (repeat (first | refine gZ pk ?_ | (show AL _ _ _ _ _ _ _; first | refine jB (fun u => ?_)))); refine a_frzBox 0 2 rfl rfl ?_
      repeat (first | refine gA pk ?_ | (show AL _ _ _ _ _ _ _; first | refine jP hw ?_ | refine jP s1 ?_))
      refine finQ ?_
      exact ⟨rfl, rfl⟩
end Go.Proofs.Ytoaenbfidlgjhaa
