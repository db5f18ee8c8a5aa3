/-
  The law 'PartitionLattice' holds for every input: it returns true and leaves its arguments as they were. No condition.
-/
import Derived.Test.YtjkgjlaockihaaaRows
import Derived.Test.YtjkgjlaockihaaaSjT
import Derived.Test.YtjkgjlaockihaaaP16
namespace Go.Proofs.Ytjkgjlaockihaaa
open Go.ChangeShapes Go.WideShapes Go.ChangeAt Go.RowKit Go.Sj
set_option linter.unusedVariables false

theorem partitionLatticeOwn : ownKnob Try.prog.godebug = none := by kernel_rfl
theorem partitionLatticeLaid : laidOutB Try.prog = true := by kernel_rfl

set_option maxRecDepth 100000 in
theorem partitionLattice_lifted (os : Os) (started : os.Started) (H : Type) (enc : TypeId × Value → H) :
    ReturnsInHanded {} Try.checked os 6 .any (Rows.partitionLatticeSpec.pre6 enc Try.prog Try.f6 Rows.partitionLatticeRow.domain false) (Rows.partitionLatticeSpec.post enc Try.prog Try.f6 false true false false) := by
  refine returnsInHanded_of_change (C := Try.checked) partitionLatticeOwn started (by kernel_rfl) Try.func6
    (ChangeSpec.witness6 (enc := enc) (C := Try.checked) false ⟨#[], #[.slice none 0 0, .slice none 0 0, .slice none 0 0], []⟩ 8 (by kernel_rfl) (by kernel_rfl) (by kernel_rfl) (by kernel_rfl)) ?_
  intro W base args ds gs before hval0 hW hcnd _
  have hval : ∀ (j : Nat) t v, Try.f6.params[j]? = some t → args[j]? = some v → Value.okWide Try.prog W .any base t v := hval0
  have hW' := hW
  obtain ⟨p, q, hA0, hV, rfl, hfz, hnd⟩ := hW
  have hA : DataW.TrodAll enc Try.prog W 0 (fun _ => true) true Try.f6.params.toList args.toList ds p := hA0
  rw [Try.params6] at hA hval
  obtain ⟨v0, v1, v2, d0, d1, d2, p0, p1, p2, rfl, rfl, rfl, h0, h1, h2⟩ := trodAll_three hA
  obtain ⟨rfl, rfl⟩ := trodVars_none hV
  obtain ⟨a0, len0, cap0, rfl⟩ := okWide_slice Try.underlying37 (hval 0 37 v0 rfl rfl)
  obtain ⟨x0, hx0, hr0⟩ := arg_reads (reads_slice (reads_int Try.underlying5 (by kernel_rfl)) Try.underlying37 (by kernel_rfl)) rfl h0
  obtain ⟨a1, len1, cap1, rfl⟩ := okWide_slice Try.underlying37 (hval 1 37 v1 rfl rfl)
  obtain ⟨x1, hx1, hr1⟩ := arg_reads (reads_slice (reads_int Try.underlying5 (by kernel_rfl)) Try.underlying37 (by kernel_rfl)) rfl h1
  obtain ⟨a2, len2, cap2, rfl⟩ := okWide_slice Try.underlying37 (hval 2 37 v2 rfl rfl)
  obtain ⟨x2, hx2, hr2⟩ := arg_reads (reads_slice (reads_int Try.underlying5 (by kernel_rfl)) Try.underlying37 (by kernel_rfl)) rfl h2
  exact law_call (PartitionLattice_spec x0 hx0 x1 hx1 x2 hx2) partitionLatticeLaid (by rw [Try.params6]; intro t ht; simp only [List.mem_cons, List.not_mem_nil, or_false] at ht; rcases ht with rfl | rfl | rfl <;> exact ⟨by kernel_rfl, by decide +kernel⟩) rfl hW' rfl rfl rfl (B := 4) (by kernel_rfl) Try.underlying4 (.cons hr0 (.cons hr1 (.cons hr2 .nil)))

/-- The statement, as it was given. -/
theorem partitionLattice_proved : Rows.PartitionLatticeSaid :=
  OpenClaim.holds_of_wide 6 Try.f6 rfl rfl rfl rfl rfl rfl rfl ⟨rfl, rfl, rfl, rfl, rfl⟩ rfl rfl rfl rfl rfl (by kernel_rfl) Try.func6 (by kernel_rfl)
    (of_decide_eq_true (by kernel_rfl)) (by unfold Func.isWrapper; first | (rw [if_pos (by decide +kernel)]; kernel_rfl) | (rw [if_neg (by decide +kernel)]; exact ⟨rfl, rfl⟩))
    (fun os started H enc _ => partitionLattice_lifted os started H enc)

end Go.Proofs.Ytjkgjlaockihaaa
