/-
  The law 'PartitionValid' holds for every input: it returns true and leaves its arguments as they were. No condition.
-/
import Derived.Test.YtjkgjlaockihaaaRows
import Derived.Test.YtjkgjlaockihaaaSjT
import Derived.Test.YtjkgjlaockihaaaP14
namespace Go.Proofs.Ytjkgjlaockihaaa
open Go.ChangeShapes Go.WideShapes Go.ChangeAt Go.RowKit Go.Sj
set_option linter.unusedVariables false

theorem partitionValidOwn : ownKnob Try.prog.godebug = none := by kernel_rfl
theorem partitionValidLaid : laidOutB Try.prog = true := by kernel_rfl

set_option maxRecDepth 100000 in
theorem partitionValid_lifted (os : Os) (started : os.Started) (H : Type) (enc : TypeId × Value → H) :
    ReturnsInHanded {} Try.checked os 8 .any (Rows.partitionValidSpec.pre6 enc Try.prog Try.f8 Rows.partitionValidRow.domain false) (Rows.partitionValidSpec.post enc Try.prog Try.f8 false true false false) := by
  refine returnsInHanded_of_change (C := Try.checked) partitionValidOwn started (by kernel_rfl) Try.func8
    (ChangeSpec.witness6 (enc := enc) (C := Try.checked) false ⟨#[], #[.slice none 0 0], []⟩ 8 (by kernel_rfl) (by kernel_rfl) (by kernel_rfl) (by kernel_rfl)) ?_
  intro W base args ds gs before hval0 hW hcnd _
  have hval : ∀ (j : Nat) t v, Try.f8.params[j]? = some t → args[j]? = some v → Value.okWide Try.prog W .any base t v := hval0
  have hW' := hW
  obtain ⟨p, q, hA0, hV, rfl, hfz, hnd⟩ := hW
  have hA : DataW.TrodAll enc Try.prog W 0 (fun _ => true) true Try.f8.params.toList args.toList ds p := hA0
  rw [Try.params8] at hA hval
  obtain ⟨v0, d0, rfl, rfl, h0⟩ := trodAll_one hA
  obtain ⟨rfl, rfl⟩ := trodVars_none hV
  obtain ⟨a0, len0, cap0, rfl⟩ := okWide_slice Try.underlying28 (hval 0 28 v0 rfl rfl)
  obtain ⟨x0, hx0, hr0⟩ := arg_reads (reads_slice (reads_int Try.underlying3 (by kernel_rfl)) Try.underlying28 (by kernel_rfl)) rfl h0
  exact law_call (PartitionValid_spec x0) partitionValidLaid (by rw [Try.params8]; intro t ht; simp only [List.mem_cons, List.not_mem_nil, or_false] at ht; rcases ht with rfl <;> exact ⟨by kernel_rfl, by decide +kernel⟩) rfl hW' rfl rfl rfl (B := 4) (by kernel_rfl) Try.underlying4 (.cons hr0 .nil)

/-- The statement, as it was given. -/
theorem partitionValid_proved : Rows.PartitionValidSaid :=
  OpenClaim.holds_of_wide 8 Try.f8 rfl rfl rfl rfl rfl rfl rfl ⟨rfl, rfl, rfl, rfl, rfl⟩ rfl rfl rfl rfl rfl (by kernel_rfl) Try.func8 (by kernel_rfl)
    (of_decide_eq_true (by kernel_rfl)) (by unfold Func.isWrapper; first | (rw [if_pos (by decide +kernel)]; kernel_rfl) | (rw [if_neg (by decide +kernel)]; exact ⟨rfl, rfl⟩))
    (fun os started H enc _ => partitionValid_lifted os started H enc)

end Go.Proofs.Ytjkgjlaockihaaa
