/-
  The law 'PartitionQuotient' holds for every input: it returns true and leaves its arguments as they were. No condition.
-/
import Derived.Test.YtjkgjlaockihaaaRows
import Derived.Test.YtjkgjlaockihaaaSjT
import Derived.Test.YtjkgjlaockihaaaP17
namespace Go.Proofs.Ytjkgjlaockihaaa
open Go.ChangeShapes Go.WideShapes Go.ChangeAt Go.RowKit Go.Sj
set_option linter.unusedVariables false

theorem partitionQuotientOwn : ownKnob Try.prog.godebug = none := by kernel_rfl
theorem partitionQuotientLaid : laidOutB Try.prog = true := by kernel_rfl

set_option maxRecDepth 100000 in
theorem partitionQuotient_lifted (os : Os) (started : os.Started) (H : Type) (enc : TypeId × Value → H) :
    ReturnsInHanded {} Try.checked os 7 .any (Rows.partitionQuotientSpec.pre6 enc Try.prog Try.f7 Rows.partitionQuotientRow.domain false) (Rows.partitionQuotientSpec.post enc Try.prog Try.f7 false true false false) := by
  refine returnsInHanded_of_change (C := Try.checked) partitionQuotientOwn started (by kernel_rfl) Try.func7
    (ChangeSpec.witness6 (enc := enc) (C := Try.checked) false ⟨#[], #[.slice none 0 0], []⟩ 8 (by kernel_rfl) (by kernel_rfl) (by kernel_rfl) (by kernel_rfl)) ?_
  intro W base args ds gs before hval0 hW hcnd _
  have hval : ∀ (j : Nat) t v, Try.f7.params[j]? = some t → args[j]? = some v → Value.okWide Try.prog W .any base t v := hval0
  have hW' := hW
  obtain ⟨p, q, hA0, hV, rfl, hfz, hnd⟩ := hW
  have hA : DataW.TrodAll enc Try.prog W 0 (fun _ => true) true Try.f7.params.toList args.toList ds p := hA0
  rw [Try.params7] at hA hval
  obtain ⟨v0, d0, rfl, rfl, h0⟩ := trodAll_one hA
  obtain ⟨rfl, rfl⟩ := trodVars_none hV
  obtain ⟨a0, len0, cap0, rfl⟩ := okWide_slice Try.underlying37 (hval 0 37 v0 rfl rfl)
  obtain ⟨x0, hx0, hr0⟩ := arg_reads (reads_slice (reads_int Try.underlying5 (by kernel_rfl)) Try.underlying37 (by kernel_rfl)) rfl h0
  exact law_call (PartitionQuotient_spec x0 hx0) partitionQuotientLaid (by rw [Try.params7]; intro t ht; simp only [List.mem_cons, List.not_mem_nil, or_false] at ht; rcases ht with rfl <;> exact ⟨by kernel_rfl, by decide +kernel⟩) rfl hW' rfl rfl rfl (B := 4) (by kernel_rfl) Try.underlying4 (.cons hr0 .nil)

/-- The statement, as it was given. -/
theorem partitionQuotient_proved : Rows.PartitionQuotientSaid :=
  OpenClaim.holds_of_wide 7 Try.f7 rfl rfl rfl rfl rfl rfl rfl ⟨rfl, rfl, rfl, rfl, rfl⟩ rfl rfl rfl rfl rfl (by kernel_rfl) Try.func7 (by kernel_rfl)
    (of_decide_eq_true (by kernel_rfl)) (by unfold Func.isWrapper; first | (rw [if_pos (by decide +kernel)]; kernel_rfl) | (rw [if_neg (by decide +kernel)]; exact ⟨rfl, rfl⟩))
    (fun os started H enc _ => partitionQuotient_lifted os started H enc)

end Go.Proofs.Ytjkgjlaockihaaa
