/-
  The law 'CanonDecode' holds for every input: it returns true and leaves its arguments as they were. No condition.
-/
import Derived.Test.YtoaenbfidlgjhaaRows
import Derived.Test.YtoaenbfidlgjhaaSjQT
import Derived.Test.YtoaenbfidlgjhaaW32
namespace Go.Proofs.Ytoaenbfidlgjhaa
open Go.ChangeShapes Go.WideShapes Go.ChangeAt Go.RowKit Go.Sj
set_option linter.unusedVariables false

theorem canonDecodeOwn : ownKnob Try.prog.godebug = none := by kernel_rfl
theorem canonDecodeLaid : laidOutB Try.prog = true := by kernel_rfl

set_option maxRecDepth 100000 in
theorem canonDecode_lifted (os : Os) (started : os.Started) (H : Type) (enc : TypeId × Value → H) :
    ReturnsInHanded {} Try.checked os 10 .any (Rows.canonDecodeSpec.pre6 enc Try.prog Try.f10 Rows.canonDecodeRow.domain false) (Rows.canonDecodeSpec.post enc Try.prog Try.f10 false true false false) := by
  refine returnsInHanded_of_change_sized (C := Try.checked) canonDecodeOwn started (by kernel_rfl) Try.func10
    (ChangeSpec.witness6 (enc := enc) (C := Try.checked) false ⟨#[], #[.slice none 0 0], []⟩ 8 (by kernel_rfl) (by kernel_rfl) (by kernel_rfl) (by kernel_rfl)) ?_
  intro W base args ds gs before hval0 hW hcnd hz0 _
  have hval : ∀ (j : Nat) t v, Try.f10.params[j]? = some t → args[j]? = some v → Value.okWide Try.prog W .any base t v := hval0
  have hW' := hW
  obtain ⟨p, q, hA0, hV, rfl, hfz, hnd⟩ := hW
  have hA : DataW.TrodAll enc Try.prog W 0 (fun _ => true) true Try.f10.params.toList args.toList ds p := hA0
  rw [Try.params10] at hA hval
  obtain ⟨v0, d0, rfl, rfl, h0⟩ := trodAll_one hA
  obtain ⟨rfl, rfl⟩ := trodVars_none hV
  have hz : (DataW.weightsEach Try.prog Try.f10.params.toList ([d0] ++ [])).all (· ≤ reachBytes) = true := by
    rw [← List.append_nil Try.f10.params.toList]
    exact hz0
  rw [List.append_nil, Try.params10] at hz
  obtain ⟨a0, len0, cap0, rfl⟩ := okWide_slice Try.underlying22 (hval 0 22 v0 rfl rfl)
  obtain ⟨x0, hx0, hr0⟩ := arg_readsW (readsW_slice (reads_int Try.underlying3 (by kernel_rfl)).w Try.underlying22 (by kernel_rfl) (by kernel_rfl)) rfl (wgt_at hz (j := 0) rfl rfl) h0
  exact law_call (CanonDecode_spec x0 (Can.ints_ok hx0)) canonDecodeLaid (by rw [Try.params10]; intro t ht; simp only [List.mem_cons, List.not_mem_nil, or_false] at ht; rcases ht with rfl <;> exact ⟨by kernel_rfl, by decide +kernel⟩) rfl hW' rfl rfl rfl (B := 4) (by kernel_rfl) Try.underlying4 (.cons (hr0) .nil)

/-- The statement, as it was given. -/
theorem canonDecode_proved : Rows.CanonDecodeSaid :=
  OpenClaim.holds_of_wide 10 Try.f10 rfl rfl rfl rfl rfl rfl rfl ⟨rfl, rfl, rfl, rfl, rfl⟩ rfl rfl rfl rfl rfl (by kernel_rfl) Try.func10 (by kernel_rfl)
    (of_decide_eq_true (by kernel_rfl)) (by unfold Func.isWrapper; first | (rw [if_pos (by decide +kernel)]; kernel_rfl) | (rw [if_neg (by decide +kernel)]; exact ⟨rfl, rfl⟩))
    (fun os started H enc _ => canonDecode_lifted os started H enc)

end Go.Proofs.Ytoaenbfidlgjhaa
