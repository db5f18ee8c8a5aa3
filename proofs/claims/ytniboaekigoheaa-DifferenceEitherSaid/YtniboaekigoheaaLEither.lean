/-
  The law 'DifferenceEither' holds for every input: it returns true and leaves its arguments as they were. No condition.
-/
import Derived.Test.YtniboaekigoheaaRows
import Derived.Test.YtniboaekigoheaaSjT2
import Derived.Test.YtniboaekigoheaaD30
namespace Go.Proofs.Ytniboaekigoheaa
open Go.ChangeShapes Go.WideShapes Go.ChangeAt Go.RowKit Go.Sj
set_option linter.unusedVariables false

theorem differenceEitherOwn : ownKnob Try.prog.godebug = none := by kernel_rfl
theorem differenceEitherLaid : laidOutB Try.prog = true := by kernel_rfl

set_option maxRecDepth 100000 in
theorem differenceEither_lifted (os : Os) (started : os.Started) (H : Type) (enc : TypeId × Value → H) :
    ReturnsInHanded {} Try.checked os 4 .any (Rows.differenceEitherSpec.pre6 enc Try.prog Try.f4 Rows.differenceEitherRow.domain false) (Rows.differenceEitherSpec.post enc Try.prog Try.f4 false true false false) := by
  refine returnsInHanded_of_change (C := Try.checked) differenceEitherOwn started (by kernel_rfl) Try.func4
    (ChangeSpec.witness6 (enc := enc) (C := Try.checked) false ⟨#[], #[.int .u8 0, .slice none 0 0], []⟩ 8 (by kernel_rfl) (by kernel_rfl) (by kernel_rfl) (by kernel_rfl)) ?_
  intro W base args ds gs before hval0 hW hcnd _
  have hval : ∀ (j : Nat) t v, Try.f4.params[j]? = some t → args[j]? = some v → Value.okWide Try.prog W .any base t v := hval0
  have hW' := hW
  obtain ⟨p, q, hA0, hV, rfl, hfz, hnd⟩ := hW
  have hA : DataW.TrodAll enc Try.prog W 0 (fun _ => true) true Try.f4.params.toList args.toList ds p := hA0
  rw [Try.params4] at hA hval
  obtain ⟨v0, v1, d0, d1, p0, p1, rfl, rfl, rfl, h0, h1⟩ := trodAll_two hA
  obtain ⟨rfl, rfl⟩ := trodVars_none hV
  obtain ⟨n0, rfl⟩ := okWide_int Try.underlying5 (hval 0 5 v0 rfl rfl)
  obtain ⟨x0, hx0, hr0⟩ := arg_reads (reads_int Try.underlying5 (by kernel_rfl)) rfl h0
  obtain ⟨a1, len1, cap1, rfl⟩ := okWide_slice Try.underlying33 (hval 1 33 v1 rfl rfl)
  obtain ⟨x1, hx1, hr1⟩ := arg_reads (reads_slice (reads_arr Try.underlying44 Try.underlying43 (by kernel_rfl) (by kernel_rfl) (by decide)) Try.underlying33 (by kernel_rfl)) rfl h1
  exact law_call (DifferenceEither_spec x0 (wf_n8 hx0) (x1.map toC8) (codes_ok hx1)) differenceEitherLaid (by rw [Try.params4]; intro t ht; simp only [List.mem_cons, List.not_mem_nil, or_false] at ht; rcases ht with rfl | rfl <;> exact ⟨by kernel_rfl, by decide +kernel⟩) rfl hW' rfl rfl rfl (B := 4) (by kernel_rfl) Try.underlying4 (.cons (hr0) (.cons ((codes_vr hx1 hr1)) .nil))

/-- The statement, as it was given. -/
theorem differenceEither_proved : Rows.DifferenceEitherSaid :=
  OpenClaim.holds_of_wide 4 Try.f4 rfl rfl rfl rfl rfl rfl rfl ⟨rfl, rfl, rfl, rfl, rfl⟩ rfl rfl rfl rfl rfl (by kernel_rfl) Try.func4 (by kernel_rfl)
    (of_decide_eq_true (by kernel_rfl)) (by unfold Func.isWrapper; first | (rw [if_pos (by decide +kernel)]; kernel_rfl) | (rw [if_neg (by decide +kernel)]; exact ⟨rfl, rfl⟩))
    (fun os started H enc _ => differenceEither_lifted os started H enc)

end Go.Proofs.Ytniboaekigoheaa
