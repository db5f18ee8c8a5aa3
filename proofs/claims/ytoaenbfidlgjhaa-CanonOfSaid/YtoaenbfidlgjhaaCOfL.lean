/-
  The law 'CanonOf' holds for every input: it returns true and leaves its arguments as they were. No condition.
-/
import Derived.Test.YtoaenbfidlgjhaaRows
import Derived.Test.YtoaenbfidlgjhaaSjQT
import Derived.Test.YtoaenbfidlgjhaaW24
namespace Go.Proofs.Ytoaenbfidlgjhaa
open Go.ChangeShapes Go.WideShapes Go.ChangeAt Go.RowKit Go.Sj
set_option linter.unusedVariables false

theorem canonOfOwn : ownKnob Try.prog.godebug = none := by kernel_rfl
theorem canonOfLaid : laidOutB Try.prog = true := by kernel_rfl

set_option maxRecDepth 100000 in
theorem canonOf_lifted (os : Os) (started : os.Started) (H : Type) (enc : TypeId × Value → H) :
    ReturnsInHanded {} Try.checked os 5 .any (Rows.canonOfSpec.pre6 enc Try.prog Try.f5 Rows.canonOfRow.domain false) (Rows.canonOfSpec.post enc Try.prog Try.f5 false true false false) := by
  refine returnsInHanded_of_change_sized (C := Try.checked) canonOfOwn started (by kernel_rfl) Try.func5
    (ChangeSpec.witness6 (enc := enc) (C := Try.checked) false ⟨#[], #[.agg #[.slice none 0 0, .slice none 0 0]], []⟩ 8 (by kernel_rfl) (by kernel_rfl) (by kernel_rfl) (by kernel_rfl)) ?_
  intro W base args ds gs before hval0 hW hcnd hz0 _
  have hval : ∀ (j : Nat) t v, Try.f5.params[j]? = some t → args[j]? = some v → Value.okWide Try.prog W .any base t v := hval0
  have hW' := hW
  obtain ⟨p, q, hA0, hV, rfl, hfz, hnd⟩ := hW
  have hA : DataW.TrodAll enc Try.prog W 0 (fun _ => true) true Try.f5.params.toList args.toList ds p := hA0
  rw [Try.params5] at hA hval
  obtain ⟨v0, d0, rfl, rfl, h0⟩ := trodAll_one hA
  obtain ⟨rfl, rfl⟩ := trodVars_none hV
  have hz : (DataW.weightsEach Try.prog Try.f5.params.toList ([d0] ++ [])).all (· ≤ reachBytes) = true := by
    rw [← List.append_nil Try.f5.params.toList]
    exact hz0
  rw [List.append_nil, Try.params5] at hz
  obtain ⟨cs0, rfl, _⟩ := okWide_struct Try.underlying25 (hval 0 25 v0 rfl rfl)
  obtain ⟨x0, hx0, hr0⟩ := arg_readsWS (readsW_struct Try.underlying25 (by kernel_rfl) (by decide) (rfw_cons (readsW_slice (reads_int Try.underlying3 (by kernel_rfl)).w Try.underlying22 (by kernel_rfl) (by kernel_rfl)) rfl (rfw_cons (readsW_slice (readsW_struct Try.underlying60 (by kernel_rfl) (by decide) (rfw_cons (reads_int Try.underlying3 (by kernel_rfl)).w rfl (rfw_cons (reads_int Try.underlying3 (by kernel_rfl)).w rfl (rfw_cons (reads_int Try.underlying3 (by kernel_rfl)).w rfl rfw_nil)))) Try.underlying23 (by kernel_rfl) (by kernel_rfl)) rfl rfw_nil))) (wgt_at hz (j := 0) rfl rfl) h0
  exact law_call (CanonOf_spec (Sta.toGr x0) (Sta.gr_ok hx0)) canonOfLaid (by rw [Try.params5]; intro t ht; simp only [List.mem_cons, List.not_mem_nil, or_false] at ht; rcases ht with rfl <;> exact ⟨by kernel_rfl, by decide +kernel⟩) rfl hW' rfl rfl rfl (B := 4) (by kernel_rfl) Try.underlying4 (.cons ((Sta.gr_vr hr0)) .nil)

/-- The statement, as it was given. -/
theorem canonOf_proved : Rows.CanonOfSaid :=
  OpenClaim.holds_of_wide 5 Try.f5 rfl rfl rfl rfl rfl rfl rfl ⟨rfl, rfl, rfl, rfl, rfl⟩ rfl rfl rfl rfl rfl (by kernel_rfl) Try.func5 (by kernel_rfl)
    (of_decide_eq_true (by kernel_rfl)) (by unfold Func.isWrapper; first | (rw [if_pos (by decide +kernel)]; kernel_rfl) | (rw [if_neg (by decide +kernel)]; exact ⟨rfl, rfl⟩))
    (fun os started H enc _ => canonOf_lifted os started H enc)

end Go.Proofs.Ytoaenbfidlgjhaa
