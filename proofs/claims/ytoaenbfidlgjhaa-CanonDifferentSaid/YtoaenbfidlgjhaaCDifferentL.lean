/-
  The law 'CanonDifferent' holds for every input: it returns true and leaves its arguments as they were. No condition.
-/
import Derived.Test.YtoaenbfidlgjhaaRows
import Derived.Test.YtoaenbfidlgjhaaSjQT
import Derived.Test.YtoaenbfidlgjhaaW27
namespace Go.Proofs.Ytoaenbfidlgjhaa
open Go.ChangeShapes Go.WideShapes Go.ChangeAt Go.RowKit Go.Sj
set_option linter.unusedVariables false

theorem canonDifferentOwn : ownKnob Try.prog.godebug = none := by kernel_rfl
theorem canonDifferentLaid : laidOutB Try.prog = true := by kernel_rfl

set_option maxRecDepth 100000 in
theorem canonDifferent_lifted (os : Os) (started : os.Started) (H : Type) (enc : TypeId × Value → H) :
    ReturnsInHanded {} Try.checked os 9 .any (Rows.canonDifferentSpec.pre6 enc Try.prog Try.f9 Rows.canonDifferentRow.domain false) (Rows.canonDifferentSpec.post enc Try.prog Try.f9 false true false false) := by
  refine returnsInHanded_of_change_sized (C := Try.checked) canonDifferentOwn started (by kernel_rfl) Try.func9
    (ChangeSpec.witness6 (enc := enc) (C := Try.checked) false ⟨#[], #[.agg #[.slice none 0 0, .slice none 0 0], .int .u8 0], []⟩ 8 (by kernel_rfl) (by kernel_rfl) (by kernel_rfl) (by kernel_rfl)) ?_
  intro W base args ds gs before hval0 hW hcnd hz0 _
  have hval : ∀ (j : Nat) t v, Try.f9.params[j]? = some t → args[j]? = some v → Value.okWide Try.prog W .any base t v := hval0
  have hW' := hW
  obtain ⟨p, q, hA0, hV, rfl, hfz, hnd⟩ := hW
  have hA : DataW.TrodAll enc Try.prog W 0 (fun _ => true) true Try.f9.params.toList args.toList ds p := hA0
  rw [Try.params9] at hA hval
  obtain ⟨v0, v1, d0, d1, p0, p1, rfl, rfl, rfl, h0, h1⟩ := trodAll_two hA
  obtain ⟨rfl, rfl⟩ := trodVars_none hV
  have hz : (DataW.weightsEach Try.prog Try.f9.params.toList ([d0, d1] ++ [])).all (· ≤ reachBytes) = true := by
    rw [← List.append_nil Try.f9.params.toList]
    exact hz0
  rw [List.append_nil, Try.params9] at hz
  obtain ⟨cs0, rfl, _⟩ := okWide_struct Try.underlying49 (hval 0 49 v0 rfl rfl)
  obtain ⟨x0, hx0, hr0⟩ := arg_readsWS (readsW_struct Try.underlying49 (by kernel_rfl) (by decide) (rfw_cons (readsW_slice (reads_int Try.underlying5 (by kernel_rfl)).w Try.underlying46 (by kernel_rfl) (by kernel_rfl)) rfl (rfw_cons (readsW_slice (reads_arr Try.underlying82 Try.underlying5 (by kernel_rfl) (by kernel_rfl) (by decide)).w Try.underlying47 (by kernel_rfl) (by kernel_rfl)) rfl rfw_nil))) (wgt_at hz (j := 0) rfl rfl) h0
  obtain ⟨n1, rfl⟩ := okWide_int Try.underlying5 (hval 1 5 v1 rfl rfl)
  obtain ⟨x1, hx1, hr1⟩ := arg_readsW (reads_int Try.underlying5 (by kernel_rfl)).w rfl (wgt_at hz (j := 1) rfl rfl) h1
  exact law_call (CanonDifferent_spec (Can.toDr5 x0) (Can.dr5_ok hx0) x1 (wf_n8 hx1)) canonDifferentLaid (by rw [Try.params9]; intro t ht; simp only [List.mem_cons, List.not_mem_nil, or_false] at ht; rcases ht with rfl | rfl <;> exact ⟨by kernel_rfl, by decide +kernel⟩) rfl hW' rfl rfl rfl (B := 4) (by kernel_rfl) Try.underlying4 (.cons ((Can.dr5_vr hx0 hr0)) (.cons (hr1) .nil))

/-- The statement, as it was given. -/
theorem canonDifferent_proved : Rows.CanonDifferentSaid :=
  OpenClaim.holds_of_wide 9 Try.f9 rfl rfl rfl rfl rfl rfl rfl ⟨rfl, rfl, rfl, rfl, rfl⟩ rfl rfl rfl rfl rfl (by kernel_rfl) Try.func9 (by kernel_rfl)
    (of_decide_eq_true (by kernel_rfl)) (by unfold Func.isWrapper; first | (rw [if_pos (by decide +kernel)]; kernel_rfl) | (rw [if_neg (by decide +kernel)]; exact ⟨rfl, rfl⟩))
    (fun os started H enc _ => canonDifferent_lifted os started H enc)

end Go.Proofs.Ytoaenbfidlgjhaa
