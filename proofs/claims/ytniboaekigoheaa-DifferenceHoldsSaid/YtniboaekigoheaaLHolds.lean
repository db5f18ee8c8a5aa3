/-
  The law 'DifferenceHolds' holds for every input: it returns true and leaves its arguments as they were. No condition.
-/
import Derived.Test.YtniboaekigoheaaRows
import Derived.Test.YtniboaekigoheaaSjT2
import Derived.Test.YtniboaekigoheaaD25
namespace Go.Proofs.Ytniboaekigoheaa
open Go.ChangeShapes Go.WideShapes Go.ChangeAt Go.RowKit Go.Sj
set_option linter.unusedVariables false

theorem differenceHoldsOwn : ownKnob Try.prog.godebug = none := by kernel_rfl
theorem differenceHoldsLaid : laidOutB Try.prog = true := by kernel_rfl

set_option maxRecDepth 100000 in
theorem differenceHolds_lifted (os : Os) (started : os.Started) (H : Type) (enc : TypeId × Value → H) :
    ReturnsInHanded {} Try.checked os 11 .any (Rows.differenceHoldsSpec.pre6 enc Try.prog Try.f11 Rows.differenceHoldsRow.domain false) (Rows.differenceHoldsSpec.post enc Try.prog Try.f11 false true false false) := by
  refine returnsInHanded_of_change (C := Try.checked) differenceHoldsOwn started (by kernel_rfl) Try.func11
    (ChangeSpec.witness6 (enc := enc) (C := Try.checked) false ⟨#[], #[.agg #[.int .i64 0, .int .i64 0, .int .i64 0, .int .i64 0, .int .i64 0], .slice none 0 0], []⟩ 8 (by kernel_rfl) (by kernel_rfl) (by kernel_rfl) (by kernel_rfl)) ?_
  intro W base args ds gs before hval0 hW hcnd _
  have hval : ∀ (j : Nat) t v, Try.f11.params[j]? = some t → args[j]? = some v → Value.okWide Try.prog W .any base t v := hval0
  have hW' := hW
  obtain ⟨p, q, hA0, hV, rfl, hfz, hnd⟩ := hW
  have hA : DataW.TrodAll enc Try.prog W 0 (fun _ => true) true Try.f11.params.toList args.toList ds p := hA0
  rw [Try.params11] at hA hval
  obtain ⟨v0, v1, d0, d1, p0, p1, rfl, rfl, rfl, h0, h1⟩ := trodAll_two hA
  obtain ⟨rfl, rfl⟩ := trodVars_none hV
  obtain ⟨cs0, rfl, _⟩ := okWide_struct Try.underlying26 (hval 0 26 v0 rfl rfl)
  obtain ⟨x0, hx0, hr0⟩ := arg_readsS (reads_struct Try.underlying26 (by kernel_rfl) (by decide) (rf_cons (reads_int Try.underlying3 (by kernel_rfl)) rfl (rf_cons (reads_struct Try.underlying24 (by kernel_rfl) (by decide) (rf_cons (reads_int Try.underlying3 (by kernel_rfl)) rfl (rf_cons (reads_int Try.underlying3 (by kernel_rfl)) rfl rf_nil))) rfl (rf_cons (reads_struct Try.underlying24 (by kernel_rfl) (by decide) (rf_cons (reads_int Try.underlying3 (by kernel_rfl)) rfl (rf_cons (reads_int Try.underlying3 (by kernel_rfl)) rfl rf_nil))) rfl rf_nil)))) h0
  obtain ⟨a1, len1, cap1, rfl⟩ := okWide_slice Try.underlying36 (hval 1 36 v1 rfl rfl)
  obtain ⟨x1, hx1, hr1⟩ := arg_reads (reads_slice (reads_int Try.underlying3 (by kernel_rfl)) Try.underlying36 (by kernel_rfl)) rfl h1
  exact law_call (DifferenceHolds_spec (toT x0) (x1.map fun x => x)) differenceHoldsLaid (by rw [Try.params11]; intro t ht; simp only [List.mem_cons, List.not_mem_nil, or_false] at ht; rcases ht with rfl | rfl <;> exact ⟨by kernel_rfl, by decide +kernel⟩) rfl hW' rfl rfl rfl (B := 4) (by kernel_rfl) Try.underlying4 (.cons (hr0) (.cons (conv_im (c := cI) (fun x => x) (fun _ => rfl) hr1) .nil))

/-- The statement, as it was given. -/
theorem differenceHolds_proved : Rows.DifferenceHoldsSaid :=
  OpenClaim.holds_of_wide 11 Try.f11 rfl rfl rfl rfl rfl rfl rfl ⟨rfl, rfl, rfl, rfl, rfl⟩ rfl rfl rfl rfl rfl (by kernel_rfl) Try.func11 (by kernel_rfl)
    (of_decide_eq_true (by kernel_rfl)) (by unfold Func.isWrapper; first | (rw [if_pos (by decide +kernel)]; kernel_rfl) | (rw [if_neg (by decide +kernel)]; exact ⟨rfl, rfl⟩))
    (fun os started H enc _ => differenceHolds_lifted os started H enc)

end Go.Proofs.Ytniboaekigoheaa
