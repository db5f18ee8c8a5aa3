/-
  The law 'DifferenceSolve' holds for every input: it returns true and leaves its arguments as they were. No condition.
-/
import Derived.Test.YtniboaekigoheaaRows
import Derived.Test.YtniboaekigoheaaSjT2
import Derived.Test.YtniboaekigoheaaD26
namespace Go.Proofs.Ytniboaekigoheaa
open Go.ChangeShapes Go.WideShapes Go.ChangeAt Go.RowKit Go.Sj
set_option linter.unusedVariables false

theorem differenceSolveOwn : ownKnob Try.prog.godebug = none := by kernel_rfl
theorem differenceSolveLaid : laidOutB Try.prog = true := by kernel_rfl

set_option maxRecDepth 100000 in
theorem differenceSolve_lifted (os : Os) (started : os.Started) (H : Type) (enc : TypeId × Value → H) :
    ReturnsInHanded {} Try.checked os 10 .any (Rows.differenceSolveSpec.pre6 enc Try.prog Try.f10 Rows.differenceSolveRow.domain false) (Rows.differenceSolveSpec.post enc Try.prog Try.f10 false true false false) := by
  refine returnsInHanded_of_change (C := Try.checked) differenceSolveOwn started (by kernel_rfl) Try.func10
    (ChangeSpec.witness6 (enc := enc) (C := Try.checked) false ⟨#[], #[.int .i64 0, .slice none 0 0], []⟩ 8 (by kernel_rfl) (by kernel_rfl) (by kernel_rfl) (by kernel_rfl)) ?_
  intro W base args ds gs before hval0 hW hcnd _
  have hval : ∀ (j : Nat) t v, Try.f10.params[j]? = some t → args[j]? = some v → Value.okWide Try.prog W .any base t v := hval0
  have hW' := hW
  obtain ⟨p, q, hA0, hV, rfl, hfz, hnd⟩ := hW
  have hA : DataW.TrodAll enc Try.prog W 0 (fun _ => true) true Try.f10.params.toList args.toList ds p := hA0
  rw [Try.params10] at hA hval
  obtain ⟨v0, v1, d0, d1, p0, p1, rfl, rfl, rfl, h0, h1⟩ := trodAll_two hA
  obtain ⟨rfl, rfl⟩ := trodVars_none hV
  obtain ⟨n0, rfl⟩ := okWide_int Try.underlying3 (hval 0 3 v0 rfl rfl)
  obtain ⟨x0, hx0, hr0⟩ := arg_reads (reads_int Try.underlying3 (by kernel_rfl)) rfl h0
  obtain ⟨a1, len1, cap1, rfl⟩ := okWide_slice Try.underlying22 (hval 1 22 v1 rfl rfl)
  obtain ⟨x1, hx1, hr1⟩ := arg_reads (reads_slice (reads_struct Try.underlying26 (by kernel_rfl) (by decide) (rf_cons (reads_int Try.underlying3 (by kernel_rfl)) rfl (rf_cons (reads_struct Try.underlying24 (by kernel_rfl) (by decide) (rf_cons (reads_int Try.underlying3 (by kernel_rfl)) rfl (rf_cons (reads_int Try.underlying3 (by kernel_rfl)) rfl rf_nil))) rfl (rf_cons (reads_struct Try.underlying24 (by kernel_rfl) (by decide) (rf_cons (reads_int Try.underlying3 (by kernel_rfl)) rfl (rf_cons (reads_int Try.underlying3 (by kernel_rfl)) rfl rf_nil))) rfl rf_nil)))) Try.underlying22 (by kernel_rfl)) rfl h1
  exact law_call (DifferenceSolve_spec x0 (x1.map toT)) differenceSolveLaid (by rw [Try.params10]; intro t ht; simp only [List.mem_cons, List.not_mem_nil, or_false] at ht; rcases ht with rfl | rfl <;> exact ⟨by kernel_rfl, by decide +kernel⟩) rfl hW' rfl rfl rfl (B := 4) (by kernel_rfl) Try.underlying4 (.cons (hr0) (.cons (conv_im (c := Dif.cT) toT (fun _ => rfl) hr1) .nil))

/-- The statement, as it was given. -/
theorem differenceSolve_proved : Rows.DifferenceSolveSaid :=
  OpenClaim.holds_of_wide 10 Try.f10 rfl rfl rfl rfl rfl rfl rfl ⟨rfl, rfl, rfl, rfl, rfl⟩ rfl rfl rfl rfl rfl (by kernel_rfl) Try.func10 (by kernel_rfl)
    (of_decide_eq_true (by kernel_rfl)) (by unfold Func.isWrapper; first | (rw [if_pos (by decide +kernel)]; kernel_rfl) | (rw [if_neg (by decide +kernel)]; exact ⟨rfl, rfl⟩))
    (fun os started H enc _ => differenceSolve_lifted os started H enc)

end Go.Proofs.Ytniboaekigoheaa
