/-
  Parts of the proof of the law IncrementalOpposite (texts IOppL): steps, plain mathematics, contracts of functions. Each theorem states its own conditions.
-/
import Derived.Test.YtddohheabpiljaaGreatRows
import Derived.Test.YtddohheabpiljaaGreatB04
import Derived.Test.YtddohheabpiljaaGreatB51
section
/-
  The law 'IncrementalOpposite' holds for every input: it returns true and leaves its arguments as they were. No condition.
-/
namespace Go.Proofs.YtddohheabpiljaaGreat
open Go.ChangeShapes Go.WideShapes Go.ChangeAt Go.RowKit Go.Sj
set_option maxRecDepth 8000
set_option linter.unusedVariables false

theorem incrementalOppositeOwn : ownKnob Tryz.prog.godebug = none := by kernel_rfl
theorem incrementalOppositeLaid : laidOutB Tryz.prog = true := by kernel_rfl

set_option maxRecDepth 100000 in
theorem incrementalOpposite_lifted (os : Os) (started : os.Started) (H : Type) (enc : TypeId × Value → H) :
    ReturnsInHanded {} Tryz.checked os 8 .any (Rows.incrementalOppositeSpec.pre6 enc Tryz.prog Tryz.f8 Rows.incrementalOppositeRow.domain false) (Rows.incrementalOppositeSpec.post enc Tryz.prog Tryz.f8 false true false false) := by
  refine returnsInHanded_of_change_sized (C := Tryz.checked) incrementalOppositeOwn started (by kernel_rfl) Tryz.func8
    (ChangeSpec.witness6 (enc := enc) (C := Tryz.checked) false ⟨#[], #[.agg #[.slice none 0 0, .slice none 0 0], .agg #[.int .i64 0, .int .i64 0, .int .i64 0, .int .i64 0, .int .i64 0]], []⟩ 8 (by kernel_rfl) (by kernel_rfl) (by kernel_rfl) (by kernel_rfl)) ?_
  intro W base args ds gs before hval0 hW hcnd hz0 _
  have hval : ∀ (j : Nat) t v, Tryz.f8.params[j]? = some t → args[j]? = some v → Value.okWide Tryz.prog W .any base t v := hval0
  have hW' := hW
  obtain ⟨p, q, hA0, hV, rfl, hfz, hnd⟩ := hW
  have hA : DataW.TrodAll enc Tryz.prog W 0 (fun _ => true) true Tryz.f8.params.toList args.toList ds p := hA0
  rw [Tryz.params8] at hA hval
  obtain ⟨v0, v1, d0, d1, p0, p1, rfl, rfl, rfl, h0, h1⟩ := trodAll_two hA
  obtain ⟨rfl, rfl⟩ := trodVars_none hV
  have hz : (DataW.weightsEach Tryz.prog Tryz.f8.params.toList ([d0, d1] ++ [])).all (· ≤ reachBytes) = true := by
    rw [← List.append_nil Tryz.f8.params.toList]
    exact hz0
  rw [List.append_nil, Tryz.params8] at hz
  obtain ⟨cs0, rfl, _⟩ := okWide_struct Tryz.underlying30 (hval 0 30 v0 rfl rfl)
  obtain ⟨x0, hx0, hr0⟩ := arg_readsWS (readsW_struct Tryz.underlying30 (by kernel_rfl) (by decide) (rfw_cons (readsW_slice (reads_int Tryz.underlying3 (by kernel_rfl)).w Tryz.underlying27 (by kernel_rfl) (by kernel_rfl)) rfl (rfw_cons (readsW_slice (readsW_struct Tryz.underlying85 (by kernel_rfl) (by decide) (rfw_cons (reads_int Tryz.underlying3 (by kernel_rfl)).w rfl (rfw_cons (reads_int Tryz.underlying3 (by kernel_rfl)).w rfl (rfw_cons (reads_int Tryz.underlying3 (by kernel_rfl)).w rfl rfw_nil)))) Tryz.underlying28 (by kernel_rfl) (by kernel_rfl)) rfl rfw_nil))) (wgt_at hz (j := 0) rfl rfl) h0
  obtain ⟨cs1, rfl, _⟩ := okWide_struct Tryz.underlying47 (hval 1 47 v1 rfl rfl)
  obtain ⟨x1, hx1, hr1⟩ := arg_readsWS (readsW_struct Tryz.underlying47 (by kernel_rfl) (by decide) (rfw_cons (reads_int Tryz.underlying3 (by kernel_rfl)).w rfl (rfw_cons (reads_int Tryz.underlying3 (by kernel_rfl)).w rfl (rfw_cons (reads_int Tryz.underlying3 (by kernel_rfl)).w rfl (rfw_cons (reads_int Tryz.underlying3 (by kernel_rfl)).w rfl (rfw_cons (reads_int Tryz.underlying3 (by kernel_rfl)).w rfl rfw_nil)))))) (wgt_at hz (j := 1) rfl rfl) h1
  exact law_call (IncrementalOpposite_spec (Sta.toGr x0) (Sta.gr_ok hx0) ⟨x1.1, x1.2.1, x1.2.2.1, x1.2.2.2.1, x1.2.2.2.2.1⟩) incrementalOppositeLaid (by rw [Tryz.params8]; intro t ht; simp only [List.mem_cons, List.not_mem_nil, or_false] at ht; rcases ht with rfl | rfl <;> exact ⟨by kernel_rfl, by decide +kernel⟩) rfl hW' rfl rfl rfl (B := 4) (by kernel_rfl) Tryz.underlying4 (.cons ((Sta.gr_vr hr0)) (.cons (hr1) .nil))

/-- The statement, as it was given. -/
theorem incrementalOpposite_proved : Rows.IncrementalOppositeSaid :=
  OpenClaim.holds_of_wide 8 Tryz.f8 rfl rfl rfl rfl rfl rfl rfl ⟨rfl, rfl, rfl, rfl, rfl⟩ rfl rfl rfl rfl rfl (by kernel_rfl) Tryz.func8 (by kernel_rfl)
    (of_decide_eq_true (by kernel_rfl)) (by unfold Func.isWrapper; first | (rw [if_pos (by decide +kernel)]; kernel_rfl) | (rw [if_neg (by decide +kernel)]; exact ⟨rfl, rfl⟩))
    (fun os started H enc _ => incrementalOpposite_lifted os started H enc)

end Go.Proofs.YtddohheabpiljaaGreat

end
