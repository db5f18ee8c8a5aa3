/- Parts of a proof. -/
import Derived.Test.YtddohheabpiljaaGreatRows
import Derived.Test.YtddohheabpiljaaGreatE50
set_option linter.unusedVariables false
set_option linter.unusedSimpArgs false
section
namespace Go.Proofs.YtddohheabpiljaaGreat
open Go.ChangeShapes Go.WideShapes Go.ChangeAt Go.RowKit Go.Sj
set_option maxRecDepth 8000
theorem incrementalApplyOwn : ownKnob Tryz.prog.godebug = none := by kernel_rfl
theorem incrementalApplyLaid : laidOutB Tryz.prog = true := by kernel_rfl
set_option maxRecDepth 100000 in
theorem incrementalApply_lifted (os : Os) (started : os.Started) (H : Type) (enc : TypeId × Value → H) :
    ReturnsInHanded {} Tryz.checked os 4 .any (Rows.incrementalApplySpec.pre6 enc Tryz.prog Tryz.f4 Rows.incrementalApplyRow.domain false) (Rows.incrementalApplySpec.post enc Tryz.prog Tryz.f4 false true false false) := by
  refine returnsInHanded_of_change_sized (C := Tryz.checked) incrementalApplyOwn started (by kernel_rfl) Tryz.func4
    (ChangeSpec.witness6 (enc := enc) (C := Tryz.checked) false ⟨#[], #[.agg #[.slice none 0 0, .slice none 0 0, .slice none 0 0, .slice none 0 0, .slice none 0 0, .bool false, .slice none 0 0], .agg #[.int .i64 0, .int .i64 0, .int .i64 0, .int .i64 0, .int .i64 0]], []⟩ 8 (by kernel_rfl) (by kernel_rfl) (by kernel_rfl) (by kernel_rfl)) ?_
  intro W base args ds gs before hval0 hW hcnd hz0 _
  have hval : ∀ (j : Nat) t v, Tryz.f4.params[j]? = some t → args[j]? = some v → Value.okWide Tryz.prog W .any base t v := hval0
  have hW' := hW
  obtain ⟨p, q, hA0, hV, rfl, hfz, hnd⟩ := hW
  have hA : DataW.TrodAll enc Tryz.prog W 0 (fun _ => true) true Tryz.f4.params.toList args.toList ds p := hA0
  rw [Tryz.params4] at hA hval
  obtain ⟨v0, v1, d0, d1, p0, p1, rfl, rfl, rfl, h0, h1⟩ := trodAll_two hA
  obtain ⟨rfl, rfl⟩ := trodVars_none hV
  have hz : (DataW.weightsEach Tryz.prog Tryz.f4.params.toList ([d0, d1] ++ [])).all (· ≤ reachBytes) = true := by
    rw [← List.append_nil Tryz.f4.params.toList]
    exact hz0
  rw [List.append_nil, Tryz.params4] at hz
  obtain ⟨cs0, rfl, _⟩ := okWide_struct Tryz.underlying45 (hval 0 45 v0 rfl rfl)
  obtain ⟨x0, hx0, hr0⟩ := arg_readsWS (readsW_struct Tryz.underlying45 (by kernel_rfl) (by decide) (rfw_cons (readsW_struct Tryz.underlying25 (by kernel_rfl) (by decide) (rfw_cons (readsW_slice (readsW_struct Tryz.underlying112 (by kernel_rfl) (by decide) (rfw_cons (reads_string Tryz.underlying9 (by kernel_rfl)).w rfl (rfw_cons (reads_int Tryz.underlying3 (by kernel_rfl)).w rfl (rfw_cons (reads_bool Tryz.underlying4 (by kernel_rfl)).w rfl (rfw_cons (readsW_slice (readsW_struct Tryz.underlying109 (by kernel_rfl) (by decide) (rfw_cons (reads_string Tryz.underlying9 (by kernel_rfl)).w rfl (rfw_cons (reads_int Tryz.underlying3 (by kernel_rfl)).w rfl (rfw_cons (reads_int Tryz.underlying3 (by kernel_rfl)).w rfl (rfw_cons (readsW_slice (reads_string Tryz.underlying9 (by kernel_rfl)).w Tryz.underlying107 (by kernel_rfl) (by kernel_rfl)) rfl rfw_nil))))) Tryz.underlying110 (by kernel_rfl) (by kernel_rfl)) rfl rfw_nil))))) Tryz.underlying22 (by kernel_rfl) (by kernel_rfl)) rfl (rfw_cons (readsW_slice (readsW_struct Tryz.underlying114 (by kernel_rfl) (by decide) (rfw_cons (reads_string Tryz.underlying9 (by kernel_rfl)).w rfl (rfw_cons (reads_int Tryz.underlying3 (by kernel_rfl)).w rfl (rfw_cons (reads_int Tryz.underlying3 (by kernel_rfl)).w rfl (rfw_cons (reads_int Tryz.underlying3 (by kernel_rfl)).w rfl (rfw_cons (reads_int Tryz.underlying3 (by kernel_rfl)).w rfl (rfw_cons (reads_int Tryz.underlying3 (by kernel_rfl)).w rfl (rfw_cons (reads_int Tryz.underlying3 (by kernel_rfl)).w rfl rfw_nil)))))))) Tryz.underlying23 (by kernel_rfl) (by kernel_rfl)) rfl rfw_nil))) rfl (rfw_cons (readsW_struct Tryz.underlying37 (by kernel_rfl) (by decide) (rfw_cons (readsW_slice (readsW_struct Tryz.underlying30 (by kernel_rfl) (by decide) (rfw_cons (readsW_slice (reads_int Tryz.underlying3 (by kernel_rfl)).w Tryz.underlying27 (by kernel_rfl) (by kernel_rfl)) rfl (rfw_cons (readsW_slice (readsW_struct Tryz.underlying85 (by kernel_rfl) (by decide) (rfw_cons (reads_int Tryz.underlying3 (by kernel_rfl)).w rfl (rfw_cons (reads_int Tryz.underlying3 (by kernel_rfl)).w rfl (rfw_cons (reads_int Tryz.underlying3 (by kernel_rfl)).w rfl rfw_nil)))) Tryz.underlying28 (by kernel_rfl) (by kernel_rfl)) rfl rfw_nil))) Tryz.underlying26 (by kernel_rfl) (by kernel_rfl)) rfl (rfw_cons (readsW_struct Tryz.underlying30 (by kernel_rfl) (by decide) (rfw_cons (readsW_slice (reads_int Tryz.underlying3 (by kernel_rfl)).w Tryz.underlying27 (by kernel_rfl) (by kernel_rfl)) rfl (rfw_cons (readsW_slice (readsW_struct Tryz.underlying85 (by kernel_rfl) (by decide) (rfw_cons (reads_int Tryz.underlying3 (by kernel_rfl)).w rfl (rfw_cons (reads_int Tryz.underlying3 (by kernel_rfl)).w rfl (rfw_cons (reads_int Tryz.underlying3 (by kernel_rfl)).w rfl rfw_nil)))) Tryz.underlying28 (by kernel_rfl) (by kernel_rfl)) rfl rfw_nil))) rfl (rfw_cons (reads_bool Tryz.underlying4 (by kernel_rfl)).w rfl (rfw_cons (readsW_slice (readsW_slice (readsW_struct Tryz.underlying95 (by kernel_rfl) (by decide) (rfw_cons (readsW_slice (reads_int Tryz.underlying3 (by kernel_rfl)).w Tryz.underlying27 (by kernel_rfl) (by kernel_rfl)) rfl (rfw_cons (readsW_slice (reads_int Tryz.underlying3 (by kernel_rfl)).w Tryz.underlying27 (by kernel_rfl) (by kernel_rfl)) rfl rfw_nil))) Tryz.underlying70 (by kernel_rfl) (by kernel_rfl)) Tryz.underlying35 (by kernel_rfl) (by kernel_rfl)) rfl rfw_nil))))) rfl rfw_nil))) (wgt_at hz (j := 0) rfl rfl) h0
  obtain ⟨cs1, rfl, _⟩ := okWide_struct Tryz.underlying47 (hval 1 47 v1 rfl rfl)
  obtain ⟨x1, hx1, hr1⟩ := arg_readsWS (readsW_struct Tryz.underlying47 (by kernel_rfl) (by decide) (rfw_cons (reads_int Tryz.underlying3 (by kernel_rfl)).w rfl (rfw_cons (reads_int Tryz.underlying3 (by kernel_rfl)).w rfl (rfw_cons (reads_int Tryz.underlying3 (by kernel_rfl)).w rfl (rfw_cons (reads_int Tryz.underlying3 (by kernel_rfl)).w rfl (rfw_cons (reads_int Tryz.underlying3 (by kernel_rfl)).w rfl rfw_nil)))))) (wgt_at hz (j := 1) rfl rfl) h1
  exact law_call (IncrementalApply_spec (toTys x0.1) (tys_ok hx0.1) (toWat x0.2.1) (wat_ok hx0.2.1 (fun m h => Sta.gr_ok h) (fun h => Sta.gr_ok h) (fun m h => ⟨h.1.2, h.2.1.2⟩)) ⟨x1.1, x1.2.1, x1.2.2.1, x1.2.2.2.1, x1.2.2.2.2.1⟩) incrementalApplyLaid (by rw [Tryz.params4]; intro t ht; simp only [List.mem_cons, List.not_mem_nil, or_false] at ht; rcases ht with rfl | rfl <;> exact ⟨by kernel_rfl, by decide +kernel⟩) rfl hW' rfl rfl rfl (B := 4) (by kernel_rfl) Tryz.underlying4 (.cons ((wtd_vr hr0)) (.cons (hr1) .nil))
theorem incrementalApply_proved : Rows.IncrementalApplySaid :=
  OpenClaim.holds_of_wide 4 Tryz.f4 rfl rfl rfl rfl rfl rfl rfl ⟨rfl, rfl, rfl, rfl, rfl⟩ rfl rfl rfl rfl rfl (by kernel_rfl) Tryz.func4 (by kernel_rfl)
    (of_decide_eq_true (by kernel_rfl)) (by unfold Func.isWrapper; first | (rw [if_pos (by decide +kernel)]; kernel_rfl) | (rw [if_neg (by decide +kernel)]; exact ⟨rfl, rfl⟩))
    (fun os started H enc _ => incrementalApply_lifted os started H enc)
end Go.Proofs.YtddohheabpiljaaGreat
end
