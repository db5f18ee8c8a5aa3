/- Parts of a proof. -/
import Derived.Test.YtimfponihbfimaaGreatRows
import Derived.Test.YtimfponihbfimaaGreatP52
set_option linter.unusedVariables false
set_option linter.unusedSimpArgs false
section
namespace Go.Proofs.YtimfponihbfimaaGreat
open Go.ChangeShapes Go.WideShapes Go.ChangeAt Go.RowKit Go.Sj
set_option maxRecDepth 8000
theorem planCostOwn : ownKnob Tryz.prog.godebug = none := by kernel_rfl
theorem planCostLaid : laidOutB Tryz.prog = true := by kernel_rfl
set_option maxRecDepth 100000 in
theorem planCost_lifted (os : Os) (started : os.Started) (H : Type) (enc : TypeId × Value → H) :
    ReturnsInHanded {} Tryz.checked os 7 .any (Rows.planCostSpec.pre6 enc Tryz.prog Tryz.f7 Rows.planCostRow.domain false) (Rows.planCostSpec.post enc Tryz.prog Tryz.f7 false true false false) := by
  refine returnsInHanded_of_change_sized (C := Tryz.checked) planCostOwn started (by kernel_rfl) Tryz.func7
    (ChangeSpec.witness6 (enc := enc) (C := Tryz.checked) false ⟨#[], #[.agg #[.slice none 0 0, .slice none 0 0, .slice none 0 0, .slice none 0 0, .slice none 0 0, .slice none 0 0], .slice none 0 0], []⟩ 8 (by kernel_rfl) (by kernel_rfl) (by kernel_rfl) (by kernel_rfl)) ?_
  intro W base args ds gs before hval0 hW hcnd hz0 _
  have hval : ∀ (j : Nat) t v, Tryz.f7.params[j]? = some t → args[j]? = some v → Value.okWide Tryz.prog W .any base t v := hval0
  have hW' := hW
  obtain ⟨p, q, hA0, hV, rfl, hfz, hnd⟩ := hW
  have hA : DataW.TrodAll enc Tryz.prog W 0 (fun _ => true) true Tryz.f7.params.toList args.toList ds p := hA0
  rw [Tryz.params7] at hA hval
  obtain ⟨v0, v1, d0, d1, p0, p1, rfl, rfl, rfl, h0, h1⟩ := trodAll_two hA
  obtain ⟨rfl, rfl⟩ := trodVars_none hV
  have hz : (DataW.weightsEach Tryz.prog Tryz.f7.params.toList ([d0, d1] ++ [])).all (· ≤ reachBytes) = true := by
    rw [← List.append_nil Tryz.f7.params.toList]
    exact hz0
  rw [List.append_nil, Tryz.params7] at hz
  obtain ⟨cs0, rfl, _⟩ := okWide_struct Tryz.underlying66 (hval 0 66 v0 rfl rfl)
  obtain ⟨x0, hx0, hr0⟩ := arg_readsWS (readsW_struct Tryz.underlying66 (by kernel_rfl) (by decide) (rfw_cons (readsW_struct Tryz.underlying25 (by kernel_rfl) (by decide) (rfw_cons (readsW_slice (readsW_struct Tryz.underlying138 (by kernel_rfl) (by decide) (rfw_cons (reads_string Tryz.underlying9 (by kernel_rfl)).w rfl (rfw_cons (reads_int Tryz.underlying3 (by kernel_rfl)).w rfl (rfw_cons (reads_bool Tryz.underlying4 (by kernel_rfl)).w rfl (rfw_cons (readsW_slice (readsW_struct Tryz.underlying135 (by kernel_rfl) (by decide) (rfw_cons (reads_string Tryz.underlying9 (by kernel_rfl)).w rfl (rfw_cons (reads_int Tryz.underlying3 (by kernel_rfl)).w rfl (rfw_cons (reads_int Tryz.underlying3 (by kernel_rfl)).w rfl (rfw_cons (readsW_slice (reads_string Tryz.underlying9 (by kernel_rfl)).w Tryz.underlying133 (by kernel_rfl) (by kernel_rfl)) rfl rfw_nil))))) Tryz.underlying136 (by kernel_rfl) (by kernel_rfl)) rfl rfw_nil))))) Tryz.underlying22 (by kernel_rfl) (by kernel_rfl)) rfl (rfw_cons (readsW_slice (readsW_struct Tryz.underlying140 (by kernel_rfl) (by decide) (rfw_cons (reads_string Tryz.underlying9 (by kernel_rfl)).w rfl (rfw_cons (reads_int Tryz.underlying3 (by kernel_rfl)).w rfl (rfw_cons (reads_int Tryz.underlying3 (by kernel_rfl)).w rfl (rfw_cons (reads_int Tryz.underlying3 (by kernel_rfl)).w rfl (rfw_cons (reads_int Tryz.underlying3 (by kernel_rfl)).w rfl (rfw_cons (reads_int Tryz.underlying3 (by kernel_rfl)).w rfl (rfw_cons (reads_int Tryz.underlying3 (by kernel_rfl)).w rfl rfw_nil)))))))) Tryz.underlying23 (by kernel_rfl) (by kernel_rfl)) rfl rfw_nil))) rfl (rfw_cons (readsW_struct Tryz.underlying64 (by kernel_rfl) (by decide) (rfw_cons (readsW_slice (readsW_struct Tryz.underlying132 (by kernel_rfl) (by decide) (rfw_cons (reads_int Tryz.underlying3 (by kernel_rfl)).w rfl (rfw_cons (reads_int Tryz.underlying3 (by kernel_rfl)).w rfl (rfw_cons (reads_int Tryz.underlying3 (by kernel_rfl)).w rfl (rfw_cons (reads_int Tryz.underlying3 (by kernel_rfl)).w rfl rfw_nil))))) Tryz.underlying62 (by kernel_rfl) (by kernel_rfl)) rfl (rfw_cons (readsW_slice (readsW_struct Tryz.underlying132 (by kernel_rfl) (by decide) (rfw_cons (reads_int Tryz.underlying3 (by kernel_rfl)).w rfl (rfw_cons (reads_int Tryz.underlying3 (by kernel_rfl)).w rfl (rfw_cons (reads_int Tryz.underlying3 (by kernel_rfl)).w rfl (rfw_cons (reads_int Tryz.underlying3 (by kernel_rfl)).w rfl rfw_nil))))) Tryz.underlying62 (by kernel_rfl) (by kernel_rfl)) rfl rfw_nil))) rfl (rfw_cons (readsW_struct Tryz.underlying29 (by kernel_rfl) (by decide) (rfw_cons (readsW_slice (reads_int Tryz.underlying3 (by kernel_rfl)).w Tryz.underlying26 (by kernel_rfl) (by kernel_rfl)) rfl (rfw_cons (readsW_slice (readsW_struct Tryz.underlying112 (by kernel_rfl) (by decide) (rfw_cons (reads_int Tryz.underlying3 (by kernel_rfl)).w rfl (rfw_cons (reads_int Tryz.underlying3 (by kernel_rfl)).w rfl (rfw_cons (reads_int Tryz.underlying3 (by kernel_rfl)).w rfl rfw_nil)))) Tryz.underlying27 (by kernel_rfl) (by kernel_rfl)) rfl rfw_nil))) rfl rfw_nil)))) (wgt_at hz (j := 0) rfl rfl) h0
  obtain ⟨a1, len1, cap1, rfl⟩ := okWide_slice Tryz.underlying32 (hval 1 32 v1 rfl rfl)
  obtain ⟨x1, hx1, hr1⟩ := arg_readsW (readsW_slice (readsW_struct Tryz.underlying41 (by kernel_rfl) (by decide) (rfw_cons (reads_int Tryz.underlying3 (by kernel_rfl)).w rfl (rfw_cons (reads_int Tryz.underlying3 (by kernel_rfl)).w rfl rfw_nil))) Tryz.underlying32 (by kernel_rfl) (by kernel_rfl)) rfl (wgt_at hz (j := 1) rfl rfl) h1
  exact law_call (PlanCost_spec (toTys x0.1) (tys_ok hx0.1) (Sta.toSta x0.2.1) (Sta.toGr x0.2.2.1) (Sta.gr_ok hx0.2.2.1) (x1.map toOpn) (ops_len hx1)) planCostLaid (by rw [Tryz.params7]; intro t ht; simp only [List.mem_cons, List.not_mem_nil, or_false] at ht; rcases ht with rfl | rfl <;> exact ⟨by kernel_rfl, by decide +kernel⟩) rfl hW' rfl rfl rfl (B := 4) (by kernel_rfl) Tryz.underlying4 (.cons ((prc_vr hr0)) (.cons ((ops_vr hr1)) .nil))
theorem planCost_proved : Rows.PlanCostSaid :=
  OpenClaim.holds_of_wide 7 Tryz.f7 rfl rfl rfl rfl rfl rfl rfl ⟨rfl, rfl, rfl, rfl, rfl⟩ rfl rfl rfl rfl rfl (by kernel_rfl) Tryz.func7 (by kernel_rfl)
    (of_decide_eq_true (by kernel_rfl)) (by unfold Func.isWrapper; first | (rw [if_pos (by decide +kernel)]; kernel_rfl) | (rw [if_neg (by decide +kernel)]; exact ⟨rfl, rfl⟩))
    (fun os started H enc _ => planCost_lifted os started H enc)
end Go.Proofs.YtimfponihbfimaaGreat
end
