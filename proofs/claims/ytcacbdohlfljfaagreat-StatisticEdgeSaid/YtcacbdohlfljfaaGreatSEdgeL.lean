/-
  The law 'StatisticEdge' holds for every input: it returns true and leaves its arguments as they were. No condition.
-/
import Derived.Test.YtcacbdohlfljfaaGreatRows
import Derived.Test.YtcacbdohlfljfaaGreatSjQT
import Derived.Test.YtcacbdohlfljfaaGreatZ16
namespace Go.Proofs.YtcacbdohlfljfaaGreat
open Go.ChangeShapes Go.WideShapes Go.ChangeAt Go.RowKit Go.Sj
set_option linter.unusedVariables false

theorem statisticEdgeOwn : ownKnob Tryz.prog.godebug = none := by kernel_rfl
theorem statisticEdgeLaid : laidOutB Tryz.prog = true := by kernel_rfl

set_option maxRecDepth 100000 in
theorem statisticEdge_lifted (os : Os) (started : os.Started) (H : Type) (enc : TypeId × Value → H) :
    ReturnsInHanded {} Tryz.checked os 6 .any (Rows.statisticEdgeSpec.pre6 enc Tryz.prog Tryz.f6 Rows.statisticEdgeRow.domain false) (Rows.statisticEdgeSpec.post enc Tryz.prog Tryz.f6 false true false false) := by
  refine returnsInHanded_of_change_sized (C := Tryz.checked) statisticEdgeOwn started (by kernel_rfl) Tryz.func6
    (ChangeSpec.witness6 (enc := enc) (C := Tryz.checked) false ⟨#[], #[.agg #[.slice none 0 0, .slice none 0 0], .agg #[.slice none 0 0, .slice none 0 0], .agg #[.int .i64 0, .int .i64 0, .int .i64 0, .int .i64 0]], []⟩ 8 (by kernel_rfl) (by kernel_rfl) (by kernel_rfl) (by kernel_rfl)) ?_
  intro W base args ds gs before hval0 hW hcnd hz0 _
  have hval : ∀ (j : Nat) t v, Tryz.f6.params[j]? = some t → args[j]? = some v → Value.okWide Tryz.prog W .any base t v := hval0
  have hW' := hW
  obtain ⟨p, q, hA0, hV, rfl, hfz, hnd⟩ := hW
  have hA : DataW.TrodAll enc Tryz.prog W 0 (fun _ => true) true Tryz.f6.params.toList args.toList ds p := hA0
  rw [Tryz.params6] at hA hval
  obtain ⟨v0, v1, v2, d0, d1, d2, p0, p1, p2, rfl, rfl, rfl, h0, h1, h2⟩ := trodAll_three hA
  obtain ⟨rfl, rfl⟩ := trodVars_none hV
  have hz : (DataW.weightsEach Tryz.prog Tryz.f6.params.toList ([d0, d1, d2] ++ [])).all (· ≤ reachBytes) = true := by
    rw [← List.append_nil Tryz.f6.params.toList]
    exact hz0
  rw [List.append_nil, Tryz.params6] at hz
  obtain ⟨cs0, rfl, _⟩ := okWide_struct Tryz.underlying25 (hval 0 25 v0 rfl rfl)
  obtain ⟨x0, hx0, hr0⟩ := arg_readsWS (readsW_struct Tryz.underlying25 (by kernel_rfl) (by decide) (rfw_cons (readsW_slice (readsW_struct Tryz.underlying78 (by kernel_rfl) (by decide) (rfw_cons (reads_string Tryz.underlying9 (by kernel_rfl)).w rfl (rfw_cons (reads_int Tryz.underlying3 (by kernel_rfl)).w rfl (rfw_cons (reads_bool Tryz.underlying4 (by kernel_rfl)).w rfl (rfw_cons (readsW_slice (readsW_struct Tryz.underlying81 (by kernel_rfl) (by decide) (rfw_cons (reads_string Tryz.underlying9 (by kernel_rfl)).w rfl (rfw_cons (reads_int Tryz.underlying3 (by kernel_rfl)).w rfl (rfw_cons (reads_int Tryz.underlying3 (by kernel_rfl)).w rfl (rfw_cons (readsW_slice (reads_string Tryz.underlying9 (by kernel_rfl)).w Tryz.underlying79 (by kernel_rfl) (by kernel_rfl)) rfl rfw_nil))))) Tryz.underlying76 (by kernel_rfl) (by kernel_rfl)) rfl rfw_nil))))) Tryz.underlying22 (by kernel_rfl) (by kernel_rfl)) rfl (rfw_cons (readsW_slice (readsW_struct Tryz.underlying83 (by kernel_rfl) (by decide) (rfw_cons (reads_string Tryz.underlying9 (by kernel_rfl)).w rfl (rfw_cons (reads_int Tryz.underlying3 (by kernel_rfl)).w rfl (rfw_cons (reads_int Tryz.underlying3 (by kernel_rfl)).w rfl (rfw_cons (reads_int Tryz.underlying3 (by kernel_rfl)).w rfl (rfw_cons (reads_int Tryz.underlying3 (by kernel_rfl)).w rfl (rfw_cons (reads_int Tryz.underlying3 (by kernel_rfl)).w rfl (rfw_cons (reads_int Tryz.underlying3 (by kernel_rfl)).w rfl rfw_nil)))))))) Tryz.underlying23 (by kernel_rfl) (by kernel_rfl)) rfl rfw_nil))) (wgt_at hz (j := 0) rfl rfl) h0
  obtain ⟨cs1, rfl, _⟩ := okWide_struct Tryz.underlying35 (hval 1 35 v1 rfl rfl)
  obtain ⟨x1, hx1, hr1⟩ := arg_readsWS (readsW_struct Tryz.underlying35 (by kernel_rfl) (by decide) (rfw_cons (readsW_slice (readsW_struct Tryz.underlying75 (by kernel_rfl) (by decide) (rfw_cons (reads_int Tryz.underlying3 (by kernel_rfl)).w rfl (rfw_cons (reads_int Tryz.underlying3 (by kernel_rfl)).w rfl (rfw_cons (reads_int Tryz.underlying3 (by kernel_rfl)).w rfl (rfw_cons (reads_int Tryz.underlying3 (by kernel_rfl)).w rfl rfw_nil))))) Tryz.underlying33 (by kernel_rfl) (by kernel_rfl)) rfl (rfw_cons (readsW_slice (readsW_struct Tryz.underlying75 (by kernel_rfl) (by decide) (rfw_cons (reads_int Tryz.underlying3 (by kernel_rfl)).w rfl (rfw_cons (reads_int Tryz.underlying3 (by kernel_rfl)).w rfl (rfw_cons (reads_int Tryz.underlying3 (by kernel_rfl)).w rfl (rfw_cons (reads_int Tryz.underlying3 (by kernel_rfl)).w rfl rfw_nil))))) Tryz.underlying33 (by kernel_rfl) (by kernel_rfl)) rfl rfw_nil))) (wgt_at hz (j := 1) rfl rfl) h1
  obtain ⟨cs2, rfl, _⟩ := okWide_struct Tryz.underlying43 (hval 2 43 v2 rfl rfl)
  obtain ⟨x2, hx2, hr2⟩ := arg_readsWS (readsW_struct Tryz.underlying43 (by kernel_rfl) (by decide) (rfw_cons (reads_int Tryz.underlying3 (by kernel_rfl)).w rfl (rfw_cons (reads_int Tryz.underlying3 (by kernel_rfl)).w rfl (rfw_cons (reads_int Tryz.underlying3 (by kernel_rfl)).w rfl (rfw_cons (reads_int Tryz.underlying3 (by kernel_rfl)).w rfl rfw_nil))))) (wgt_at hz (j := 2) rfl rfl) h2
  exact law_call (StatisticEdge_spec (toTys x0) (tys_ok hx0) (Sta.toSta x1) (Sta.sta_ok hx1) x2.1 x2.2.1 x2.2.2.1 x2.2.2.2.1) statisticEdgeLaid (by rw [Tryz.params6]; intro t ht; simp only [List.mem_cons, List.not_mem_nil, or_false] at ht; rcases ht with rfl | rfl | rfl <;> exact ⟨by kernel_rfl, by decide +kernel⟩) rfl hW' rfl rfl rfl (B := 4) (by kernel_rfl) Tryz.underlying4 (.cons ((tys_vr hr0)) (.cons ((Sta.sta_vr hr1)) (.cons (hr2) .nil)))

/-- The statement, as it was given. -/
theorem statisticEdge_proved : Rows.StatisticEdgeSaid :=
  OpenClaim.holds_of_wide 6 Tryz.f6 rfl rfl rfl rfl rfl rfl rfl ⟨rfl, rfl, rfl, rfl, rfl⟩ rfl rfl rfl rfl rfl (by kernel_rfl) Tryz.func6 (by kernel_rfl)
    (of_decide_eq_true (by kernel_rfl)) (by unfold Func.isWrapper; first | (rw [if_pos (by decide +kernel)]; kernel_rfl) | (rw [if_neg (by decide +kernel)]; exact ⟨rfl, rfl⟩))
    (fun os started H enc _ => statisticEdge_lifted os started H enc)

end Go.Proofs.YtcacbdohlfljfaaGreat
