/-
  The law 'StatisticOrder' holds for every input: it returns true and leaves its arguments as they were. No condition.
-/
import Derived.Test.YtcacbdohlfljfaaGreatRows
import Derived.Test.YtcacbdohlfljfaaGreatSjQT
import Derived.Test.YtcacbdohlfljfaaGreatZ25
namespace Go.Proofs.YtcacbdohlfljfaaGreat
open Go.ChangeShapes Go.WideShapes Go.ChangeAt Go.RowKit Go.Sj
set_option linter.unusedVariables false

theorem statisticOrderOwn : ownKnob Tryz.prog.godebug = none := by kernel_rfl
theorem statisticOrderLaid : laidOutB Tryz.prog = true := by kernel_rfl

set_option maxRecDepth 100000 in
theorem statisticOrder_lifted (os : Os) (started : os.Started) (H : Type) (enc : TypeId × Value → H) :
    ReturnsInHanded {} Tryz.checked os 8 .any (Rows.statisticOrderSpec.pre6 enc Tryz.prog Tryz.f8 Rows.statisticOrderRow.domain false) (Rows.statisticOrderSpec.post enc Tryz.prog Tryz.f8 false true false false) := by
  refine returnsInHanded_of_change_sized (C := Tryz.checked) statisticOrderOwn started (by kernel_rfl) Tryz.func8
    (ChangeSpec.witness6 (enc := enc) (C := Tryz.checked) false ⟨#[], #[.agg #[.slice none 0 0, .slice none 0 0, .slice none 0 0, .slice none 0 0], .slice none 0 0], []⟩ 8 (by kernel_rfl) (by kernel_rfl) (by kernel_rfl) (by kernel_rfl)) ?_
  intro W base args ds gs before hval0 hW hcnd hz0 _
  have hval : ∀ (j : Nat) t v, Tryz.f8.params[j]? = some t → args[j]? = some v → Value.okWide Tryz.prog W .any base t v := hval0
  have hW' := hW
  obtain ⟨p, q, hA0, hV, rfl, hfz, hnd⟩ := hW
  have hA : DataW.TrodAll enc Tryz.prog W 0 (fun _ => true) true Tryz.f8.params.toList args.toList ds p := hA0
  rw [Tryz.params8] at hA hval
  obtain ⟨v0, v1, d0, d1, p0, p1, rfl, rfl, rfl, h0, h1⟩ := trodAll_two hA
  obtain ⟨rfl, rfl⟩ := trodVars_none hV
  have hz : (DataW.weightsEach Tryz.prog Tryz.f8.params.toList ([d0, d1] ++ [])).all (· ≤ reachBytes) = true := by
    rw [← List.append_nil Tryz.f8.params.toList]
    exact hz0
  rw [List.append_nil, Tryz.params8] at hz
  obtain ⟨cs0, rfl, _⟩ := okWide_struct Tryz.underlying57 (hval 0 57 v0 rfl rfl)
  obtain ⟨x0, hx0, hr0⟩ := arg_readsWS (readsW_struct Tryz.underlying57 (by kernel_rfl) (by decide) (rfw_cons (readsW_slice (reads_arr Tryz.underlying118 Tryz.underlying5 (by kernel_rfl) (by kernel_rfl) (by decide)).w Tryz.underlying53 (by kernel_rfl) (by kernel_rfl)) rfl (rfw_cons (readsW_slice (reads_arr Tryz.underlying118 Tryz.underlying5 (by kernel_rfl) (by kernel_rfl) (by decide)).w Tryz.underlying53 (by kernel_rfl) (by kernel_rfl)) rfl (rfw_cons (readsW_slice (reads_int Tryz.underlying5 (by kernel_rfl)).w Tryz.underlying54 (by kernel_rfl) (by kernel_rfl)) rfl (rfw_cons (readsW_slice (reads_arr Tryz.underlying66 Tryz.underlying5 (by kernel_rfl) (by kernel_rfl) (by decide)).w Tryz.underlying55 (by kernel_rfl) (by kernel_rfl)) rfl rfw_nil))))) (wgt_at hz (j := 0) rfl rfl) h0
  obtain ⟨a1, len1, cap1, rfl⟩ := okWide_slice Tryz.underlying54 (hval 1 54 v1 rfl rfl)
  obtain ⟨x1, hx1, hr1⟩ := arg_readsW (readsW_slice (reads_int Tryz.underlying5 (by kernel_rfl)).w Tryz.underlying54 (by kernel_rfl) (by kernel_rfl)) rfl (wgt_at hz (j := 1) rfl rfl) h1
  exact law_call (StatisticOrder_spec (Sta.toDrf x0) (Sta.drf_ok hx0) x1 (Sta.u8s_ok hx1)) statisticOrderLaid (by rw [Tryz.params8]; intro t ht; simp only [List.mem_cons, List.not_mem_nil, or_false] at ht; rcases ht with rfl | rfl <;> exact ⟨by kernel_rfl, by decide +kernel⟩) rfl hW' rfl rfl rfl (B := 4) (by kernel_rfl) Tryz.underlying4 (.cons ((Sta.drf_vr hx0 hr0)) (.cons (hr1) .nil))

/-- The statement, as it was given. -/
theorem statisticOrder_proved : Rows.StatisticOrderSaid :=
  OpenClaim.holds_of_wide 8 Tryz.f8 rfl rfl rfl rfl rfl rfl rfl ⟨rfl, rfl, rfl, rfl, rfl⟩ rfl rfl rfl rfl rfl (by kernel_rfl) Tryz.func8 (by kernel_rfl)
    (of_decide_eq_true (by kernel_rfl)) (by unfold Func.isWrapper; first | (rw [if_pos (by decide +kernel)]; kernel_rfl) | (rw [if_neg (by decide +kernel)]; exact ⟨rfl, rfl⟩))
    (fun os started H enc _ => statisticOrder_lifted os started H enc)

end Go.Proofs.YtcacbdohlfljfaaGreat
