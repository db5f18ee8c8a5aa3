/-
  The law 'StatisticSums' holds for every input: it returns true and leaves its arguments as they were. No condition.
-/
import Derived.Test.YtcacbdohlfljfaaRows
import Derived.Test.YtcacbdohlfljfaaSjQT
import Derived.Test.YtcacbdohlfljfaaZ24
namespace Go.Proofs.Ytcacbdohlfljfaa
open Go.ChangeShapes Go.WideShapes Go.ChangeAt Go.RowKit Go.Sj
set_option linter.unusedVariables false

theorem statisticSumsOwn : ownKnob Try.prog.godebug = none := by kernel_rfl
theorem statisticSumsLaid : laidOutB Try.prog = true := by kernel_rfl

set_option maxRecDepth 100000 in
theorem statisticSums_lifted (os : Os) (started : os.Started) (H : Type) (enc : TypeId × Value → H) :
    ReturnsInHanded {} Try.checked os 3 .any (Rows.statisticSumsSpec.pre6 enc Try.prog Try.f3 Rows.statisticSumsRow.domain false) (Rows.statisticSumsSpec.post enc Try.prog Try.f3 false true false false) := by
  refine returnsInHanded_of_change_sized (C := Try.checked) statisticSumsOwn started (by kernel_rfl) Try.func3
    (ChangeSpec.witness6 (enc := enc) (C := Try.checked) false ⟨#[], #[.agg #[.slice none 0 0, .slice none 0 0, .slice none 0 0, .slice none 0 0]], []⟩ 8 (by kernel_rfl) (by kernel_rfl) (by kernel_rfl) (by kernel_rfl)) ?_
  intro W base args ds gs before hval0 hW hcnd hz0 _
  have hval : ∀ (j : Nat) t v, Try.f3.params[j]? = some t → args[j]? = some v → Value.okWide Try.prog W .any base t v := hval0
  have hW' := hW
  obtain ⟨p, q, hA0, hV, rfl, hfz, hnd⟩ := hW
  have hA : DataW.TrodAll enc Try.prog W 0 (fun _ => true) true Try.f3.params.toList args.toList ds p := hA0
  rw [Try.params3] at hA hval
  obtain ⟨v0, d0, rfl, rfl, h0⟩ := trodAll_one hA
  obtain ⟨rfl, rfl⟩ := trodVars_none hV
  have hz : (DataW.weightsEach Try.prog Try.f3.params.toList ([d0] ++ [])).all (· ≤ reachBytes) = true := by
    rw [← List.append_nil Try.f3.params.toList]
    exact hz0
  rw [List.append_nil, Try.params3] at hz
  obtain ⟨cs0, rfl, _⟩ := okWide_struct Try.underlying26 (hval 0 26 v0 rfl rfl)
  obtain ⟨x0, hx0, hr0⟩ := arg_readsWS (readsW_struct Try.underlying26 (by kernel_rfl) (by decide) (rfw_cons (readsW_slice (reads_arr Try.underlying70 Try.underlying5 (by kernel_rfl) (by kernel_rfl) (by decide)).w Try.underlying22 (by kernel_rfl) (by kernel_rfl)) rfl (rfw_cons (readsW_slice (reads_arr Try.underlying70 Try.underlying5 (by kernel_rfl) (by kernel_rfl) (by decide)).w Try.underlying22 (by kernel_rfl) (by kernel_rfl)) rfl (rfw_cons (readsW_slice (reads_int Try.underlying5 (by kernel_rfl)).w Try.underlying23 (by kernel_rfl) (by kernel_rfl)) rfl (rfw_cons (readsW_slice (reads_arr Try.underlying71 Try.underlying5 (by kernel_rfl) (by kernel_rfl) (by decide)).w Try.underlying24 (by kernel_rfl) (by kernel_rfl)) rfl rfw_nil))))) (wgt_at hz (j := 0) rfl rfl) h0
  exact law_call (StatisticSums_spec (Sta.toDrf x0) (Sta.drf_ok hx0)) statisticSumsLaid (by rw [Try.params3]; intro t ht; simp only [List.mem_cons, List.not_mem_nil, or_false] at ht; rcases ht with rfl <;> exact ⟨by kernel_rfl, by decide +kernel⟩) rfl hW' rfl rfl rfl (B := 4) (by kernel_rfl) Try.underlying4 (.cons ((Sta.drf_vr hx0 hr0)) .nil)

/-- The statement, as it was given. -/
theorem statisticSums_proved : Rows.StatisticSumsSaid :=
  OpenClaim.holds_of_wide 3 Try.f3 rfl rfl rfl rfl rfl rfl rfl ⟨rfl, rfl, rfl, rfl, rfl⟩ rfl rfl rfl rfl rfl (by kernel_rfl) Try.func3 (by kernel_rfl)
    (of_decide_eq_true (by kernel_rfl)) (by unfold Func.isWrapper; first | (rw [if_pos (by decide +kernel)]; kernel_rfl) | (rw [if_neg (by decide +kernel)]; exact ⟨rfl, rfl⟩))
    (fun os started H enc _ => statisticSums_lifted os started H enc)

end Go.Proofs.Ytcacbdohlfljfaa
