/- Parts of a proof. -/
import Derived.Test.YtimfponihbfimaaGreatRows
import Derived.ProofKit
import Derived.WideKeyArgs
import Derived.OpenShut
import Derived.SizedLaws
import Derived.Laws.Cover3
import Derived.WalkKit
import Derived.WalkSpells
import Derived.WalkLawsBesides
import Derived.Deep.Draws
import Derived.Orders
import Derived.Still
import Derived.Handy
import Derived.Lib.AppendZerosOnto
import Derived.Lib.Overlaps
import Derived.Laws.Runes
import Derived.Laws.Externs
import Derived.Sort.AssemblyPlain
import Derived.Laws.Bits64
import Derived.Laws.Bits64b
import Derived.Test.YtimfponihbfimaaGreatP81
set_option linter.unusedVariables false
set_option linter.unusedSimpArgs false
section
namespace Go.Proofs.YtimfponihbfimaaGreat
open Go.ChangeShapes Go.WideShapes Go.ChangeAt Go.RowKit Go.Sj
set_option maxRecDepth 8000
theorem planAgreesOwn : ownKnob Tryz.prog.godebug = none := by kernel_rfl
theorem planAgreesLaid : laidOutB Tryz.prog = true := by kernel_rfl
set_option maxRecDepth 100000 in
theorem planAgrees_lifted (os : Os) (started : os.Started) (H : Type) (enc : TypeId × Value → H) :
    ReturnsInHanded {} Tryz.checked os 4 .any (Rows.planAgreesSpec.pre6 enc Tryz.prog Tryz.f4 Rows.planAgreesRow.domain false) (Rows.planAgreesSpec.post enc Tryz.prog Tryz.f4 false true false false) := by
  refine returnsInHanded_of_change_sized (C := Tryz.checked) planAgreesOwn started (by kernel_rfl) Tryz.func4
    (ChangeSpec.witness6 (enc := enc) (C := Tryz.checked) false ⟨#[], #[.agg #[.slice none 0 0, .slice none 0 0, .slice none 0 0, .slice none 0 0, .slice none 0 0, .slice none 0 0], .slice none 0 0, .bool false], []⟩ 8 (by kernel_rfl) (by kernel_rfl) (by kernel_rfl) (by kernel_rfl)) ?_
  intro W base args ds gs before hval0 hW hcnd hz0 _
  have hval : ∀ (j : Nat) t v, Tryz.f4.params[j]? = some t → args[j]? = some v → Value.okWide Tryz.prog W .any base t v := hval0
  have hW' := hW
  obtain ⟨p, q, hA0, hV, rfl, hfz, hnd⟩ := hW
  have hA : DataW.TrodAll enc Tryz.prog W 0 (fun _ => true) true Tryz.f4.params.toList args.toList ds p := hA0
  rw [Tryz.params4] at hA hval
  obtain ⟨v0, v1, v2, d0, d1, d2, p0, p1, p2, rfl, rfl, rfl, h0, h1, h2⟩ := trodAll_three hA
  obtain ⟨rfl, rfl⟩ := trodVars_none hV
  have hz : (DataW.weightsEach Tryz.prog Tryz.f4.params.toList ([d0, d1, d2] ++ [])).all (· ≤ reachBytes) = true := by
    rw [← List.append_nil Tryz.f4.params.toList]
    exact hz0
  rw [List.append_nil, Tryz.params4] at hz
  obtain ⟨cs0, rfl, _⟩ := okWide_struct Tryz.underlying51 (hval 0 51 v0 rfl rfl)
  obtain ⟨x0, hx0, hr0⟩ := arg_readsWS (readsW_struct Tryz.underlying51 (by kernel_rfl) (by decide) (rfw_cons (readsW_slice (reads_arr Tryz.underlying164 Tryz.underlying5 (by kernel_rfl) (by kernel_rfl) (by decide)).w Tryz.underlying45 (by kernel_rfl) (by kernel_rfl)) rfl (rfw_cons (readsW_slice (reads_arr Tryz.underlying164 Tryz.underlying5 (by kernel_rfl) (by kernel_rfl) (by decide)).w Tryz.underlying45 (by kernel_rfl) (by kernel_rfl)) rfl (rfw_cons (readsW_struct Tryz.underlying49 (by kernel_rfl) (by decide) (rfw_cons (readsW_slice (reads_int Tryz.underlying5 (by kernel_rfl)).w Tryz.underlying46 (by kernel_rfl) (by kernel_rfl)) rfl (rfw_cons (readsW_slice (reads_arr Tryz.underlying110 Tryz.underlying5 (by kernel_rfl) (by kernel_rfl) (by decide)).w Tryz.underlying47 (by kernel_rfl) (by kernel_rfl)) rfl rfw_nil))) rfl (rfw_cons (readsW_struct Tryz.underlying49 (by kernel_rfl) (by decide) (rfw_cons (readsW_slice (reads_int Tryz.underlying5 (by kernel_rfl)).w Tryz.underlying46 (by kernel_rfl) (by kernel_rfl)) rfl (rfw_cons (readsW_slice (reads_arr Tryz.underlying110 Tryz.underlying5 (by kernel_rfl) (by kernel_rfl) (by decide)).w Tryz.underlying47 (by kernel_rfl) (by kernel_rfl)) rfl rfw_nil))) rfl rfw_nil))))) (wgt_at hz (j := 0) rfl rfl) h0
  obtain ⟨a1, len1, cap1, rfl⟩ := okWide_slice Tryz.underlying46 (hval 1 46 v1 rfl rfl)
  obtain ⟨x1, hx1, hr1⟩ := arg_readsW (readsW_slice (reads_int Tryz.underlying5 (by kernel_rfl)).w Tryz.underlying46 (by kernel_rfl) (by kernel_rfl)) rfl (wgt_at hz (j := 1) rfl rfl) h1
  obtain ⟨n2, rfl⟩ := okWide_bool Tryz.underlying4 (hval 2 4 v2 rfl rfl)
  obtain ⟨x2, hx2, hr2⟩ := arg_readsW (reads_bool Tryz.underlying4 (by kernel_rfl)).w rfl (wgt_at hz (j := 2) rfl rfl) h2
  exact law_call (PlanAgrees_spec (toDrP x0) (drfP_ok hx0) x1 (Sta.u8s_ok hx1) x2) planAgreesLaid (by rw [Tryz.params4]; intro t ht; simp only [List.mem_cons, List.not_mem_nil, or_false] at ht; rcases ht with rfl | rfl | rfl <;> exact ⟨by kernel_rfl, by decide +kernel⟩) rfl hW' rfl rfl rfl (B := 4) (by kernel_rfl) Tryz.underlying4 (.cons ((drfP_vr hx0 hr0)) (.cons (hr1) (.cons (hr2) .nil)))
theorem planAgrees_proved : Rows.PlanAgreesSaid :=
  OpenClaim.holds_of_wide 4 Tryz.f4 rfl rfl rfl rfl rfl rfl rfl ⟨rfl, rfl, rfl, rfl, rfl⟩ rfl rfl rfl rfl rfl (by kernel_rfl) Tryz.func4 (by kernel_rfl)
    (of_decide_eq_true (by kernel_rfl)) (by unfold Func.isWrapper; first | (rw [if_pos (by decide +kernel)]; kernel_rfl) | (rw [if_neg (by decide +kernel)]; exact ⟨rfl, rfl⟩))
    (fun os started H enc _ => planAgrees_lifted os started H enc)
end Go.Proofs.YtimfponihbfimaaGreat
end
