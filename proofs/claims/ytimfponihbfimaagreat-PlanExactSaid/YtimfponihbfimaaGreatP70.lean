/- Parts of a proof. -/
import Derived.Test.YtimfponihbfimaaGreatRows
import Derived.ProofKit
import Derived.WideKeyArgs
import Derived.OpenShut
import Derived.SizedLaws
import Derived.Laws.Cover3
import Derived.WalkKit
import Derived.WalkSpells
import Derived.WalkLawsBesides
import Derived.Deep.Draws
import Derived.Orders
import Derived.Still
import Derived.Handy
import Derived.Lib.AppendZerosOnto
import Derived.Lib.Overlaps
import Derived.Laws.Runes
import Derived.Laws.Externs
import Derived.Test.YtimfponihbfimaaGreatProg
import Derived.Sort.AssemblyPlain
import Derived.Laws.Bits64
import Derived.Laws.Bits64b
import Derived.Test.YtimfponihbfimaaGreatP01
import Derived.Test.YtimfponihbfimaaGreatP02
import Derived.Test.YtimfponihbfimaaGreatP03
import Derived.Test.YtimfponihbfimaaGreatP04
import Derived.Test.YtimfponihbfimaaGreatP05
import Derived.Test.YtimfponihbfimaaGreatP06
import Derived.Test.YtimfponihbfimaaGreatP07
import Derived.Test.YtimfponihbfimaaGreatP08
import Derived.Test.YtimfponihbfimaaGreatP09
import Derived.Test.YtimfponihbfimaaGreatP10
import Derived.Test.YtimfponihbfimaaGreatP11
import Derived.Test.YtimfponihbfimaaGreatP12
import Derived.Test.YtimfponihbfimaaGreatP13
import Derived.Test.YtimfponihbfimaaGreatP14
import Derived.Test.YtimfponihbfimaaGreatP15
import Derived.Test.YtimfponihbfimaaGreatP16
import Derived.Test.YtimfponihbfimaaGreatP17
import Derived.Test.YtimfponihbfimaaGreatP18
import Derived.Test.YtimfponihbfimaaGreatP19
import Derived.Test.YtimfponihbfimaaGreatP20
import Derived.Test.YtimfponihbfimaaGreatP21
import Derived.Test.YtimfponihbfimaaGreatP22
import Derived.Test.YtimfponihbfimaaGreatP23
import Derived.Test.YtimfponihbfimaaGreatP24
import Derived.Test.YtimfponihbfimaaGreatP25
import Derived.Test.YtimfponihbfimaaGreatP26
import Derived.Test.YtimfponihbfimaaGreatP27
import Derived.Test.YtimfponihbfimaaGreatP28
import Derived.Test.YtimfponihbfimaaGreatP29
import Derived.Test.YtimfponihbfimaaGreatP30
import Derived.Test.YtimfponihbfimaaGreatP31
import Derived.Test.YtimfponihbfimaaGreatP32
import Derived.Test.YtimfponihbfimaaGreatP33
import Derived.Test.YtimfponihbfimaaGreatP34
import Derived.Test.YtimfponihbfimaaGreatP35
import Derived.Test.YtimfponihbfimaaGreatP36
import Derived.Test.YtimfponihbfimaaGreatP37
import Derived.Test.YtimfponihbfimaaGreatP38
import Derived.Test.YtimfponihbfimaaGreatP39
import Derived.Test.YtimfponihbfimaaGreatP40
import Derived.Test.YtimfponihbfimaaGreatP41
import Derived.Test.YtimfponihbfimaaGreatP42
import Derived.Test.YtimfponihbfimaaGreatP43
import Derived.Test.YtimfponihbfimaaGreatP44
import Derived.Test.YtimfponihbfimaaGreatP45
import Derived.Test.YtimfponihbfimaaGreatP46
import Derived.Test.YtimfponihbfimaaGreatP47
import Derived.Test.YtimfponihbfimaaGreatP48
import Derived.Test.YtimfponihbfimaaGreatP49
import Derived.Test.YtimfponihbfimaaGreatP68
set_option linter.unusedVariables false
set_option linter.unusedSimpArgs false
section
namespace Go.Proofs.YtimfponihbfimaaGreat
open Go.ChangeShapes Go.WideShapes Go.ChangeAt Go.RowKit Go.Sj
set_option maxRecDepth 8000
theorem planExactOwn : ownKnob Tryz.prog.godebug = none := by kernel_rfl
theorem planExactLaid : laidOutB Tryz.prog = true := by kernel_rfl
set_option maxRecDepth 100000 in
theorem planExact_lifted (os : Os) (started : os.Started) (H : Type) (enc : TypeId × Value → H) :
    ReturnsInHanded {} Tryz.checked os 9 .any (Rows.planExactSpec.pre6 enc Tryz.prog Tryz.f9 Rows.planExactRow.domain false) (Rows.planExactSpec.post enc Tryz.prog Tryz.f9 false true false false) := by
  refine returnsInHanded_of_change_sized (C := Tryz.checked) planExactOwn started (by kernel_rfl) Tryz.func9
    (ChangeSpec.witness6 (enc := enc) (C := Tryz.checked) false ⟨#[], #[.agg #[.slice none 0 0, .slice none 0 0, .slice none 0 0, .slice none 0 0, .slice none 0 0, .slice none 0 0], .slice none 0 0], []⟩ 8 (by kernel_rfl) (by kernel_rfl) (by kernel_rfl) (by kernel_rfl)) ?_
  intro W base args ds gs before hval0 hW hcnd hz0 _
  have hval : ∀ (j : Nat) t v, Tryz.f9.params[j]? = some t → args[j]? = some v → Value.okWide Tryz.prog W .any base t v := hval0
  have hW' := hW
  obtain ⟨p, q, hA0, hV, rfl, hfz, hnd⟩ := hW
  have hA : DataW.TrodAll enc Tryz.prog W 0 (fun _ => true) true Tryz.f9.params.toList args.toList ds p := hA0
  rw [Tryz.params9] at hA hval
  obtain ⟨v0, v1, d0, d1, p0, p1, rfl, rfl, rfl, h0, h1⟩ := trodAll_two hA
  obtain ⟨rfl, rfl⟩ := trodVars_none hV
  have hz : (DataW.weightsEach Tryz.prog Tryz.f9.params.toList ([d0, d1] ++ [])).all (· ≤ reachBytes) = true := by
    rw [← List.append_nil Tryz.f9.params.toList]
    exact hz0
  rw [List.append_nil, Tryz.params9] at hz
  obtain ⟨cs0, rfl, _⟩ := okWide_struct Tryz.underlying51 (hval 0 51 v0 rfl rfl)
  obtain ⟨x0, hx0, hr0⟩ := arg_readsWS (readsW_struct Tryz.underlying51 (by kernel_rfl) (by decide) (rfw_cons (readsW_slice (reads_arr Tryz.underlying164 Tryz.underlying5 (by kernel_rfl) (by kernel_rfl) (by decide)).w Tryz.underlying45 (by kernel_rfl) (by kernel_rfl)) rfl (rfw_cons (readsW_slice (reads_arr Tryz.underlying164 Tryz.underlying5 (by kernel_rfl) (by kernel_rfl) (by decide)).w Tryz.underlying45 (by kernel_rfl) (by kernel_rfl)) rfl (rfw_cons (readsW_struct Tryz.underlying49 (by kernel_rfl) (by decide) (rfw_cons (readsW_slice (reads_int Tryz.underlying5 (by kernel_rfl)).w Tryz.underlying46 (by kernel_rfl) (by kernel_rfl)) rfl (rfw_cons (readsW_slice (reads_arr Tryz.underlying110 Tryz.underlying5 (by kernel_rfl) (by kernel_rfl) (by decide)).w Tryz.underlying47 (by kernel_rfl) (by kernel_rfl)) rfl rfw_nil))) rfl (rfw_cons (readsW_struct Tryz.underlying49 (by kernel_rfl) (by decide) (rfw_cons (readsW_slice (reads_int Tryz.underlying5 (by kernel_rfl)).w Tryz.underlying46 (by kernel_rfl) (by kernel_rfl)) rfl (rfw_cons (readsW_slice (reads_arr Tryz.underlying110 Tryz.underlying5 (by kernel_rfl) (by kernel_rfl) (by decide)).w Tryz.underlying47 (by kernel_rfl) (by kernel_rfl)) rfl rfw_nil))) rfl rfw_nil))))) (wgt_at hz (j := 0) rfl rfl) h0
  obtain ⟨a1, len1, cap1, rfl⟩ := okWide_slice Tryz.underlying46 (hval 1 46 v1 rfl rfl)
  obtain ⟨x1, hx1, hr1⟩ := arg_readsW (readsW_slice (reads_int Tryz.underlying5 (by kernel_rfl)).w Tryz.underlying46 (by kernel_rfl) (by kernel_rfl)) rfl (wgt_at hz (j := 1) rfl rfl) h1
  exact law_call (PlanExact_spec (toDrP x0) (drfP_ok hx0) x1 (Sta.u8s_ok hx1)) planExactLaid (by rw [Tryz.params9]; intro t ht; simp only [List.mem_cons, List.not_mem_nil, or_false] at ht; rcases ht with rfl | rfl <;> exact ⟨by kernel_rfl, by decide +kernel⟩) rfl hW' rfl rfl rfl (B := 4) (by kernel_rfl) Tryz.underlying4 (.cons ((drfP_vr hx0 hr0)) (.cons (hr1) .nil))
theorem planExact_proved : Rows.PlanExactSaid :=
  OpenClaim.holds_of_wide 9 Tryz.f9 rfl rfl rfl rfl rfl rfl rfl ⟨rfl, rfl, rfl, rfl, rfl⟩ rfl rfl rfl rfl rfl (by kernel_rfl) Tryz.func9 (by kernel_rfl)
    (of_decide_eq_true (by kernel_rfl)) (by unfold Func.isWrapper; first | (rw [if_pos (by decide +kernel)]; kernel_rfl) | (rw [if_neg (by decide +kernel)]; exact ⟨rfl, rfl⟩))
    (fun os started H enc _ => planExact_lifted os started H enc)
end Go.Proofs.YtimfponihbfimaaGreat
end
