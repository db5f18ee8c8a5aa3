/- Parts of a proof. -/
import Derived.Test.YtimfponihbfimaaGreatRows
import Derived.ProofKit
import Derived.WideKeyArgs
import Derived.OpenShut
import Derived.SizedLaws
import Derived.Laws.Cover3
import Derived.WalkKit
import Derived.WalkSpells
import Derived.WalkLawsBesides
import Derived.Deep.Draws
import Derived.Orders
import Derived.Still
import Derived.Handy
import Derived.Lib.AppendZerosOnto
import Derived.Lib.Overlaps
import Derived.Laws.Runes
import Derived.Laws.Externs
import Derived.Sort.AssemblyPlain
import Derived.Laws.Bits64
import Derived.Laws.Bits64b
import Derived.Test.YtimfponihbfimaaGreatP61
set_option linter.unusedVariables false
set_option linter.unusedSimpArgs false
section
namespace Go.Proofs.YtimfponihbfimaaGreat
open Go.ChangeShapes Go.WideShapes Go.ChangeAt Go.RowKit Go.Sj
set_option maxRecDepth 8000
theorem planRunOwn : ownKnob Tryz.prog.godebug = none := by kernel_rfl
theorem planRunLaid : laidOutB Tryz.prog = true := by kernel_rfl
set_option maxRecDepth 100000 in
theorem planRun_lifted (os : Os) (started : os.Started) (H : Type) (enc : TypeId × Value → H) :
    ReturnsInHanded {} Tryz.checked os 3 .any (Rows.planRunSpec.pre6 enc Tryz.prog Tryz.f3 Rows.planRunRow.domain false) (Rows.planRunSpec.post enc Tryz.prog Tryz.f3 false true false false) := by
  refine returnsInHanded_of_change_sized (C := Tryz.checked) planRunOwn started (by kernel_rfl) Tryz.func3
    (ChangeSpec.witness6 (enc := enc) (C := Tryz.checked) false ⟨#[], #[.agg #[.slice none 0 0, .slice none 0 0, .slice none 0 0, .slice none 0 0, .slice none 0 0, .slice none 0 0], .slice none 0 0, .bool false], []⟩ 8 (by kernel_rfl) (by kernel_rfl) (by kernel_rfl) (by kernel_rfl)) ?_
  intro W base args ds gs before hval0 hW hcnd hz0 _
  have hval : ∀ (j : Nat) t v, Tryz.f3.params[j]? = some t → args[j]? = some v → Value.okWide Tryz.prog W .any base t v := hval0
  have hW' := hW
  obtain ⟨p, q, hA0, hV, rfl, hfz, hnd⟩ := hW
  have hA : DataW.TrodAll enc Tryz.prog W 0 (fun _ => true) true Tryz.f3.params.toList args.toList ds p := hA0
  rw [Tryz.params3] at hA hval
  obtain ⟨v0, v1, v2, d0, d1, d2, p0, p1, p2, rfl, rfl, rfl, h0, h1, h2⟩ := trodAll_three hA
  obtain ⟨rfl, rfl⟩ := trodVars_none hV
  have hz : (DataW.weightsEach Tryz.prog Tryz.f3.params.toList ([d0, d1, d2] ++ [])).all (· ≤ reachBytes) = true := by
    rw [← List.append_nil Tryz.f3.params.toList]
    exact hz0
  rw [List.append_nil, Tryz.params3] at hz
  obtain ⟨cs0, rfl, _⟩ := okWide_struct Tryz.underlying31 (hval 0 31 v0 rfl rfl)
  obtain ⟨x0, hx0, hr0⟩ := arg_readsWS (readsW_struct Tryz.underlying31 (by kernel_rfl) (by decide) (rfw_cons (readsW_struct Tryz.underlying25 (by kernel_rfl) (by decide) (rfw_cons (readsW_slice (readsW_struct Tryz.underlying138 (by kernel_rfl) (by decide) (rfw_cons (reads_string Tryz.underlying9 (by kernel_rfl)).w rfl (rfw_cons (reads_int Tryz.underlying3 (by kernel_rfl)).w rfl (rfw_cons (reads_bool Tryz.underlying4 (by kernel_rfl)).w rfl (rfw_cons (readsW_slice (readsW_struct Tryz.underlying135 (by kernel_rfl) (by decide) (rfw_cons (reads_string Tryz.underlying9 (by kernel_rfl)).w rfl (rfw_cons (reads_int Tryz.underlying3 (by kernel_rfl)).w rfl (rfw_cons (reads_int Tryz.underlying3 (by kernel_rfl)).w rfl (rfw_cons (readsW_slice (reads_string Tryz.underlying9 (by kernel_rfl)).w Tryz.underlying133 (by kernel_rfl) (by kernel_rfl)) rfl rfw_nil))))) Tryz.underlying136 (by kernel_rfl) (by kernel_rfl)) rfl rfw_nil))))) Tryz.underlying22 (by kernel_rfl) (by kernel_rfl)) rfl (rfw_cons (readsW_slice (readsW_struct Tryz.underlying140 (by kernel_rfl) (by decide) (rfw_cons (reads_string Tryz.underlying9 (by kernel_rfl)).w rfl (rfw_cons (reads_int Tryz.underlying3 (by kernel_rfl)).w rfl (rfw_cons (reads_int Tryz.underlying3 (by kernel_rfl)).w rfl (rfw_cons (reads_int Tryz.underlying3 (by kernel_rfl)).w rfl (rfw_cons (reads_int Tryz.underlying3 (by kernel_rfl)).w rfl (rfw_cons (reads_int Tryz.underlying3 (by kernel_rfl)).w rfl (rfw_cons (reads_int Tryz.underlying3 (by kernel_rfl)).w rfl rfw_nil)))))))) Tryz.underlying23 (by kernel_rfl) (by kernel_rfl)) rfl rfw_nil))) rfl (rfw_cons (readsW_struct Tryz.underlying29 (by kernel_rfl) (by decide) (rfw_cons (readsW_slice (reads_int Tryz.underlying3 (by kernel_rfl)).w Tryz.underlying26 (by kernel_rfl) (by kernel_rfl)) rfl (rfw_cons (readsW_slice (readsW_struct Tryz.underlying112 (by kernel_rfl) (by decide) (rfw_cons (reads_int Tryz.underlying3 (by kernel_rfl)).w rfl (rfw_cons (reads_int Tryz.underlying3 (by kernel_rfl)).w rfl (rfw_cons (reads_int Tryz.underlying3 (by kernel_rfl)).w rfl rfw_nil)))) Tryz.underlying27 (by kernel_rfl) (by kernel_rfl)) rfl rfw_nil))) rfl (rfw_cons (readsW_struct Tryz.underlying29 (by kernel_rfl) (by decide) (rfw_cons (readsW_slice (reads_int Tryz.underlying3 (by kernel_rfl)).w Tryz.underlying26 (by kernel_rfl) (by kernel_rfl)) rfl (rfw_cons (readsW_slice (readsW_struct Tryz.underlying112 (by kernel_rfl) (by decide) (rfw_cons (reads_int Tryz.underlying3 (by kernel_rfl)).w rfl (rfw_cons (reads_int Tryz.underlying3 (by kernel_rfl)).w rfl (rfw_cons (reads_int Tryz.underlying3 (by kernel_rfl)).w rfl rfw_nil)))) Tryz.underlying27 (by kernel_rfl) (by kernel_rfl)) rfl rfw_nil))) rfl rfw_nil)))) (wgt_at hz (j := 0) rfl rfl) h0
  obtain ⟨a1, len1, cap1, rfl⟩ := okWide_slice Tryz.underlying32 (hval 1 32 v1 rfl rfl)
  obtain ⟨x1, hx1, hr1⟩ := arg_readsW (readsW_slice (readsW_struct Tryz.underlying41 (by kernel_rfl) (by decide) (rfw_cons (reads_int Tryz.underlying3 (by kernel_rfl)).w rfl (rfw_cons (reads_int Tryz.underlying3 (by kernel_rfl)).w rfl rfw_nil))) Tryz.underlying32 (by kernel_rfl) (by kernel_rfl)) rfl (wgt_at hz (j := 1) rfl rfl) h1
  obtain ⟨n2, rfl⟩ := okWide_bool Tryz.underlying4 (hval 2 4 v2 rfl rfl)
  obtain ⟨x2, hx2, hr2⟩ := arg_readsW (reads_bool Tryz.underlying4 (by kernel_rfl)).w rfl (wgt_at hz (j := 2) rfl rfl) h2
  exact law_call (PlanRun_spec (toTys x0.1) (tys_ok hx0.1) (Sta.toGr x0.2.1) (Sta.gr_ok hx0.2.1) (Sta.toGr x0.2.2.1) (Sta.gr_ok hx0.2.2.1) (x1.map toOpn) (ops_len hx1) x2) planRunLaid (by rw [Tryz.params3]; intro t ht; simp only [List.mem_cons, List.not_mem_nil, or_false] at ht; rcases ht with rfl | rfl | rfl <;> exact ⟨by kernel_rfl, by decide +kernel⟩) rfl hW' rfl rfl rfl (B := 4) (by kernel_rfl) Tryz.underlying4 (.cons ((cse_vr hr0)) (.cons ((ops_vr hr1)) (.cons (hr2) .nil)))
theorem planRun_proved : Rows.PlanRunSaid :=
  OpenClaim.holds_of_wide 3 Tryz.f3 rfl rfl rfl rfl rfl rfl rfl ⟨rfl, rfl, rfl, rfl, rfl⟩ rfl rfl rfl rfl rfl (by kernel_rfl) Tryz.func3 (by kernel_rfl)
    (of_decide_eq_true (by kernel_rfl)) (by unfold Func.isWrapper; first | (rw [if_pos (by decide +kernel)]; kernel_rfl) | (rw [if_neg (by decide +kernel)]; exact ⟨rfl, rfl⟩))
    (fun os started H enc _ => planRun_lifted os started H enc)
end Go.Proofs.YtimfponihbfimaaGreat
end
