/-
  Parts of the proof of the law IncrementalNew (texts INewL): steps, plain mathematics, contracts of functions. Each theorem states its own conditions.
-/
import Derived.Test.YtddohheabpiljaaGreatRows
import Derived.Test.YtddohheabpiljaaGreatA04
import Derived.Test.YtddohheabpiljaaGreatA51
section
/-
  The law 'IncrementalNew' holds for every input: it returns true and leaves its arguments as they were. No condition.
-/
namespace Go.Proofs.YtddohheabpiljaaGreat
open Go.ChangeShapes Go.WideShapes Go.ChangeAt Go.RowKit Go.Sj
set_option maxRecDepth 8000
set_option linter.unusedVariables false

theorem incrementalNewOwn : ownKnob Tryz.prog.godebug = none := by kernel_rfl
theorem incrementalNewLaid : laidOutB Tryz.prog = true := by kernel_rfl

set_option maxRecDepth 100000 in
theorem incrementalNew_lifted (os : Os) (started : os.Started) (H : Type) (enc : TypeId × Value → H) :
    ReturnsInHanded {} Tryz.checked os 3 .any (Rows.incrementalNewSpec.pre6 enc Tryz.prog Tryz.f3 Rows.incrementalNewRow.domain false) (Rows.incrementalNewSpec.post enc Tryz.prog Tryz.f3 false true false false) := by
  refine returnsInHanded_of_change_sized (C := Tryz.checked) incrementalNewOwn started (by kernel_rfl) Tryz.func3
    (ChangeSpec.witness6 (enc := enc) (C := Tryz.checked) false ⟨#[], #[.agg #[.slice none 0 0, .slice none 0 0, .slice none 0 0, .slice none 0 0, .slice none 0 0, .bool false]], []⟩ 8 (by kernel_rfl) (by kernel_rfl) (by kernel_rfl) (by kernel_rfl)) ?_
  intro W base args ds gs before hval0 hW hcnd hz0 _
  have hval : ∀ (j : Nat) t v, Tryz.f3.params[j]? = some t → args[j]? = some v → Value.okWide Tryz.prog W .any base t v := hval0
  have hW' := hW
  obtain ⟨p, q, hA0, hV, rfl, hfz, hnd⟩ := hW
  have hA : DataW.TrodAll enc Tryz.prog W 0 (fun _ => true) true Tryz.f3.params.toList args.toList ds p := hA0
  rw [Tryz.params3] at hA hval
  obtain ⟨v0, d0, rfl, rfl, h0⟩ := trodAll_one hA
  obtain ⟨rfl, rfl⟩ := trodVars_none hV
  have hz : (DataW.weightsEach Tryz.prog Tryz.f3.params.toList ([d0] ++ [])).all (· ≤ reachBytes) = true := by
    rw [← List.append_nil Tryz.f3.params.toList]
    exact hz0
  rw [List.append_nil, Tryz.params3] at hz
  obtain ⟨cs0, rfl, _⟩ := okWide_struct Tryz.underlying32 (hval 0 32 v0 rfl rfl)
  obtain ⟨x0, hx0, hr0⟩ := arg_readsWS (readsW_struct Tryz.underlying32 (by kernel_rfl) (by decide) (rfw_cons (readsW_struct Tryz.underlying25 (by kernel_rfl) (by decide) (rfw_cons (readsW_slice (readsW_struct Tryz.underlying112 (by kernel_rfl) (by decide) (rfw_cons (reads_string Tryz.underlying9 (by kernel_rfl)).w rfl (rfw_cons (reads_int Tryz.underlying3 (by kernel_rfl)).w rfl (rfw_cons (reads_bool Tryz.underlying4 (by kernel_rfl)).w rfl (rfw_cons (readsW_slice (readsW_struct Tryz.underlying109 (by kernel_rfl) (by decide) (rfw_cons (reads_string Tryz.underlying9 (by kernel_rfl)).w rfl (rfw_cons (reads_int Tryz.underlying3 (by kernel_rfl)).w rfl (rfw_cons (reads_int Tryz.underlying3 (by kernel_rfl)).w rfl (rfw_cons (readsW_slice (reads_string Tryz.underlying9 (by kernel_rfl)).w Tryz.underlying107 (by kernel_rfl) (by kernel_rfl)) rfl rfw_nil))))) Tryz.underlying110 (by kernel_rfl) (by kernel_rfl)) rfl rfw_nil))))) Tryz.underlying22 (by kernel_rfl) (by kernel_rfl)) rfl (rfw_cons (readsW_slice (readsW_struct Tryz.underlying114 (by kernel_rfl) (by decide) (rfw_cons (reads_string Tryz.underlying9 (by kernel_rfl)).w rfl (rfw_cons (reads_int Tryz.underlying3 (by kernel_rfl)).w rfl (rfw_cons (reads_int Tryz.underlying3 (by kernel_rfl)).w rfl (rfw_cons (reads_int Tryz.underlying3 (by kernel_rfl)).w rfl (rfw_cons (reads_int Tryz.underlying3 (by kernel_rfl)).w rfl (rfw_cons (reads_int Tryz.underlying3 (by kernel_rfl)).w rfl (rfw_cons (reads_int Tryz.underlying3 (by kernel_rfl)).w rfl rfw_nil)))))))) Tryz.underlying23 (by kernel_rfl) (by kernel_rfl)) rfl rfw_nil))) rfl (rfw_cons (readsW_slice (readsW_struct Tryz.underlying30 (by kernel_rfl) (by decide) (rfw_cons (readsW_slice (reads_int Tryz.underlying3 (by kernel_rfl)).w Tryz.underlying27 (by kernel_rfl) (by kernel_rfl)) rfl (rfw_cons (readsW_slice (readsW_struct Tryz.underlying85 (by kernel_rfl) (by decide) (rfw_cons (reads_int Tryz.underlying3 (by kernel_rfl)).w rfl (rfw_cons (reads_int Tryz.underlying3 (by kernel_rfl)).w rfl (rfw_cons (reads_int Tryz.underlying3 (by kernel_rfl)).w rfl rfw_nil)))) Tryz.underlying28 (by kernel_rfl) (by kernel_rfl)) rfl rfw_nil))) Tryz.underlying26 (by kernel_rfl) (by kernel_rfl)) rfl (rfw_cons (readsW_struct Tryz.underlying30 (by kernel_rfl) (by decide) (rfw_cons (readsW_slice (reads_int Tryz.underlying3 (by kernel_rfl)).w Tryz.underlying27 (by kernel_rfl) (by kernel_rfl)) rfl (rfw_cons (readsW_slice (readsW_struct Tryz.underlying85 (by kernel_rfl) (by decide) (rfw_cons (reads_int Tryz.underlying3 (by kernel_rfl)).w rfl (rfw_cons (reads_int Tryz.underlying3 (by kernel_rfl)).w rfl (rfw_cons (reads_int Tryz.underlying3 (by kernel_rfl)).w rfl rfw_nil)))) Tryz.underlying28 (by kernel_rfl) (by kernel_rfl)) rfl rfw_nil))) rfl (rfw_cons (reads_bool Tryz.underlying4 (by kernel_rfl)).w rfl rfw_nil))))) (wgt_at hz (j := 0) rfl rfl) h0
  exact law_call (IncrementalNew_spec (toTys x0.1) (x0.2.1.map Sta.toGr) (Sta.toGr x0.2.2.1) x0.2.2.2.1 (tys_ok hx0.1) (Can.grs_ok hx0.2.1 (fun m h => Sta.gr_ok h)) (Sta.gr_ok hx0.2.2.1)) incrementalNewLaid (by rw [Tryz.params3]; intro t ht; simp only [List.mem_cons, List.not_mem_nil, or_false] at ht; rcases ht with rfl <;> exact ⟨by kernel_rfl, by decide +kernel⟩) rfl hW' rfl rfl rfl (B := 4) (by kernel_rfl) Tryz.underlying4 (.cons ((cas_vr hr0)) .nil)

/-- The statement, as it was given. -/
theorem incrementalNew_proved : Rows.IncrementalNewSaid :=
  OpenClaim.holds_of_wide 3 Tryz.f3 rfl rfl rfl rfl rfl rfl rfl ⟨rfl, rfl, rfl, rfl, rfl⟩ rfl rfl rfl rfl rfl (by kernel_rfl) Tryz.func3 (by kernel_rfl)
    (of_decide_eq_true (by kernel_rfl)) (by unfold Func.isWrapper; first | (rw [if_pos (by decide +kernel)]; kernel_rfl) | (rw [if_neg (by decide +kernel)]; exact ⟨rfl, rfl⟩))
    (fun os started H enc _ => incrementalNew_lifted os started H enc)

end Go.Proofs.YtddohheabpiljaaGreat

end
