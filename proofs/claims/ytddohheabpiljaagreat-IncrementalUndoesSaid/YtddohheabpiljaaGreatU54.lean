/- Parts of a proof. -/
import Derived.Test.YtddohheabpiljaaGreatRows
import Derived.Test.YtddohheabpiljaaGreatU53
set_option linter.unusedVariables false
set_option linter.unusedSimpArgs false
section
namespace Go.Proofs.YtddohheabpiljaaGreat
open Go.ChangeShapes Go.WideShapes Go.ChangeAt Go.RowKit Go.Sj
set_option maxRecDepth 8000
theorem okWide_array {P : Program} {w : World} {r : Reach} {base : Nat} {t : TypeId} {v : Value} {n : Nat} {e : TypeId} (ht : P.underlying t = some (.array n e)) (h : Value.okWide P w r base t v) : ∃ cs, v = .agg cs ∧ cs.size = P.cellsOf t := by
  simp only [Value.okWide, ht] at h
  obtain ⟨cs, h1, h2, _⟩ := h
  exact ⟨cs, h1, h2⟩
theorem incrementalUndoesOwn : ownKnob Tryz.prog.godebug = none := by kernel_rfl
theorem incrementalUndoesLaid : laidOutB Tryz.prog = true := by kernel_rfl
set_option maxRecDepth 100000 in
theorem incrementalUndoes_lifted (os : Os) (started : os.Started) (H : Type) (enc : TypeId × Value → H) :
    ReturnsInHanded {} Tryz.checked os 9 .any (Rows.incrementalUndoesSpec.pre6 enc Tryz.prog Tryz.f9 Rows.incrementalUndoesRow.domain false) (Rows.incrementalUndoesSpec.post enc Tryz.prog Tryz.f9 false true false false) := by
  refine returnsInHanded_of_change_sized (C := Tryz.checked) incrementalUndoesOwn started (by kernel_rfl) Tryz.func9
    (ChangeSpec.witness6 (enc := enc) (C := Tryz.checked) false ⟨#[], #[.agg #[.slice none 0 0, .slice none 0 0, .slice none 0 0, .slice none 0 0, .slice none 0 0, .bool false], .agg #[.int .u8 0, .int .u8 0, .int .u8 0, .int .u8 0]], []⟩ 8 (by kernel_rfl) (by kernel_rfl) (by kernel_rfl) (by kernel_rfl)) ?_
  intro W base args ds gs before hval0 hW hcnd hz0 _
  have hval : ∀ (j : Nat) t v, Tryz.f9.params[j]? = some t → args[j]? = some v → Value.okWide Tryz.prog W .any base t v := hval0
  have hW' := hW
  obtain ⟨p, q, hA0, hV, rfl, hfz, hnd⟩ := hW
  have hA : DataW.TrodAll enc Tryz.prog W 0 (fun _ => true) true Tryz.f9.params.toList args.toList ds p := hA0
  rw [Tryz.params9] at hA hval
  obtain ⟨v0, v1, d0, d1, p0, p1, rfl, rfl, rfl, h0, h1⟩ := trodAll_two hA
  obtain ⟨rfl, rfl⟩ := trodVars_none hV
  have hz : (DataW.weightsEach Tryz.prog Tryz.f9.params.toList ([d0, d1] ++ [])).all (· ≤ reachBytes) = true := by
    rw [← List.append_nil Tryz.f9.params.toList]
    exact hz0
  rw [List.append_nil, Tryz.params9] at hz
  obtain ⟨cs0, rfl, _⟩ := okWide_struct Tryz.underlying62 (hval 0 62 v0 rfl rfl)
  obtain ⟨x0, hx0, hr0⟩ := arg_readsWS (readsW_struct Tryz.underlying62 (by kernel_rfl) (by decide) (rfw_cons (readsW_slice (reads_arr Tryz.underlying128 Tryz.underlying5 (by kernel_rfl) (by kernel_rfl) (by decide)).w Tryz.underlying55 (by kernel_rfl) (by kernel_rfl)) rfl (rfw_cons (readsW_slice (reads_arr Tryz.underlying128 Tryz.underlying5 (by kernel_rfl) (by kernel_rfl) (by decide)).w Tryz.underlying55 (by kernel_rfl) (by kernel_rfl)) rfl (rfw_cons (readsW_slice (readsW_struct Tryz.underlying60 (by kernel_rfl) (by decide) (rfw_cons (readsW_slice (reads_int Tryz.underlying5 (by kernel_rfl)).w Tryz.underlying57 (by kernel_rfl) (by kernel_rfl)) rfl (rfw_cons (readsW_slice (reads_arr Tryz.underlying129 Tryz.underlying5 (by kernel_rfl) (by kernel_rfl) (by decide)).w Tryz.underlying58 (by kernel_rfl) (by kernel_rfl)) rfl rfw_nil))) Tryz.underlying56 (by kernel_rfl) (by kernel_rfl)) rfl (rfw_cons (readsW_struct Tryz.underlying60 (by kernel_rfl) (by decide) (rfw_cons (readsW_slice (reads_int Tryz.underlying5 (by kernel_rfl)).w Tryz.underlying57 (by kernel_rfl) (by kernel_rfl)) rfl (rfw_cons (readsW_slice (reads_arr Tryz.underlying129 Tryz.underlying5 (by kernel_rfl) (by kernel_rfl) (by decide)).w Tryz.underlying58 (by kernel_rfl) (by kernel_rfl)) rfl rfw_nil))) rfl (rfw_cons (reads_bool Tryz.underlying4 (by kernel_rfl)).w rfl rfw_nil)))))) (wgt_at hz (j := 0) rfl rfl) h0
  obtain ⟨cs1, rfl, _⟩ := okWide_array Tryz.underlying66 (hval 1 66 v1 rfl rfl)
  obtain ⟨x1, hx1, hr1⟩ := arg_readsWS (reads_arr Tryz.underlying66 Tryz.underlying5 (by kernel_rfl) (by kernel_rfl) (by decide)).w (wgt_at hz (j := 1) rfl rfl) h1
  exact law_call (IncrementalUndoes_spec (toDr20 x0) (dr20_ok hx0) (toQ4 x1) (toQ4_in hx1)) incrementalUndoesLaid (by rw [Tryz.params9]; intro t ht; simp only [List.mem_cons, List.not_mem_nil, or_false] at ht; rcases ht with rfl | rfl <;> exact ⟨by kernel_rfl, by decide +kernel⟩) rfl hW' rfl rfl rfl (B := 4) (by kernel_rfl) Tryz.underlying4 (.cons ((dr20_vr hx0 hr0)) (.cons ((q4_vr hx1 hr1)) .nil))
theorem incrementalUndoes_proved : Rows.IncrementalUndoesSaid :=
  OpenClaim.holds_of_wide 9 Tryz.f9 rfl rfl rfl rfl rfl rfl rfl ⟨rfl, rfl, rfl, rfl, rfl⟩ rfl rfl rfl rfl rfl (by kernel_rfl) Tryz.func9 (by kernel_rfl)
    (of_decide_eq_true (by kernel_rfl)) (by unfold Func.isWrapper; first | (rw [if_pos (by decide +kernel)]; kernel_rfl) | (rw [if_neg (by decide +kernel)]; exact ⟨rfl, rfl⟩))
    (fun os started H enc _ => incrementalUndoes_lifted os started H enc)
end Go.Proofs.YtddohheabpiljaaGreat
end
