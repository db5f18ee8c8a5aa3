/-
  The law 'DifferenceTrue' holds for every input: it returns true and leaves its arguments as they were. No condition.
-/
import Derived.Test.YtniboaekigoheaaRows
import Derived.Test.YtniboaekigoheaaSjT2
import Derived.Test.YtniboaekigoheaaD32
namespace Go.Proofs.Ytniboaekigoheaa
open Go.ChangeShapes Go.WideShapes Go.ChangeAt Go.RowKit Go.Sj
set_option linter.unusedVariables false

theorem okWide_array {P : Program} {w : World} {r : Reach} {base : Nat} {t : TypeId} {v : Value} {n : Nat} {e : TypeId} (ht : P.underlying t = some (.array n e)) (h : Value.okWide P w r base t v) : ∃ cs, v = .agg cs ∧ cs.size = P.cellsOf t := by
  simp only [Value.okWide, ht] at h
  obtain ⟨cs, h1, h2, _⟩ := h
  exact ⟨cs, h1, h2⟩
theorem differenceTrueOwn : ownKnob Try.prog.godebug = none := by kernel_rfl
theorem differenceTrueLaid : laidOutB Try.prog = true := by kernel_rfl

set_option maxRecDepth 100000 in
theorem differenceTrue_lifted (os : Os) (started : os.Started) (H : Type) (enc : TypeId × Value → H) :
    ReturnsInHanded {} Try.checked os 9 .any (Rows.differenceTrueSpec.pre6 enc Try.prog Try.f9 Rows.differenceTrueRow.domain false) (Rows.differenceTrueSpec.post enc Try.prog Try.f9 false true false false) := by
  refine returnsInHanded_of_change (C := Try.checked) differenceTrueOwn started (by kernel_rfl) Try.func9
    (ChangeSpec.witness6 (enc := enc) (C := Try.checked) false ⟨#[], #[.slice none 0 0, .slice none 0 0, .agg #[.int .i8 0, .int .i8 0, .int .i8 0, .int .i8 0]], []⟩ 8 (by kernel_rfl) (by kernel_rfl) (by kernel_rfl) (by kernel_rfl)) ?_
  intro W base args ds gs before hval0 hW hcnd _
  have hval : ∀ (j : Nat) t v, Try.f9.params[j]? = some t → args[j]? = some v → Value.okWide Try.prog W .any base t v := hval0
  have hW' := hW
  obtain ⟨p, q, hA0, hV, rfl, hfz, hnd⟩ := hW
  have hA : DataW.TrodAll enc Try.prog W 0 (fun _ => true) true Try.f9.params.toList args.toList ds p := hA0
  rw [Try.params9] at hA hval
  obtain ⟨v0, v1, v2, d0, d1, d2, p0, p1, p2, rfl, rfl, rfl, h0, h1, h2⟩ := trodAll_three hA
  obtain ⟨rfl, rfl⟩ := trodVars_none hV
  obtain ⟨a0, len0, cap0, rfl⟩ := okWide_slice Try.underlying56 (hval 0 56 v0 rfl rfl)
  obtain ⟨x0, hx0, hr0⟩ := arg_reads (reads_slice (reads_int Try.underlying43 (by kernel_rfl)) Try.underlying56 (by kernel_rfl)) rfl h0
  obtain ⟨a1, len1, cap1, rfl⟩ := okWide_slice Try.underlying33 (hval 1 33 v1 rfl rfl)
  obtain ⟨x1, hx1, hr1⟩ := arg_reads (reads_slice (reads_arr Try.underlying44 Try.underlying43 (by kernel_rfl) (by kernel_rfl) (by decide)) Try.underlying33 (by kernel_rfl)) rfl h1
  obtain ⟨cs2, rfl, _⟩ := okWide_array Try.underlying44 (hval 2 44 v2 rfl rfl)
  obtain ⟨x2, hx2, hr2⟩ := arg_readsS (reads_arr Try.underlying44 Try.underlying43 (by kernel_rfl) (by kernel_rfl) (by decide)) h2
  exact law_call (DifferenceTrue_spec x0 (i8s_ok hx0) (x1.map toC8) (codes_ok hx1) (toC8 x2) (toC8_ok hx2)) differenceTrueLaid (by rw [Try.params9]; intro t ht; simp only [List.mem_cons, List.not_mem_nil, or_false] at ht; rcases ht with rfl | rfl | rfl <;> exact ⟨by kernel_rfl, by decide +kernel⟩) rfl hW' rfl rfl rfl (B := 4) (by kernel_rfl) Try.underlying4 (.cons (hr0) (.cons ((codes_vr hx1 hr1)) (.cons ((code_vr hx2 hr2)) .nil)))

/-- The statement, as it was given. -/
theorem differenceTrue_proved : Rows.DifferenceTrueSaid :=
  OpenClaim.holds_of_wide 9 Try.f9 rfl rfl rfl rfl rfl rfl rfl ⟨rfl, rfl, rfl, rfl, rfl⟩ rfl rfl rfl rfl rfl (by kernel_rfl) Try.func9 (by kernel_rfl)
    (of_decide_eq_true (by kernel_rfl)) (by unfold Func.isWrapper; first | (rw [if_pos (by decide +kernel)]; kernel_rfl) | (rw [if_neg (by decide +kernel)]; exact ⟨rfl, rfl⟩))
    (fun os started H enc _ => differenceTrue_lifted os started H enc)

end Go.Proofs.Ytniboaekigoheaa
