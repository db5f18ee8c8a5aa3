/-
  The law on graphs compared: the walk.
-/
import Derived.Test.YtoaenbfidlgjhaaSjQ8
import Derived.Test.YtoaenbfidlgjhaaW18
namespace Go.Proofs.Ytoaenbfidlgjhaa
open Go.Sj Go.Sj.Typ Go.Sj.Sta Go.Sj.Can
set_option linter.unusedVariables false
set_option linter.unusedSimpArgs false
set_option maxHeartbeats 16000000

def cmpR (a b : Gr) : Int × Int := if cvalid a ≠ 0 then (0, cvalid a) else if cvalid b ≠ 0 then (0, cvalid b) else (cmpL (codG a) (codG b), 0)
theorem CCompare_spec (a b : Gr) (ha : OkG a) (hb : OkG b) (hsa : cvalid a = 0 → OkS' a) (hsb : cvalid b = 0 → OkS' b) : Pure Try.prog 25 [grA a, grA b] (.tup [AI (cmpR a b).1, AI (cmpR a b).2]) := by
  have s1 := cvalid_spec a ha
  have s2 := cvalid_spec b hb
  unfold cmpR
  by_cases h1 : cvalid a = 0
  · rw [if_neg (Decidable.not_not.2 h1)]
    have hV := cvalid_zero.1 h1
    have t1 := tabled_spec a hV.1 hV.2 (hsa h1)
    have t2 := best_spec a hV.1 hV.2
    have l1 := codG_le hV.1 hV.2
    rw [h1] at s1
    by_cases h2 : cvalid b = 0
    · rw [if_neg (Decidable.not_not.2 h2)]
      have hW := cvalid_zero.1 h2
      have t3 := tabled_spec b hW.1 hW.2 (hsb h2)
      have t4 := best_spec b hW.1 hW.2
      have l2 := codG_le hW.1 hW.2
      rw [h2] at s2
      have t5 := Compare_spec (codG a) (codG b) (by omega) (by omega)
      generalize codG a = x at *
      generalize codG b = y at *
      generalize ordG a = o at *
      generalize ordG b = q at *
      generalize cmpL x y = z at *
      refine a_enter Try.func25 (by kernel_rfl) rfl Try.ntmps25 rfl (by simp) ?_
      refine a_seq ?_
      refine a_reg ?_
      repeat (first | refine gZ pk ?_ | (show AL _ _ _ _ _ _ _; first | refine jB (fun u => ?_)))
      refine a_frzBox 1 2 rfl rfl ?_
      refine a_frzBox 0 3 rfl rfl ?_
      repeat (first | refine gA pk ?_ | (show AL _ _ _ _ _ _ _; first | refine jP s1 ?_ | refine jP s2 ?_ | refine jP t1 ?_ | refine jP t2 ?_ | refine jP t3 ?_ | refine jP t4 ?_ | refine jP t5 ?_))
      refine finQ ?_
      exact ⟨rfl, rfl⟩
    · rw [if_pos h2]
      generalize cvalid b = e at *
      refine a_enter Try.func25 (by kernel_rfl) rfl Try.ntmps25 rfl (by simp) ?_
      refine a_seq ?_
      refine a_reg ?_
      repeat (first | refine gZ pk ?_ | (show AL _ _ _ _ _ _ _; first | refine jB (fun u => ?_)))
      refine a_frzBox 1 2 rfl rfl ?_
      refine a_frzBox 0 3 rfl rfl ?_
      repeat (first | refine gA pk ?_ | (show AL _ _ _ _ _ _ _; first | refine jP s1 ?_ | refine jP s2 ?_))
      refine finQ ?_
      exact ⟨rfl, rfl⟩
  · rw [if_pos h1]
    generalize cvalid a = e at *
    refine a_enter Try.func25 (by kernel_rfl) rfl Try.ntmps25 rfl (by simp) ?_
    refine a_seq ?_
    refine a_reg ?_
    repeat (first | refine gZ pk ?_ | (show AL _ _ _ _ _ _ _; first | refine jB (fun u => ?_)))
    refine a_frzBox 1 2 rfl rfl ?_
    refine a_frzBox 0 3 rfl rfl ?_
    repeat (first | refine gA pk ?_ | (show AL _ _ _ _ _ _ _; first | refine jP s1 ?_))
    refine finQ ?_
    exact ⟨rfl, rfl⟩
theorem rCompare_spec (a b : Gr) (ha : OkG a) (hb : OkG b) : Pure Try.prog 26 [grA a, grA b] (.tup [AI (cmpR a b).1, AI (cmpR a b).2]) := by
  have s1 := rCode_spec a ha
  have s2 := rCode_spec b hb
  have k1 := codeR_le a
  have k2 := codeR_le b
  unfold cmpR
  unfold codeR at s1 s2 k1 k2
  by_cases h1 : cvalid a = 0
  · rw [if_neg (Decidable.not_not.2 h1)] at s1 k1 ⊢
    by_cases h2 : cvalid b = 0
    · rw [if_neg (Decidable.not_not.2 h2)] at s2 k2 ⊢
      simp only at s1 s2 k1 k2
      have t5 := rcmp_spec (codG a) (codG b) (by omega) (by omega)
      generalize codG a = x at *
      generalize codG b = y at *
      generalize cmpL x y = z at *
      refine a_enter Try.func26 (by kernel_rfl) rfl Try.ntmps26 rfl (by simp) ?_
      refine a_seq ?_
      refine a_reg ?_
      repeat (first | refine gZ pk ?_ | (show AL _ _ _ _ _ _ _; first | refine jB (fun u => ?_)))
      refine a_frzBox 1 2 rfl rfl ?_
      refine a_frzBox 0 3 rfl rfl ?_
      repeat (first | refine gA pk ?_ | (show AL _ _ _ _ _ _ _; first | refine jP s1 ?_ | refine jP s2 ?_ | refine jP t5 ?_))
      refine finQ ?_
      exact ⟨rfl, rfl⟩
    · rw [if_pos h2] at s2 ⊢
      simp only at s1 s2
      generalize cvalid b = e at *
      generalize codG a = x at *
      refine a_enter Try.func26 (by kernel_rfl) rfl Try.ntmps26 rfl (by simp) ?_
      refine a_seq ?_
      refine a_reg ?_
      repeat (first | refine gZ pk ?_ | (show AL _ _ _ _ _ _ _; first | refine jB (fun u => ?_)))
      refine a_frzBox 1 2 rfl rfl ?_
      refine a_frzBox 0 3 rfl rfl ?_
      repeat (first | refine gA pk ?_ | (show AL _ _ _ _ _ _ _; first | refine jP s1 ?_ | refine jP s2 ?_))
      refine finQ ?_
      exact ⟨rfl, rfl⟩
  · rw [if_pos h1] at s1 ⊢
    simp only at s1
    generalize cvalid a = e at *
    refine a_enter Try.func26 (by kernel_rfl) rfl Try.ntmps26 rfl (by simp) ?_
    refine a_seq ?_
    refine a_reg ?_
    repeat (first | refine gZ pk ?_ | (show AL _ _ _ _ _ _ _; first | refine jB (fun u => ?_)))
    refine a_frzBox 1 2 rfl rfl ?_
    refine a_frzBox 0 3 rfl rfl ?_
    repeat (first | refine gA pk ?_ | (show AL _ _ _ _ _ _ _; first | refine jP s1 ?_))
    refine finQ ?_
    exact ⟨rfl, rfl⟩
theorem cmpL_rng : ∀ x y : List Int, -1 ≤ cmpL x y ∧ cmpL x y ≤ 1
  | [], [] => by simp [cmpL]
  | [], _ :: _ => by simp [cmpL]
  | _ :: _, [] => by simp [cmpL]
  | a :: x, b :: y => by
    have := cmpL_rng x y
    rw [cmpL]
    unfold cmpI
    repeat' split
    all_goals omega
theorem CanonCompare_spec (a : Gr) (ha : OkG a) (b : Gr) (hb : OkG b) : Pure Try.prog 6 [grA a, grA b] (AB true) := by
  have hw := awakeC_spec
  have s1 := Light_spec a ha
  have s1' := Light_spec b hb
  cases hl : lightB a with
  | false =>
    rw [hl] at s1
    refine a_enter Try.func6 (by kernel_rfl) rfl Try.ntmps6 rfl (by simp) ?_
    refine a_seq ?_
    refine a_reg ?_
    repeat (first | refine gZ pk ?_ | (show AL _ _ _ _ _ _ _; first | refine jB (fun u => ?_)))
    refine a_frzBox 1 2 rfl rfl ?_
    refine a_frzBox 0 3 rfl rfl ?_
    repeat (first | refine gA pk ?_ | (show AL _ _ _ _ _ _ _; first | refine jP hw ?_ | refine jP s1 ?_))
    refine finQ ?_
    exact ⟨rfl, rfl⟩
  | true =>
    rw [hl] at s1
    obtain ⟨l1, l2, l3⟩ := light_true hl
    cases hl' : lightB b with
    | false =>
      rw [hl'] at s1'
      refine a_enter Try.func6 (by kernel_rfl) rfl Try.ntmps6 rfl (by simp) ?_
      refine a_seq ?_
      refine a_reg ?_
      repeat (first | refine gZ pk ?_ | (show AL _ _ _ _ _ _ _; first | refine jB (fun u => ?_)))
      refine a_frzBox 1 2 rfl rfl ?_
      refine a_frzBox 0 3 rfl rfl ?_
      repeat (first | refine gA pk ?_ | (show AL _ _ _ _ _ _ _; first | refine jP hw ?_ | refine jP s1 ?_ | refine jP (s1') ?_))
      refine finQ ?_
      exact ⟨rfl, rfl⟩
    | true =>
      rw [hl'] at s1'
      obtain ⟨m1, m2, m3⟩ := light_true hl'
      have s2 := gCopied_spec a (by omega) (by omega)
      have s3 := gCopied_spec b (by omega) (by omega)
      have s4 := CCompare_spec a b ha hb l3 m3
      have s5 := rCompare_spec a b ha hb
      have s6 := CCompare_spec b a hb ha m3 l3
      have hz : (cmpR a b).2 = 0 → cmpR b a = (-(cmpR a b).1, 0) := fun h => by
        unfold cmpR at h ⊢
        by_cases h1 : cvalid a = 0
        · rw [if_neg (Decidable.not_not.2 h1)] at h ⊢
          by_cases h2 : cvalid b = 0
          · rw [if_neg (Decidable.not_not.2 h2), if_neg (Decidable.not_not.2 h1), if_neg (Decidable.not_not.2 h2), cmpL_anti]
          · rw [if_pos h2] at h; exact absurd h h2
        · rw [if_pos h1] at h; exact absurd h h1
      have hrg : -1 ≤ (cmpR a b).1 ∧ (cmpR a b).1 ≤ 1 := by
        unfold cmpR
        split
        · exact ⟨show (-1 : Int) ≤ 0 by omega, show (0 : Int) ≤ 1 by omega⟩
        · split
          · exact ⟨show (-1 : Int) ≤ 0 by omega, show (0 : Int) ≤ 1 by omega⟩
          · exact cmpL_rng _ _
      generalize cmpR a b = q at s4 s5 hz hrg
      obtain ⟨z, e⟩ := q
      simp only at s4 s5 hz hrg
      by_cases he : e = 0
      · subst he
        rw [hz rfl] at s6
        refine a_enter Try.func6 (by kernel_rfl) rfl Try.ntmps6 rfl (by simp) ?_
        refine a_seq ?_
        refine a_reg ?_
        repeat (first | refine gZ pk ?_ | (show AL _ _ _ _ _ _ _; first | refine jB (fun u => ?_)))
        refine a_frzBox 1 2 rfl rfl ?_
        refine a_frzBox 0 3 rfl rfl ?_
        repeat (first | refine gN pk ?_ | (show AL _ _ _ _ _ _ _; first | refine jP hw ?_ | refine jP s1 ?_ | refine jP (s1') ?_))
        refine a_regG ((List.range 10).map fun i => if inL [1, 3, 4] i = true then .eff else .pure) [] [0, 2, 1, 3, 4, 5, 6, 7, 8, 9] .stop mixed rfl rfl (by decide +kernel) ?_
        repeat' (first | (with_reducible show AG _ _ _ _ _ _ _ _ _ _; first | exact ag_none | refine ag_stop ?_ | refine ag_nd ?_ ?_) | (show AMid _ _ _ _; first | refine amid_f ?_ | refine amid_g (by first | exact OSub.refl _ | exact .drop (OSub.refl _) | exact .drop (.drop (OSub.refl _))) ?_) | refine gY pk ?_ | (show AL _ _ _ _ _ _ _; first | refine jP s2 ?_ | refine jP s3 ?_ | refine jP s4 ?_) | fail)
        repeat (first | refine gA pk ?_ | (show AL _ _ _ _ _ _ _; first | refine jP s5 ?_ | refine jP s6 ?_ | refine s_neg rfl rfl rfl rfl rfl (IntWalk.i64_in _ (by omega)) ?_))
        refine finQ ?_
        exact ⟨rfl, rfl⟩
      · clear hz s6
        refine a_enter Try.func6 (by kernel_rfl) rfl Try.ntmps6 rfl (by simp) ?_
        refine a_seq ?_
        refine a_reg ?_
        repeat (first | refine gZ pk ?_ | (show AL _ _ _ _ _ _ _; first | refine jB (fun u => ?_)))
        refine a_frzBox 1 2 rfl rfl ?_
        refine a_frzBox 0 3 rfl rfl ?_
        repeat (first | refine gN pk ?_ | (show AL _ _ _ _ _ _ _; first | refine jP hw ?_ | refine jP s1 ?_ | refine jP (s1') ?_))
        refine a_regG ((List.range 10).map fun i => if inL [1, 3, 4] i = true then .eff else .pure) [] [0, 2, 1, 3, 4, 5, 6, 7, 8, 9] .stop mixed rfl rfl (by decide +kernel) ?_
        repeat' (first | (with_reducible show AG _ _ _ _ _ _ _ _ _ _; first | exact ag_none | refine ag_stop ?_ | refine ag_nd ?_ ?_) | (show AMid _ _ _ _; first | refine amid_f ?_ | refine amid_g (by first | exact OSub.refl _ | exact .drop (OSub.refl _) | exact .drop (.drop (OSub.refl _))) ?_) | refine gY pk ?_ | (show AL _ _ _ _ _ _ _; first | refine jP s2 ?_ | refine jP s3 ?_ | refine jP s4 ?_) | fail)
        repeat (first | refine gA pk ?_ | (show AL _ _ _ _ _ _ _; first | refine jP s5 ?_))
        refine finQ ?_
        exact ⟨rfl, rfl⟩
end Go.Proofs.Ytoaenbfidlgjhaa
