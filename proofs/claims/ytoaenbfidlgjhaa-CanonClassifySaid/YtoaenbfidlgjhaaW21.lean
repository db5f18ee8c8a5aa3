/-
  The law on classes of graphs: the walk.
-/
import Derived.Test.YtoaenbfidlgjhaaSjQ8
import Derived.Test.YtoaenbfidlgjhaaW20
import Derived.Test.YtoaenbfidlgjhaaSjM33
namespace Go.Proofs.Ytoaenbfidlgjhaa
open Go.Sj Go.Sj.Typ Go.Sj.Sta Go.Sj.Can
set_option linter.unusedVariables false
set_option linter.unusedSimpArgs false
set_option maxHeartbeats 16000000

theorem cGr_cell (l : List Gr) : (l.map cGr).all (fun e => e.all AV.cell) = true := List.all_eq_true.2 fun x hx => by
  obtain ⟨a, _, rfl⟩ := List.mem_map.1 hx; rfl
theorem CloneGr_spec (l : List Gr) (hs : l.length ≤ 1000000) : Gives Try.prog 33 [grsA l] 25 2 (l.map cGr) := by
  have ll : (l.map cGr).length = l.length := by simp
  refine a_enter Try.func33 (by kernel_rfl) rfl Try.ntmps33 rfl (by simp) ?_
  repeat (first | refine gA pk ?_)
  refine s_eqNil tok rfl rfl rfl rfl rfl rfl (fun h => ?_) ?_
  · repeat (first | refine gA pk ?_)
    refine fin (x := .lit _) (.inr rfl) rfl (Sub.refl _) ⟨_, rfl, rfl⟩ ?_
    rw [h]
    exact .free .nil
  · repeat (first | refine gA pk ?_ | (show AL _ _ _ _ _ _ _; first | refine s_build tok (parts := []) rfl rfl rfl rfl rfl rfl rfl rfl (by decide) (by decide) (fun v => ?_)))
    refine s_appendIm tok 0 rfl rfl rfl rfl rfl rfl (by decide) rfl rfl rfl rfl (cGr_cell l) (by simp; omega) (by simp; omega) (fun v' => ?_)
    repeat (first | refine gA pk ?_)
    refine finR ?_
    exact ⟨_, rfl, rfl⟩
theorem clsL_spec (g : Gr) (hg : OkG g) : Pure Try.prog 31 [.agg (cGr g)] (AB (!lightB g)) := by
  have s1 := Light_spec g hg
  generalize lightB g = r at *
  show Pure _ _ [grA g] _
  refine a_enter Try.func31 (by kernel_rfl) rfl Try.ntmps31 rfl (by simp) ?_; refine a_seq ?_; refine a_reg ?_; (repeat (first | refine gZ pk ?_ | (show AL _ _ _ _ _ _ _; first | refine jB (fun u => ?_)))); refine a_frzBox 0 1 rfl rfl ?_
  repeat (first | refine gA pk ?_ | (show AL _ _ _ _ _ _ _; first | refine jP s1 ?_))
  refine finQ ?_
  exact ⟨rfl, rfl⟩
theorem CanonClassify_spec (l : List Gr) (hg : (∀ g ∈ l, OkG g) ∧ l.length ≤ 140737488355328) : Pure Try.prog 8 [grsA l] (AB true) := by
  have hw := awakeC_spec
  have ll : (l.map cGr).length = l.length := by simp
  obtain ⟨hg, hl⟩ := hg
  by_cases h1 : 6 < l.length ∧ l.length ≤ 40
  · refine a_enter Try.func8 (by kernel_rfl) rfl Try.ntmps8 rfl (by simp) ?_
    repeat (first | refine gA pk ?_ | (show AL _ _ _ _ _ _ _; first | refine jP hw ?_))
    refine finQ ?_
    exact ⟨rfl, rfl⟩
  · by_cases h2 : 60 < l.length
    · refine a_enter Try.func8 (by kernel_rfl) rfl Try.ntmps8 rfl (by simp) ?_
      repeat (first | refine gA pk ?_ | (show AL _ _ _ _ _ _ _; first | refine jP hw ?_))
      refine finQ ?_
      exact ⟨rfl, rfl⟩
    · have s1 := ContainsFuncGr_spec l (by omega) 31 [] (fun g => !lightB g) (fun g hgm => clsL_spec g (hg g hgm))
      cases hany : l.any (fun g => !lightB g) with
      | true =>
        rw [hany] at s1
        by_cases h3 : 6 < l.length
        all_goals
          refine a_enter Try.func8 (by kernel_rfl) rfl Try.ntmps8 rfl (by simp) ?_
          repeat (first | refine gA pk ?_ | (show AL _ _ _ _ _ _ _; first | refine jP hw ?_ | refine jP s1 ?_))
          refine finQ ?_
          exact ⟨rfl, rfl⟩
      | false =>
        rw [hany] at s1
        have hlt : ∀ g ∈ l, lightB g = true := fun g hgm => by
          have := List.any_eq_false.1 hany g hgm
          simpa using this
        have s2 := (CloneGr_spec l (by omega)).pure
        have s3 := Classify_spec l (by omega) (fun g hgm => ⟨hg g hgm, (light_true (hlt g hgm)).2.2⟩)
        have s4 := rClassify_spec l (by omega) hg
        have hle : (classR l).1.length ≤ 1000 := by
          unfold classR
          split
          · exact Nat.zero_le _
          · split
            · exact Nat.zero_le _
            · simp only [List.length_map]; omega
        have s5 := Equal_spec (classR l).1 (classR l).1 (by omega) (by omega)
        rw [decide_eq_true rfl] at s5
        generalize classR l = q at *
        obtain ⟨c, e⟩ := q
        simp only at s3 s4 s5
        by_cases h3 : 6 < l.length
        all_goals
          refine a_enter Try.func8 (by kernel_rfl) rfl Try.ntmps8 rfl (by simp) ?_
          repeat (first | refine gA pk ?_ | (show AL _ _ _ _ _ _ _; first | refine jP hw ?_ | refine jP s1 ?_ | refine jP s2 ?_ | refine jP s3 ?_ | refine jP s4 ?_ | refine jP s5 ?_))
          refine finQ ?_
          exact ⟨rfl, rfl⟩
end Go.Proofs.Ytoaenbfidlgjhaa
