/-
  Fits, Ancestors, Below, by the program and by the reference: the walks.
-/
import Derived.Test.YtcacbdohlfljfaaGreatSjQ8
import Derived.Test.YtcacbdohlfljfaaGreatY16
namespace Go.Proofs.YtcacbdohlfljfaaGreat
open Go.Sj Go.Sj.Typ
set_option linter.unusedVariables false
set_option maxHeartbeats 4000000

theorem given_own1 (t : Tys) (ht : Small t) (a : Int) (v : Value) : ACalls Tryz.prog 76 [tysA t, .lit v] [(v, .row 3 1 [[AI a]])] (fun y L => y = AI (givenR t [a]) ∧ L = []) := given_own t ht [a] (by simp) v
theorem given_at1 {t : Tys} (ht : Small t) {a : Int} (h : givenR t [a] = 0) : PR t.nodes t.nodes.length ∧ (0 ≤ a ∧ a < t.nodes.length) ∧ t.nodes.length ≤ 1000 :=
  ⟨given_pr h, (given_ok h).2 a (by simp), by have := ht.nodes; omega⟩
theorem edge_at {t : Tys} {l : List Int} (h : givenR t l = 0) {i : Nat} {x : Edg} (hx : t.edges[i]? = some x) : (0 ≤ x.fr ∧ x.fr < t.nodes.length) ∧ (0 ≤ x.to ∧ x.to < t.nodes.length) := by
  have h1 := (validR_zero.1 (given_ok h).1).2.2.2.2 i (List.getElem?_eq_some_iff.1 hx).1
  rw [edgeE_eq hx] at h1
  split at h1
  · cases h1
  · split at h1
    · cases h1
    · split at h1
      · rename_i h2; exact ⟨h2.1, h2.2.1⟩
      · cases h1
theorem Fits_spec (t : Tys) (ht : Small t) (e a b : Int) : Pure Tryz.prog 44 [tysA t, AI e, AI a, AI b] (AB (fitsR t e a b)) := by
  have s1 := given_own t ht [a, b] (by simp)
  have le : (t.edges.map cEdg).length = t.edges.length := by simp
  unfold fitsR
  by_cases hg : givenR t [a, b] = 0
  · obtain ⟨hp, ha, hb, hk⟩ := given_at ht hg
    rw [hg] at s1
    by_cases he : e < 0 ∨ (t.edges.length : Int) ≤ e
    · rw [if_pos (.inr he)]
      refine a_enter Tryz.func44 (by kernel_rfl) rfl Tryz.ntmps44 rfl (by simp) ?_; refine a_seq ?_; refine a_reg ?_; (repeat (first | refine gZ pk ?_ | (show AL _ _ _ _ _ _ _; first | refine jB (fun u => ?_)))); refine a_frzBox 0 4 rfl rfl ?_
      repeat (first | refine gA pk ?_ | (show AL _ _ _ _ _ _ _; first | refine s_build tok (parts := [(0, .tmp _), (1, .tmp _)]) rfl rfl rfl rfl rfl rfl rfl rfl (by decide) (by decide) (fun u => ?_)))
      refine s_callO 0 rfl rfl rfl rfl rfl rfl (s1 _) (SubL.of_eq rfl) ?_
      rintro _ _ ⟨rfl, rfl⟩
      repeat' (first | refine gA pk ?_ | (show AL _ _ _ _ _ _ _; first | (refine s_cmp rfl rfl rfl rfl rfl rfl rfl (fun hb => ?_) (fun hb => ?_) <;> simp only [cmpP] at hb)) | fail)
      all_goals first | (exfalso; omega) | skip
      all_goals refine finQ ?_
      all_goals exact ⟨rfl, rfl⟩
    · rw [if_neg (by omega)]
      have hx := List.getElem?_eq_getElem (l := t.edges) (i := e.toNat) (by omega)
      generalize t.edges[e.toNat] = x at hx
      have xk : (t.edges.map cEdg)[e.toNat]? = some (cEdg x) := map_get hx
      rw [hx]
      have s2 := is_spec t _ (Nat.le_refl _) hk hp a x.fr (by omega) ha.2
      have s3 := is_spec t _ (Nat.le_refl _) hk hp b x.to (by omega) hb.2
      show Pure _ _ _ (AB (decide (x.fr ∈ up t.nodes a) && decide (x.to ∈ up t.nodes b)))
      generalize decide (x.fr ∈ up t.nodes a) = c at *
      generalize decide (x.to ∈ up t.nodes b) = d at *
      cases c with
      | true =>
        rw [Bool.true_and]
        refine a_enter Tryz.func44 (by kernel_rfl) rfl Tryz.ntmps44 rfl (by simp) ?_; refine a_seq ?_; refine a_reg ?_; (repeat (first | refine gZ pk ?_ | (show AL _ _ _ _ _ _ _; first | refine jB (fun u => ?_)))); refine a_frzBox 0 4 rfl rfl ?_
        repeat (first | refine gA pk ?_ | (show AL _ _ _ _ _ _ _; first | refine s_build tok (parts := [(0, .tmp _), (1, .tmp _)]) rfl rfl rfl rfl rfl rfl rfl rfl (by decide) (by decide) (fun u => ?_)))
        refine s_callO 0 rfl rfl rfl rfl rfl rfl (s1 _) (SubL.of_eq rfl) ?_
        rintro _ _ ⟨rfl, rfl⟩
        repeat (first | refine gA pk ?_ | (show AL _ _ _ _ _ _ _; first | refine jX tok xk ?_ | refine jP s2 ?_ | refine jP s3 ?_))
        refine finQ ?_
        exact ⟨rfl, rfl⟩
      | false =>
        rw [Bool.false_and]
        refine a_enter Tryz.func44 (by kernel_rfl) rfl Tryz.ntmps44 rfl (by simp) ?_; refine a_seq ?_; refine a_reg ?_; (repeat (first | refine gZ pk ?_ | (show AL _ _ _ _ _ _ _; first | refine jB (fun u => ?_)))); refine a_frzBox 0 4 rfl rfl ?_
        repeat (first | refine gA pk ?_ | (show AL _ _ _ _ _ _ _; first | refine s_build tok (parts := [(0, .tmp _), (1, .tmp _)]) rfl rfl rfl rfl rfl rfl rfl rfl (by decide) (by decide) (fun u => ?_)))
        refine s_callO 0 rfl rfl rfl rfl rfl rfl (s1 _) (SubL.of_eq rfl) ?_
        rintro _ _ ⟨rfl, rfl⟩
        repeat (first | refine gA pk ?_ | (show AL _ _ _ _ _ _ _; first | refine jX tok xk ?_ | refine jP s2 ?_))
        refine finQ ?_
        exact ⟨rfl, rfl⟩
  · rw [if_pos (.inl hg)]
    generalize givenR t [a, b] = g at *
    refine a_enter Tryz.func44 (by kernel_rfl) rfl Tryz.ntmps44 rfl (by simp) ?_; refine a_seq ?_; refine a_reg ?_; (repeat (first | refine gZ pk ?_ | (show AL _ _ _ _ _ _ _; first | refine jB (fun u => ?_)))); refine a_frzBox 0 4 rfl rfl ?_
    repeat (first | refine gA pk ?_ | (show AL _ _ _ _ _ _ _; first | refine s_build tok (parts := [(0, .tmp _), (1, .tmp _)]) rfl rfl rfl rfl rfl rfl rfl rfl (by decide) (by decide) (fun u => ?_)))
    refine s_callO 0 rfl rfl rfl rfl rfl rfl (s1 _) (SubL.of_eq rfl) ?_
    rintro _ _ ⟨rfl, rfl⟩
    repeat (first | refine gA pk ?_)
    refine finQ ?_
    exact ⟨rfl, rfl⟩
theorem refFits_spec (t : Tys) (ht : Small t) (e a b : Int) : Pure Tryz.prog 52 [tysA t, AI e, AI a, AI b] (AB (fitsR t e a b)) := by
  have s1 := refGiven_spec t ht a b
  have hel := ht.edges
  have le : (t.edges.map cEdg).length = t.edges.length := by simp
  have s4 := in_spec e 0 ((t.edges.length : Int) - 1)
  rw [← le] at s4
  unfold fitsR
  by_cases hg : givenR t [a, b] = 0
  · obtain ⟨hp, ha, hb, hk⟩ := given_at ht hg
    rw [hg] at s1
    by_cases he : e < 0 ∨ (t.edges.length : Int) ≤ e
    · rw [if_pos (.inr he)]
      rw [decide_eq_false (by omega)] at s4
      refine a_enter Tryz.func52 (by kernel_rfl) rfl Tryz.ntmps52 rfl (by simp) ?_; refine a_seq ?_; refine a_reg ?_; (repeat (first | refine gZ pk ?_ | (show AL _ _ _ _ _ _ _; first | refine jB (fun u => ?_)))); refine a_frzBox 0 4 rfl rfl ?_
      repeat (first | refine gA pk ?_ | (show AL _ _ _ _ _ _ _; first | refine jP s1 ?_ | refine jP s4 ?_))
      refine finQ ?_
      exact ⟨rfl, rfl⟩
    · rw [if_neg (by omega)]
      rw [decide_eq_true (by omega)] at s4
      have hx := List.getElem?_eq_getElem (l := t.edges) (i := e.toNat) (by omega)
      generalize t.edges[e.toNat] = x at hx
      have xk : (t.edges.map cEdg)[e.toNat]? = some (cEdg x) := map_get hx
      rw [hx]
      have hed := edge_at hg hx
      have s2 := Below1_spec t _ (Nat.le_refl _) hp x.fr hed.1.1 1000 a (by omega) (by omega) ha.2
      have s3 := Below1_spec t _ (Nat.le_refl _) hp x.to hed.2.1 1000 b (by omega) (by omega) hb.2
      show Pure _ _ _ (AB (decide (x.fr ∈ up t.nodes a) && decide (x.to ∈ up t.nodes b)))
      generalize decide (x.fr ∈ up t.nodes a) = c at *
      generalize decide (x.to ∈ up t.nodes b) = d at *
      cases c with
      | true =>
        rw [Bool.true_and]
        refine a_enter Tryz.func52 (by kernel_rfl) rfl Tryz.ntmps52 rfl (by simp) ?_; refine a_seq ?_; refine a_reg ?_; (repeat (first | refine gZ pk ?_ | (show AL _ _ _ _ _ _ _; first | refine jB (fun u => ?_)))); refine a_frzBox 0 4 rfl rfl ?_
        repeat (first | refine gA pk ?_ | (show AL _ _ _ _ _ _ _; first | refine jP s1 ?_ | refine jP s4 ?_ | refine jX tok xk ?_ | refine jP s2 ?_ | refine jP s3 ?_))
        refine finQ ?_
        exact ⟨rfl, rfl⟩
      | false =>
        rw [Bool.false_and]
        refine a_enter Tryz.func52 (by kernel_rfl) rfl Tryz.ntmps52 rfl (by simp) ?_; refine a_seq ?_; refine a_reg ?_; (repeat (first | refine gZ pk ?_ | (show AL _ _ _ _ _ _ _; first | refine jB (fun u => ?_)))); refine a_frzBox 0 4 rfl rfl ?_
        repeat (first | refine gA pk ?_ | (show AL _ _ _ _ _ _ _; first | refine jP s1 ?_ | refine jP s4 ?_ | refine jX tok xk ?_ | refine jP s2 ?_))
        refine finQ ?_
        exact ⟨rfl, rfl⟩
  · rw [if_pos (.inl hg)]
    generalize givenR t [a, b] = g at *
    refine a_enter Tryz.func52 (by kernel_rfl) rfl Tryz.ntmps52 rfl (by simp) ?_; refine a_seq ?_; refine a_reg ?_; (repeat (first | refine gZ pk ?_ | (show AL _ _ _ _ _ _ _; first | refine jB (fun u => ?_)))); refine a_frzBox 0 4 rfl rfl ?_
    repeat (first | refine gA pk ?_ | (show AL _ _ _ _ _ _ _; first | refine jP s1 ?_))
    refine finQ ?_
    exact ⟨rfl, rfl⟩
theorem rng_succ (p : Int → Bool) (k : Nat) : ((List.range (k + 1)).map fun (i : Nat) => (i : Int)).filter p = ((List.range k).map fun (i : Nat) => (i : Int)).filter p ++ if p k = true then [(k : Int)] else [] := by
  rw [List.range_succ, List.map_append, List.filter_append]
  congr 1
  simp only [List.map_cons, List.map_nil, List.filter_cons, List.filter_nil]
theorem rng_len (p : Int → Bool) (k : Nat) : (((List.range k).map fun (i : Nat) => (i : Int)).filter p).length ≤ k := by
  have := List.length_filter_le p ((List.range k).map fun (i : Nat) => (i : Int))
  simpa using this
end Go.Proofs.YtcacbdohlfljfaaGreat
