/-
  Parts of the proof of the law IncrementalOpposite (texts W45): steps, plain mathematics, contracts of functions. Each theorem states its own conditions.
-/
import Derived.Test.YtddohheabpiljaaGreatB09
import Derived.Test.YtddohheabpiljaaGreatB33
import Derived.Test.YtddohheabpiljaaGreatB34
section
/-
  Searches: all matches, as the program finds them. Conditions: small type graphs.
-/
namespace Go.Proofs.YtddohheabpiljaaGreat
open Go.Sj Go.Sj.Typ Go.Sj.Sta Go.Sj.Inc
set_option maxRecDepth 8000
set_option linter.unusedVariables false
set_option linter.unusedSimpArgs false
set_option maxHeartbeats 16000000

theorem found_spec (t : Tys) (ht : Small t) (hv : (validR t).2 = 0) (S : Sea) (hS : SeaT t S) (most : Nat) (hmost : most ≤ 10000) :
    Pure Tryz.prog 107 [tysA t, grA S.p, grA S.g, .agg [optA S.pn, optA S.pe], AB S.inj, AI most] (mosA ((matL S).take most)) := by
  have s1 := sbelow_spec t ht hv
  have s2 := fun u => find_rec t ht S hS most hmost (S.p.nodes.length + S.p.edges.length) [] [] (by simp [remS]) (Nat.zero_le _) (Nat.zero_le _) (fun _ => rfl) u (.slice none 0 0) (.slice none 0 0) (.slice none 0 0) [] (Nat.zero_le _)
  simp only [List.nil_append] at s2
  refine a_enter Tryz.func107 (by kernel_rfl) rfl Tryz.ntmps107 rfl (by simp) ?_
  refine a_seq ?_
  refine a_reg ?_
  repeat (first | refine gZ pk ?_ | (show AL _ _ _ _ _ _ _; first | refine jB (fun u => ?_)))
  refine a_frzBox 3 6 rfl rfl ?_
  refine a_frzBox 2 7 rfl rfl ?_
  refine a_frzBox 1 8 rfl rfl ?_
  refine a_frzBox 0 9 rfl rfl ?_
  refine a_regO [0, 1, 2, 4, 5, 6, 3, 7, 8, 9] mixed rfl rfl (by decide +kernel) ?_
  repeat (first | refine gZ pk ?_ | (show AL _ _ _ _ _ _ _; first | refine jP s1 ?_ | refine jB (fun ur => ?_)))
  rename_i ur
  refine a_goto (GoTo.sub (st' := _) (fun i => Sub.refl _) (L' := foL 3 95 S (tabA (tabT t)) most ur (.slice none 0 0) (.slice none 0 0) (.slice none 0 0) [] [] []) (.keep (.free (.free (.free (OSub.none _)))))) ?_
  refine a_reg ?_
  repeat (first | refine gZ pk ?_ | (show AL _ _ _ _ _ _ _; first | refine s_call (Lc := foL 3 95 S (tabA (tabT t)) most ur (.slice none 0 0) (.slice none 0 0) (.slice none 0 0) [] [] []) (Lr := []) rfl rfl rfl rfl rfl (s2 ur) (SubL.of_eq rfl) (List.Perm.refl _) ?_; rintro _ _ ⟨vn, ve, vo, rfl, rfl⟩))
  refine a_goto (GoTo.freeze 3 rfl (FZS.refl _) [(ur, OB.box (fdA S (tabA (tabT t)) (.lit vn) (.lit ve) (mosA ((findL S (S.p.nodes.length + S.p.edges.length) [] []).take most)) most)), (vn, OB.row 3 1 (rowI [])), (ve, OB.row 3 1 (rowI []))] (fzo_box ⟨FZ.refl _, FZ.refl _, FZ.refl _, FZ.refl _, FZ.refl _, FZ.refl _, FZ.refl _, FZ.refl _, FZ.refl _, FZ.refl _, FZ.refl _, FZ.here, trivial⟩ (fzo_row (fun x hx => (by cases hx)) (fzo_row (fun x hx => (by cases hx)) trivial)))) ?_
  repeat (first | refine gA pk ?_ | (show AL _ _ _ _ _ _ _; first | refine jO tok 0 ?_))
  refine finQ ?_
  exact ⟨rfl, rfl⟩
theorem sall_spec (t : Tys) (ht : Small t) (hv : (validR t).2 = 0) (S : Sea) (hS : SeaT t S) :
    Pure Tryz.prog 86 [tysA t, grA S.p, grA S.g, .agg [optA S.pn, optA S.pe], AB S.inj] (.tup [mosA (capR (matL S)).1, AI (capR (matL S)).2]) := by
  have s1 := found_spec t ht hv S hS 5001 (by omega)
  have hl : ((matL S).take 5001).length = min 5001 (matL S).length := List.length_take
  unfold capR
  by_cases h : 5000 < (matL S).length
  · rw [if_pos h]
    have ll : (((matL S).take 5001).map cMo).length = 5001 := by rw [List.length_map, hl]; omega
    generalize (matL S).take 5001 = l at *
    refine a_enter Tryz.func86 (by kernel_rfl) rfl Tryz.ntmps86 rfl (by simp) ?_
    refine a_seq ?_
    refine a_reg ?_
    repeat (first | refine gZ pk ?_ | (show AL _ _ _ _ _ _ _; first | refine jB (fun u => ?_)))
    refine a_frzBox 3 5 rfl rfl ?_
    refine a_frzBox 2 6 rfl rfl ?_
    refine a_frzBox 1 7 rfl rfl ?_
    refine a_frzBox 0 8 rfl rfl ?_
    repeat (first | refine gA pk ?_ | (show AL _ _ _ _ _ _ _; first | refine jP s1 ?_))
    refine fin (x := .tup [nilS, AI 3]) (.inr rfl) rfl (Sub.tup (m := [mosA [], AI 3]) ⟨Sub.nil 2, Sub.refl _, trivial⟩) ?_ (OSub.none _)
    exact ⟨rfl, rfl⟩
  · rw [if_neg h]
    rw [List.take_of_length_le (by omega)] at s1
    have ll : ((matL S).map cMo).length = (matL S).length := by simp
    generalize matL S = l at *
    refine a_enter Tryz.func86 (by kernel_rfl) rfl Tryz.ntmps86 rfl (by simp) ?_
    refine a_seq ?_
    refine a_reg ?_
    repeat (first | refine gZ pk ?_ | (show AL _ _ _ _ _ _ _; first | refine jB (fun u => ?_)))
    refine a_frzBox 3 5 rfl rfl ?_
    refine a_frzBox 2 6 rfl rfl ?_
    refine a_frzBox 1 7 rfl rfl ?_
    refine a_frzBox 0 8 rfl rfl ?_
    repeat (first | refine gA pk ?_ | (show AL _ _ _ _ _ _ _; first | refine jP s1 ?_))
    refine finQ ?_
    exact ⟨rfl, rfl⟩
theorem typT_of {t : Tys} {g : Gr} (hg : GV g) (h : typT t g = true) : ∀ x ∈ g.nodes, 0 ≤ x ∧ x < t.nodes.length := fun x hx => by
  unfold typT at h
  simp only [Bool.and_eq_true, Bool.not_eq_true'] at h
  have h1 := List.any_eq_false.1 h.1 x hx
  have h2 := hg.nodes x hx
  simp only [decide_eq_true_eq] at h1
  omega
theorem seaA_ok {t : Tys} {p g : Gr} (inj : Bool) (h : validS t p g = 0) : SeaT t (seaA t p g inj) := by
  obtain ⟨h1, h2, h3, h4, h5⟩ := validS_zero h
  exact ⟨⟨h2, h3, fun l hl => (by cases hl), fun l hl => (by cases hl)⟩, rfl, typT_of h2 h4, typT_of h3 h5⟩
theorem sAll_spec (t : Tys) (ht : Small t) (p g : Gr) (hp : OkG p) (hg : OkG g) (inj : Bool) :
    Pure Tryz.prog 58 [tysA t, grA p, grA g, AB inj] (.tup [mosA (allR t p g inj).1, AI (allR t p g inj).2]) := by
  have s1 := svalid_spec t ht p g hp hg
  unfold allR
  by_cases h : validS t p g = 0
  · rw [if_neg (Decidable.not_not.2 h)]
    have s2 := sall_spec t ht (validS_zero h).1 (seaA t p g inj) (seaA_ok inj h)
    rw [h] at s1
    generalize capR (matL (seaA t p g inj)) = r at *
    obtain ⟨r1, r2⟩ := r
    change Pure _ _ [tysA t, grA p, grA g, .agg [nilS, nilS], AB inj] (.tup [mosA r1, AI r2]) at s2
    refine a_enter Tryz.func58 (by kernel_rfl) rfl Tryz.ntmps58 rfl (by simp) ?_
    refine a_seq ?_
    refine a_reg ?_
    repeat (first | refine gZ pk ?_ | (show AL _ _ _ _ _ _ _; first | refine jB (fun u => ?_)))
    refine a_frzBox 2 4 rfl rfl ?_
    refine a_frzBox 1 5 rfl rfl ?_
    refine a_frzBox 0 6 rfl rfl ?_
    repeat (first | refine gA pk ?_ | (show AL _ _ _ _ _ _ _; first | refine jP s1 ?_ | refine jP s2 ?_))
    refine finQ ?_
    exact ⟨rfl, rfl⟩
  · rw [if_pos h]
    generalize validS t p g = e at *
    refine a_enter Tryz.func58 (by kernel_rfl) rfl Tryz.ntmps58 rfl (by simp) ?_
    refine a_seq ?_
    refine a_reg ?_
    repeat (first | refine gZ pk ?_ | (show AL _ _ _ _ _ _ _; first | refine jB (fun u => ?_)))
    refine a_frzBox 2 4 rfl rfl ?_
    refine a_frzBox 1 5 rfl rfl ?_
    refine a_frzBox 0 6 rfl rfl ?_
    repeat (first | refine gA pk ?_ | (show AL _ _ _ _ _ _ _; first | refine jP s1 ?_))
    refine fin (x := .tup [nilS, AI e]) (.inr rfl) rfl (Sub.tup (m := [mosA [], AI e]) ⟨Sub.nil 2, Sub.refl _, trivial⟩) ?_ (OSub.none _)
    exact ⟨rfl, rfl⟩
end Go.Proofs.YtddohheabpiljaaGreat

end
