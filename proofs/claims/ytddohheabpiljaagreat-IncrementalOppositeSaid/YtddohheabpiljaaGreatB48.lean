/-
  Parts of the proof of the law IncrementalOpposite (texts W61): steps, plain mathematics, contracts of functions. Each theorem states its own conditions.
-/
import Derived.Test.YtddohheabpiljaaGreatB09
import Derived.Test.YtddohheabpiljaaGreatB47
section
/-
  Watches: graphs behind edits (program): copies whose rows the caller owns.
-/
namespace Go.Proofs.YtddohheabpiljaaGreat
open Go.Sj Go.Sj.Typ Go.Sj.Sta Go.Sj.Inc
set_option maxRecDepth 8000
set_option linter.unusedVariables false
set_option linter.unusedSimpArgs false
set_option maxHeartbeats 16000000

theorem icopiedO_spec (g : Gr) (h1 : g.nodes.length ≤ 1000) (h2 : g.edges.length ≤ 1000) : ACalls Tryz.prog 35 [grA g] [] (fun y L => ∃ vn ve, vn.oneCell' = true ∧ ve.oneCell' = true ∧ y = .agg [.lit vn, .lit ve] ∧ L = [(vn, .row 3 1 (rowI g.nodes)), (ve, .row 85 3 (g.edges.map cEd))]) := by
  have s1 := CloneN_spec g.nodes (by omega)
  have s2 := CloneG_spec g.edges (by omega)
  refine a_enterC Tryz.func35 (by kernel_rfl) rfl Tryz.ntmps35 rfl (tok _ _ rfl) (by simp) ?_
  refine a_seq ?_
  refine a_reg ?_
  repeat (first | refine gZ pk ?_ | (show AL _ _ _ _ _ _ _; first | refine jB (fun ug => ?_) | refine jL tok (fun U2 => ?_)))
  refine a_frzBox 1 1 rfl rfl ?_
  refine AWp.mono (Q := fun e st L => e = .normal ∧ ∃ va vb, va.oneCell' = true ∧ vb.oneCell' = true ∧ GoTo 10 st L (lk [(2, .pt U2 0 0 0)]) [(U2, OB.box [.lit va, .lit vb]), (va, OB.row 3 1 (rowI g.nodes)), (vb, OB.row 85 3 (g.edges.map cEd))]) ?_ (fun e st L h => ?_)
  · refine a_regG ((List.range 8).map fun i => if inL [2, 5, 7] i = true then .eff else .pure) [] [0, 1, 3, 4, 2, 5, 6, 7] .stop mixed rfl rfl (by decide +kernel) ?_
    repeat' (first | (with_reducible show AG _ _ _ _ _ _ _ _ _ _; first | exact ag_none | refine ag_stop ?_ | refine ag_nd ?_ ?_) | (show AMid _ _ _ _; first | refine amid_f ?_ | refine amid_g (by first | exact OSub.refl _ | exact .drop (OSub.refl _) | exact .drop (.drop (OSub.refl _))) ?_) | refine gY pk ?_ | (show AL _ _ _ _ _ _ _; first | refine s_call (Lc := []) rfl rfl rfl rfl rfl (ACalls.slices s1) (SubL.of_eq rfl) (List.Perm.refl _) ?_; rintro _ _ ⟨⟨va, rfl, rfl⟩, hva⟩; obtain ⟨a1, c1, rfl⟩ := hva _ (List.mem_singleton.2 rfl) | refine s_call (Lc := []) rfl rfl rfl rfl rfl (ACalls.slices s2) (SubL.of_eq rfl) (List.Perm.refl _) ?_; rintro _ _ ⟨⟨vb, rfl, rfl⟩, hvb⟩; obtain ⟨a2, c2, rfl⟩ := hvb _ (List.mem_singleton.2 rfl) | refine jS tok 2 ?_) | fail)
    exact ⟨rfl, _, _, rfl, rfl, (GoTo.sub (by exact subQ) (OSub.refl _)).trans (GoTo.perm (perm3 _ _ _).2.2.1)⟩
  · obtain ⟨rfl, va, vb, hva, hvb, h⟩ := h
    refine a_goto h ?_
    refine a_frzBox 0 2 rfl rfl ?_
    repeat (first | refine gA pk ?_)
    exact ⟨.inr rfl, _, _, _, _, rfl, rfl, Turn.of (Sub.of_eq rfl) (OSub.refl _), va, vb, hva, hvb, rfl, rfl⟩
theorem ieditedE_spec (g : Gr) (h1 : g.nodes.length ≤ 1000) (h2 : g.edges.length ≤ 1000) (i ty fr to : Int) : Pure Tryz.prog 64 [grA g, .agg [AI 2, AI i, AI ty, AI fr, AI to]] (grA ⟨g.nodes, g.edges ++ [⟨ty, fr, to⟩]⟩) := by
  have s1 := icopiedO_spec g h1 h2
  have le : (g.edges.map cEd).length = g.edges.length := by simp
  have hes : (g.edges ++ [(⟨ty, fr, to⟩ : Ed)]).map cEd = g.edges.map cEd ++ [[AI ty, AI fr, AI to]] := by simp [cEd]
  have hr1 : ∀ (l : List Int), ∀ x ∈ rowI l, x.length = 1 := fun l x hx => by
    obtain ⟨y, _, rfl⟩ := List.mem_map.1 hx
    rfl
  have hr3 : ∀ (l : List Ed), ∀ x ∈ l.map cEd, x.length = 3 := fun l x hx => by
    obtain ⟨y, _, rfl⟩ := List.mem_map.1 hx
    rfl
  refine a_enterC Tryz.func64 (by kernel_rfl) rfl Tryz.ntmps64 rfl (tok _ _ rfl) (by simp) ?_
  refine a_seq ?_
  refine a_reg ?_
  repeat (first | refine gZ pk ?_ | (show AL _ _ _ _ _ _ _; first | refine jB (fun ug => ?_) | refine jL tok (fun U4 => ?_)))
  refine a_frzBox 2 2 rfl rfl ?_
  refine a_frzBox 1 3 rfl rfl ?_
  refine a_reg ?_
  repeat (first | refine gZ pk ?_ | (show AL _ _ _ _ _ _ _; first | refine s_call (Lc := []) rfl rfl rfl rfl rfl s1 (SubL.of_eq rfl) (List.Perm.refl _) ?_; rintro _ _ ⟨vn, ve, hvn, hve, rfl, rfl⟩ | refine jL tok (fun ub => ?_) | refine s_store (a := .agg [.lit vn, .lit ve]) tok 0 rfl rfl rfl rfl rfl rfl (by simp [AV.storable, AV.cell, hvn, hve]) rfl (by decide) rfl rfl rfl (Nat.le_of_ble_eq_true rfl) ?_))
  refine a_reg ?_
  repeat (first | refine gZ pk ?_)
  refine a_reg ?_
  repeat (first | refine gZ pk ?_)
  refine a_reg ?_
  repeat (first | refine gZ pk ?_)
  refine a_reg ?_
  repeat (first | refine gZ pk ?_ | (show AL _ _ _ _ _ _ _; first | refine jO tok 0 ?_ | refine s_build1A tok rfl rfl rfl rfl rfl rfl rfl rfl (by decide) (fun lv => ?_) | refine s_append1K tok 2 rfl rfl rfl rfl rfl rfl (by decide) rfl rfl rfl rfl (by omega) (by omega) (fun w hw => ?_) | refine s_storeB tok 0 rfl rfl rfl rfl rfl rfl rfl (by assumption) rfl (Nat.le_of_ble_eq_true rfl) rfl ?_))
  rw [← hes]
  refine a_goto (GoTo.freeze 1 rfl (FZS.refl _) [(ub, OB.box [ints g.nodes, .lit w]), (w, OB.row 85 3 ((g.edges ++ [(⟨ty, fr, to⟩ : Ed)]).map cEd)), (U4, OB.box [nilS, nilS])] (fzo_box ⟨FZ.here, FZ.refl _, trivial⟩ (fzo_row (hr3 _) (fzo_box (FZL.refl _) trivial)))) ?_
  refine a_goto (GoTo.freeze 1 rfl (FZS.refl _) [(ub, OB.box [ints g.nodes, edsA (g.edges ++ [(⟨ty, fr, to⟩ : Ed)])]), (U4, OB.box [nilS, nilS])] (fzo_box ⟨FZ.refl _, FZ.here, trivial⟩ (fzo_box (FZL.refl _) trivial))) ?_
  refine a_frzBox 0 5 rfl rfl ?_
  repeat (first | refine gV pk ?_ | (show AL _ _ _ _ _ _ _; first | refine jS tok 0 ?_))
  refine a_frzBox 0 4 rfl rfl ?_
  refine a_ret ?_
  exact ⟨.inr rfl, _, _, _, _, rfl, rfl, Turn.of (Sub.of_eq rfl) (OSub.none _), rfl, rfl⟩
end Go.Proofs.YtddohheabpiljaaGreat

end
