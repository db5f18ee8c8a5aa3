/-
  One more node, one more edge: the walks of what succeeds. Conditions: graphs whose lists fit into memory.
-/
import Derived.Test.YtcacbdohlfljfaaGreatSjQ8
import Derived.Test.YtcacbdohlfljfaaGreatZ7
import Derived.Test.YtcacbdohlfljfaaGreatSjQ7
import Derived.Test.YtcacbdohlfljfaaGreatSjQN
namespace Go.Proofs.YtcacbdohlfljfaaGreat
open Go.Sj Go.Sj.Typ Go.Sj.Sta
set_option linter.unusedVariables false
set_option linter.unusedSimpArgs false
set_option maxHeartbeats 8000000

theorem cI_cell (l : List Int) : (rowI l).all (fun e => e.all AV.cell) = true := List.all_eq_true.2 fun x hx => by
  obtain ⟨a, _, rfl⟩ := List.mem_map.1 hx; rfl
theorem cEd_cell (l : List Ed) : (l.map cEd).all (fun e => e.all AV.cell) = true := List.all_eq_true.2 fun x hx => by
  obtain ⟨a, _, rfl⟩ := List.mem_map.1 hx; rfl
theorem CloneN_spec (l : List Int) (hs : l.length ≤ 1099511627776) : Gives Tryz.prog 65 [ints l] 3 1 (rowI l) := by
  have ll : (rowI l).length = l.length := by simp
  refine a_enter Tryz.func65 (by kernel_rfl) rfl Tryz.ntmps65 rfl (by simp) ?_
  repeat (first | refine gA pk ?_)
  refine s_eqNil tok rfl rfl rfl rfl rfl rfl (fun h => ?_) ?_
  · repeat (first | refine gA pk ?_)
    refine fin (x := .lit _) (.inr rfl) rfl (Sub.refl _) ⟨_, rfl, rfl⟩ ?_
    rw [h]
    exact .free .nil
  · repeat (first | refine gA pk ?_ | (show AL _ _ _ _ _ _ _; first | refine s_build tok (parts := []) rfl rfl rfl rfl rfl rfl rfl rfl (by decide) (by decide) (fun v => ?_)))
    refine s_appendIm tok 0 rfl rfl rfl rfl rfl rfl (by decide) rfl rfl rfl rfl (cI_cell l) (by simp only [ll, List.length_nil]; omega) (by simp only [ll, List.length_nil]; omega) (fun v' => ?_)
    repeat (first | refine gA pk ?_)
    refine finR ?_
    exact ⟨_, rfl, rfl⟩
theorem CloneG_spec (l : List Ed) (hs : l.length ≤ 1099511627776) : Gives Tryz.prog 66 [edsA l] 70 3 (l.map cEd) := by
  have ll : (l.map cEd).length = l.length := by simp
  refine a_enter Tryz.func66 (by kernel_rfl) rfl Tryz.ntmps66 rfl (by simp) ?_
  repeat (first | refine gA pk ?_)
  refine s_eqNil tok rfl rfl rfl rfl rfl rfl (fun h => ?_) ?_
  · repeat (first | refine gA pk ?_)
    refine fin (x := .lit _) (.inr rfl) rfl (Sub.refl _) ⟨_, rfl, rfl⟩ ?_
    rw [h]
    exact .free .nil
  · repeat (first | refine gA pk ?_ | (show AL _ _ _ _ _ _ _; first | refine s_build tok (parts := []) rfl rfl rfl rfl rfl rfl rfl rfl (by decide) (by decide) (fun v => ?_)))
    refine s_appendIm tok 0 rfl rfl rfl rfl rfl rfl (by decide) rfl rfl rfl rfl (cEd_cell l) (by simp only [ll, List.length_nil]; omega) (by simp only [ll, List.length_nil]; omega) (fun v' => ?_)
    repeat (first | refine gA pk ?_)
    refine finR ?_
    exact ⟨_, rfl, rfl⟩
theorem AddNode_spec (g : Gr) (hg : OkG g) (hv : gvalid g = 0) (hl : g.nodes.length < 40) (k : Int) (hk : 0 ≤ k ∧ k ≤ 99) : Pure Tryz.prog 32 [grA g, AI k] (.tup [grA (addNd g k), AI g.nodes.length, AI 0]) := by
  have ln : (rowI g.nodes).length = g.nodes.length := by simp
  have le : (g.edges.map cEd).length = g.edges.length := by simp
  have hG := gvalid_zero.1 hv
  have hb1 := hG.nl
  have hb2 := hG.el
  have s1 := gvalid_spec g hg
  rw [hv] at s1
  have s2 := within_spec k 99
  rw [decide_eq_true hk] at s2
  have s3 := CloneN_spec g.nodes (by omega)
  have s4 := (CloneG_spec g.edges (by omega)).pure
  have e : rowI (g.nodes ++ [k]) = rowI g.nodes ++ [[AI k]] := by show (g.nodes ++ [k]).map cI = g.nodes.map cI ++ [[AI k]]; rw [List.map_append]; rfl
  show Pure _ _ _ (.tup [.agg [.im 1 (rowI (g.nodes ++ [k])), edsA g.edges], AI g.nodes.length, AI 0])
  rw [e, ← ln]
  refine a_enterM (rs := [.cell 4 29, .tmp 5, .tmp 6]) tok Tryz.func32 (by kernel_rfl) rfl Tryz.ntmps32 rfl (by decide) (by simp) ?_
  refine a_seq ?_
  refine a_reg ?_
  repeat (first | refine gZ pk ?_ | (show AL _ _ _ _ _ _ _; first | refine jB (fun u => ?_) | refine jL tok (fun u4 => ?_)))
  refine a_frzBox 1 2 rfl rfl ?_
  repeat (first | refine gN pk ?_ | (show AL _ _ _ _ _ _ _; first | refine jP s1 ?_ | refine jP s2 ?_))
  refine a_regXP [0, 1, 3, 6, 7, 10, 11, 12] (.nd [2, 4, 5, 8, 9, 13, 14, 15] .stop (.nd [4, 2, 5, 8, 9, 13, 14, 15] .stop .stop)) mixed rfl rfl (by decide +kernel) ?_
  repeat' (first | (with_reducible show AX _ _ _ _ _ _ _ _ _; first | exact ax_none | refine ax_stop ?_ | refine ax_nd ?_ ?_) | refine gY pk ?_ | (show AL _ _ _ _ _ _ _; first | refine s_callG rfl rfl rfl rfl rfl (s3) (SubL.of_eq rfl) (fun v => ?_) | refine jP s4 ?_ | refine s_build tok (parts := [(0, .tmp _)]) rfl rfl rfl rfl rfl rfl rfl rfl (by decide) (by decide) (fun v => ?_) | refine s_appendOwnF tok 1 0 rfl rfl rfl rfl rfl rfl (by decide) rfl rfl rfl rfl rfl rfl (by simp only [ln, le, List.length_cons, List.length_nil]; omega) (by simp only [ln, le, List.length_cons, List.length_nil]; omega) ?_ | refine s_appendOwnF tok 0 1 rfl rfl rfl rfl rfl rfl (by decide) rfl rfl rfl rfl rfl rfl (by simp only [ln, le, List.length_cons, List.length_nil]; omega) (by simp only [ln, le, List.length_cons, List.length_nil]; omega) ?_ | refine jS tok 1 ?_ | refine jS tok 0 ?_) | fail)
  all_goals
    refine a_frzBox 1 4 rfl rfl ?_
    repeat (first | refine gN pk ?_)
    exact ⟨.inr rfl, _, _, [], rfl, Turn.of (Sub.refl _) (OSub.none _), rfl, rfl⟩
theorem AddEdge_spec (g : Gr) (hg : OkG g) (hv : gvalid g = 0) (hl : g.edges.length < 80) (a b c : Int) (hk : (0 ≤ a ∧ a ≤ 99) ∧ (0 ≤ b ∧ b < g.nodes.length) ∧ (0 ≤ c ∧ c < g.nodes.length)) : Pure Tryz.prog 33 [grA g, .agg [AI a, AI b, AI c]] (.tup [grA (addEd g ⟨a, b, c⟩), AI g.edges.length, AI 0]) := by
  have ln : (rowI g.nodes).length = g.nodes.length := by simp
  have le : (g.edges.map cEd).length = g.edges.length := by simp
  have hG := gvalid_zero.1 hv
  have hb1 := hG.nl
  have hb2 := hG.el
  have s1 := gvalid_spec g hg
  rw [hv] at s1
  have s2 := gfits_spec a b c g.nodes.length (by omega)
  rw [decide_eq_true hk, ← ln] at s2
  have s3 := (CloneN_spec g.nodes (by omega)).pure
  have s4 := CloneG_spec g.edges (by omega)
  have e : (g.edges ++ [(⟨a, b, c⟩ : Ed)]).map cEd = g.edges.map cEd ++ [[AI a, AI b, AI c]] := by rw [List.map_append]; rfl
  show Pure _ _ _ (.tup [.agg [ints g.nodes, .im 3 ((g.edges ++ [(⟨a, b, c⟩ : Ed)]).map cEd)], AI g.edges.length, AI 0])
  rw [e, ← le]
  refine a_enterM (rs := [.cell 4 29, .tmp 5, .tmp 6]) tok Tryz.func33 (by kernel_rfl) rfl Tryz.ntmps33 rfl (by decide) (by simp) ?_
  refine a_seq ?_
  refine a_reg ?_
  repeat (first | refine gZ pk ?_ | (show AL _ _ _ _ _ _ _; first | refine jB (fun u => ?_) | refine jL tok (fun u4 => ?_)))
  refine a_frzBox 1 3 rfl rfl ?_
  refine a_frzBox 1 2 rfl rfl ?_
  repeat (first | refine gN pk ?_ | (show AL _ _ _ _ _ _ _; first | refine jP s1 ?_ | refine jP s2 ?_))
  refine a_regXP [0, 1, 3, 4, 6, 10, 11, 12] (.nd [2] (.nd [5, 7, 8, 9, 13, 14, 15] .stop (.nd [7, 5, 8, 9, 13, 14, 15] .stop .stop)) (.nd [7, 2, 5, 8, 9, 13, 14, 15] .stop .stop)) mixed rfl rfl (by decide +kernel) ?_
  repeat' (first | (with_reducible show AX _ _ _ _ _ _ _ _ _; first | exact ax_none | refine ax_stop ?_ | refine ax_nd ?_ ?_) | refine gY pk ?_ | (show AL _ _ _ _ _ _ _; first | refine jP s3 ?_ | refine s_callG rfl rfl rfl rfl rfl (s4) (SubL.of_eq rfl) (fun v => ?_) | refine s_build tok (parts := [(0, .tmp _)]) rfl rfl rfl rfl rfl rfl rfl rfl (by decide) (by decide) (fun v => ?_) | refine s_appendOwnF tok 1 0 rfl rfl rfl rfl rfl rfl (by decide) rfl rfl rfl rfl rfl rfl (by simp only [ln, le, List.length_cons, List.length_nil]; omega) (by simp only [ln, le, List.length_cons, List.length_nil]; omega) ?_ | refine s_appendOwnF tok 0 1 rfl rfl rfl rfl rfl rfl (by decide) rfl rfl rfl rfl rfl rfl (by simp only [ln, le, List.length_cons, List.length_nil]; omega) (by simp only [ln, le, List.length_cons, List.length_nil]; omega) ?_ | refine jS tok 1 ?_ | refine jS tok 0 ?_) | fail)
  all_goals
    refine a_frzBox 1 4 rfl rfl ?_
    repeat (first | refine gN pk ?_)
    exact ⟨.inr rfl, _, _, [], rfl, Turn.of (Sub.refl _) (OSub.none _), rfl, rfl⟩
end Go.Proofs.YtcacbdohlfljfaaGreat
