/-
  Typed graphs that descriptions describe: the walk. Conditions: a description whose numbers are codes.
-/
import Derived.Test.YtcacbdohlfljfaaSjQ8
import Derived.Test.YtcacbdohlfljfaaZ18
namespace Go.Proofs.Ytcacbdohlfljfaa
open Go.Sj Go.Sj.Typ Go.Sj.Sta
set_option linter.unusedVariables false
set_option linter.unusedSimpArgs false
set_option maxHeartbeats 8000000

def dT (d : Drf) : Tys := madeT d.types d.ends
def dG (d : Drf) : Gr := madeG (dT d) d.nodes d.edges
theorem dT_small (d : Drf) : Small (dT d) := made_small _ _
theorem dT_pos (d : Drf) : 1 ≤ (dT d).nodes.length ∧ (dT d).nodes.length ≤ 6 := by
  unfold dT
  rw [made_nodes]
  exact madeNum_rng _
theorem dT_valid (d : Drf) : (validR (dT d)).2 = 0 := made_valid _ _
theorem dG_tv (d : Drf) : TV (dT d) (dG d) := madeG_tv (dT_valid d) _ _
theorem dT_edges (d : Drf) : (dT d).edges.length ≤ 5 := by
  unfold dT
  rw [made_edges]
  omega
theorem dG_len (d : Drf) : (dG d).nodes.length ≤ 8 ∧ (dG d).edges.length ≤ 12 := by
  unfold dG madeG madeGN madeGE madeGM
  refine ⟨by simp only [List.length_map, List.length_take]; omega, Nat.le_trans (List.length_filter_le _ _) ?_⟩
  rw [List.length_map]
  split
  · exact Nat.zero_le _
  · rw [List.length_take]; omega
theorem made18_spec (d : Drf) (hd : OkD d) : Pure Try.prog 5 [drfA d] (.tup [tysA (dT d), grA (dG d)]) := by
  have s1 := Made_spec d.types d.ends hd.types hd.ends hd.tl hd.el
  have s2 := refMade18_spec (dT d) (dT_small d) (by have := dT_pos d; omega) d.nodes hd.nodes hd.nl d.edges hd.edges hd.gl
  change Pure _ _ _ (grA (dG d)) at s2
  change Pure _ _ _ (tysA (dT d)) at s1
  generalize dG d = G at *
  generalize dT d = t at *
  obtain ⟨d1, d2, d3, d4⟩ := d
  refine a_enterM (rs := [.cell 2 31, .cell 3 35]) tok Try.func5 (by kernel_rfl) rfl Try.ntmps5 rfl (by decide) (by simp) ?_
  refine a_seq ?_
  refine a_reg ?_
  repeat (first | refine gZ pk ?_ | (show AL _ _ _ _ _ _ _; first | refine jB (fun u => ?_) | refine jL tok (fun u => ?_)))
  refine a_frzBox 2 1 rfl rfl ?_
  repeat (first | refine gN pk ?_ | (show AL _ _ _ _ _ _ _; first | refine jP s1 ?_ | refine jL tok (fun u => ?_) | refine jS tok 0 ?_))
  refine a_frzBox 0 4 rfl rfl ?_
  refine a_regP mixed (by decide +kernel) ?_
  repeat (first | refine gV pk ?_ | (show AL _ _ _ _ _ _ _; first | refine jP s2 ?_ | refine jS tok 1 ?_ | refine jS tok 0 ?_))
  refine a_frzBox 0 3 rfl rfl ?_
  refine a_frzBox 0 2 rfl rfl ?_
  refine a_ret ?_
  exact ⟨.inr rfl, _, _, [], rfl, Turn.of (Sub.refl _) (OSub.none _), rfl, rfl⟩
end Go.Proofs.Ytcacbdohlfljfaa
