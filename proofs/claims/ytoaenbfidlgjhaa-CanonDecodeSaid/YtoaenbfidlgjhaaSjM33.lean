/-
  Readings of lists of graphs. No condition.
-/
import Derived.Test.YtoaenbfidlgjhaaSjM32
namespace Go.Sj.Can
open Go.Sj Go.Sj.Sta
set_option linter.unusedVariables false
theorem grs_vr {σ : Hp} {v : Value} {x : List RGr} (h : VR σ (.im 2 (x.map gGr)) v) : VR σ (.im 2 ((x.map toGr).map fun g => [ints g.nodes, edsA g.edges])) v := by
  have e : x.map gGr = (x.map toGr).map fun g => [ints g.nodes, edsA g.edges] := by
    rw [List.map_map]
    exact List.map_congr_left fun y _ => gGr_eq y
  rw [e] at h
  exact h
theorem grs_ok {x : List RGr} {P : RGr → Prop} (h : (∀ m ∈ x, P m) ∧ x.length ≤ reachBytes) (hP : ∀ m, P m → OkG (toGr m)) : (∀ g ∈ x.map toGr, OkG g) ∧ (x.map toGr).length ≤ 140737488355328 := by
  have h2 := h.2
  unfold reachBytes at h2
  refine ⟨fun g hg => ?_, by rw [List.length_map]; omega⟩
  obtain ⟨m, hm, rfl⟩ := List.mem_map.1 hg
  exact hP m (h.1 m hm)
end Go.Sj.Can
