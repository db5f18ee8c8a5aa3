/-
  Parts of the proof of the law IncrementalOpposite (texts Y14): steps, plain mathematics, contracts of functions. Each theorem states its own conditions.
-/
import Derived.Test.YtddohheabpiljaaGreatB09
import Derived.Test.YtddohheabpiljaaGreatB21
section
/-
  Valid, by the program and by the reference: the walks.
-/
namespace Go.Proofs.YtddohheabpiljaaGreat
open Go.Sj Go.Sj.Typ
set_option maxRecDepth 8000
set_option linter.unusedVariables false
set_option maxHeartbeats 4000000

theorem Valid_spec (t : Tys) (ht : Small t) : Pure Tryz.prog 105 [tysA t] (.tup [AS (validR t).1, AI (validR t).2]) := by
  have hel := ht.edges
  have hnl := ht.nodes
  have le : (t.edges.map cEdg).length = t.edges.length := by simp
  have ln : (t.nodes.map cNod).length = t.nodes.length := by simp
  by_cases h0 : t.nodes.length = 0
  · rw [show validR t = (⟨#[]⟩, 7) by simp only [validR, if_pos h0]]
    refine a_enter Tryz.func105 (by kernel_rfl) rfl Tryz.ntmps105 rfl (by simp) ?_; refine a_seq ?_; refine a_reg ?_; (repeat (first | refine gZ pk ?_ | (show AL _ _ _ _ _ _ _; first | refine jB (fun u => ?_)))); refine a_frzBox 0 1 rfl rfl ?_
    repeat (first | refine gA pk ?_)
    refine finQ ?_
    exact ⟨rfl, rfl⟩
  by_cases h1 : 12 < t.nodes.length ∨ 20 < t.edges.length
  · rw [show validR t = (⟨#[]⟩, 3) by simp only [validR, if_neg h0, if_pos h1]]
    refine a_enter Tryz.func105 (by kernel_rfl) rfl Tryz.ntmps105 rfl (by simp) ?_; refine a_seq ?_; refine a_reg ?_; (repeat (first | refine gZ pk ?_ | (show AL _ _ _ _ _ _ _; first | refine jB (fun u => ?_)))); refine a_frzBox 0 1 rfl rfl ?_
    repeat' (first | refine gA pk ?_ | (show AL _ _ _ _ _ _ _; first | (refine s_cmp rfl rfl rfl rfl rfl rfl rfl (fun hb => ?_) (fun hb => ?_) <;> simp only [cmpP] at hb)) | fail)
    all_goals refine finQ ?_
    all_goals exact ⟨rfl, rfl⟩
  · refine a_enter Tryz.func105 (by kernel_rfl) rfl Tryz.ntmps105 rfl (by simp) ?_; refine a_seq ?_; refine a_reg ?_; (repeat (first | refine gZ pk ?_ | (show AL _ _ _ _ _ _ _; first | refine jB (fun u => ?_)))); refine a_frzBox 0 1 rfl rfl ?_
    repeat (first | refine gA pk ?_)
    rw [ln]
    refine a_loopX (fun k : Nat => [(1, tysP t), (27, nodsA t.nodes), (28, AI t.nodes.length), (29, AI k)]) (fun _ => []) (fun k => k ≤ t.nodes.length ∧ ∀ j, j < k → nodeE t.nodes j = 0) (fun k => t.nodes.length - k) 0 ⟨Nat.zero_le _, fun j hj => by omega⟩ ?_ (OSub.none _) ?_
    · exact subQ
    · rintro k ⟨hk, hinv⟩
      rcases Nat.lt_or_ge k t.nodes.length with h | h
      · have s1 := node_spec t ht k h (pr_of hinv)
        have hx := List.getElem?_eq_getElem h
        generalize t.nodes[k] = n at hx
        have xk : (t.nodes.map cNod)[(k : Int).toNat]? = some (cNod n) := map_get hx
        by_cases hz : nodeE t.nodes k = 0
        · rw [hz] at s1
          repeat (first | refine gA pk ?_ | (show AL _ _ _ _ _ _ _; first | refine jL tok (fun u => ?_) | refine jS tok 0 ?_ | refine jX tok xk ?_ | refine jP s1 ?_))
          exact ⟨k + 1, ⟨by omega, below_succ hinv hz⟩, by omega, by exact subQ, OSub.none _⟩
        · rw [validR_node h0 h1 hinv hx hz]
          generalize nodeE t.nodes k = e at *
          repeat (first | refine gA pk ?_ | (show AL _ _ _ _ _ _ _; first | refine jL tok (fun u => ?_) | refine jS tok 0 ?_ | refine jX tok xk ?_ | refine jP s1 ?_ | refine jO tok 0 ?_))
          refine finQ ?_
          exact ⟨rfl, rfl⟩
      · obtain rfl : k = t.nodes.length := by omega
        repeat (first | refine gA pk ?_)
        rw [le]
        refine a_loopX (fun k : Nat => [(1, tysP t), (44, edgsA t.edges), (45, AI t.edges.length), (46, AI k)]) (fun _ => []) (fun k => k ≤ t.edges.length ∧ ∀ j, j < k → edgeE t j = 0) (fun k => t.edges.length - k) 0 ⟨Nat.zero_le _, fun j hj => by omega⟩ ?_ (OSub.none _) ?_
        · exact subQ
        · rintro k ⟨hk, hinv2⟩
          rcases Nat.lt_or_ge k t.edges.length with h | h
          · have s1 := edge_spec t ht k h
            have hx := List.getElem?_eq_getElem h
            generalize t.edges[k] = n at hx
            have xk : (t.edges.map cEdg)[(k : Int).toNat]? = some (cEdg n) := map_get hx
            by_cases hz : edgeE t k = 0
            · rw [hz] at s1
              repeat (first | refine gA pk ?_ | (show AL _ _ _ _ _ _ _; first | refine jL tok (fun u => ?_) | refine jS tok 0 ?_ | refine jX tok xk ?_ | refine jP s1 ?_))
              exact ⟨k + 1, ⟨by omega, below_succ hinv2 hz⟩, by omega, by exact subQ, OSub.none _⟩
            · rw [validR_edge h0 h1 hinv hinv2 hx hz]
              generalize edgeE t k = e at *
              repeat (first | refine gA pk ?_ | (show AL _ _ _ _ _ _ _; first | refine jL tok (fun u => ?_) | refine jS tok 0 ?_ | refine jX tok xk ?_ | refine jP s1 ?_ | refine jO tok 0 ?_))
              refine finQ ?_
              exact ⟨rfl, rfl⟩
          · obtain rfl : k = t.edges.length := by omega
            rw [validR_ok h0 h1 hinv hinv2]
            repeat (first | refine gA pk ?_)
            refine finQ ?_
            exact ⟨rfl, rfl⟩
end Go.Proofs.YtddohheabpiljaaGreat

end
