/- Parts of a proof. -/
import Derived.Test.YtimfponihbfimaaGreatP43
set_option linter.unusedVariables false
set_option linter.unusedSimpArgs false
section
namespace Go.Proofs.YtimfponihbfimaaGreat
open Go.Sj Go.Sj.Typ Go.Sj.Sta
set_option maxRecDepth 8000
set_option maxHeartbeats 16000000
theorem Nodes_spec (t : Tys) (ht : Small t) (s : Sta) (hs : s.nodes.length ≤ 1000 ∧ s.edges.length ≤ 1000) (a : Int) : Pure Tryz.prog 105 [tysA t, staA s, AI a] (.tup [AI (nodesR t s a).1, AI (nodesR t s a).2]) := by
  have ln : (s.nodes.map cCnt).length = s.nodes.length := by simp
  have lt : (t.nodes.map cNod).length = t.nodes.length := by simp
  have hs1 := hs.1
  have hts := ht
  have htn := ht.nodes
  have s1 := sValid_spec t ht s hs
  have s2 := is_spec' a t.nodes.length
  rw [← lt] at s2
  unfold nodesR
  by_cases hv : sValid t s = 0
  · have hV := sValid_zero.1 hv
    rw [if_neg (Decidable.not_not.2 hv)]
    rw [hv] at s1
    by_cases hk : 0 ≤ a ∧ a < t.nodes.length
    · rw [if_neg (Decidable.not_not.2 hk)]
      rw [decide_eq_true (by rw [lt]; exact hk)] at s2
      refine zen Tryz.func105 (by kernel_rfl) rfl Tryz.ntmps105 rfl (by simp) ?_
      refine a_seq ?_
      refine a_reg ?_
      repeat (first | refine gZ pk ?_ | (show AL _ _ _ _ _ _ _; first | refine jB (fun u => ?_)))
      refine zfb 0 4 rfl rfl ?_
      refine zfb 0 3 rfl rfl ?_
      repeat (first | refine gA pk ?_ | (show AL _ _ _ _ _ _ _; first | refine jP s1 ?_ | refine jP s2 ?_))
      rw [ln]
      refine zlx (fun k : Nat => [(2, AI a), (3, tysP t), (9, AI (sumP (fun c => isR t c.ty a) (s.nodes.take k))), (25, cntsA s.nodes), (26, AI s.nodes.length), (27, AI k)]) (fun _ => []) (fun k => k ≤ s.nodes.length) (fun k => s.nodes.length - k) 0 (Nat.zero_le _) ?_ (OSub.none _) ?_
      · exact subQ
      · intro k hk
        rcases Nat.lt_or_ge k s.nodes.length with h | h
        · have hx := List.getElem?_eq_getElem h
          have h1 := hV.nodes.ok _ (List.getElem_mem h)
          have ht := sumP_take (p := fun c => isR t c.ty a) hx
          have hb := sumP_bd (p := fun c => isR t c.ty a) (l := s.nodes.take k) (fun c hc => by have := hV.nodes.ok c (List.mem_of_mem_take hc); unfold nodeOk at this; omega)
          have hkl : (s.nodes.take k).length = k := by rw [List.length_take]; omega
          rw [hkl] at hb
          generalize s.nodes[k] = c at *
          generalize sumP (fun c => isR t c.ty a) (s.nodes.take k) = z at *
          obtain ⟨c1, c2, c3, c4⟩ := c
          unfold nodeOk at h1
          simp only at h1 ht
          have xk : (s.nodes.map cCnt)[(k : Int).toNat]? = some [AI c1, AI c2, AI c3, AI c4] := zmp (f := cCnt) hx
          have s3 := Is_spec t hts c1 a
          cases hq : isR t c1 a with
          | true =>
            rw [hq, if_pos rfl] at ht
            rw [hq] at s3
            repeat (first | refine gA pk ?_ | (show AL _ _ _ _ _ _ _; first | refine jX tok xk ?_ | refine jL tok (fun u => ?_) | refine jS tok 0 ?_ | refine jO tok 0 ?_ | refine jP s3 ?_))
            refine ⟨k + 1, by omega, by omega, ?_, OSub.none _⟩
            rw [ht]
            exact subQ
          | false =>
            rw [hq, if_neg (by decide), Int.add_zero] at ht
            rw [hq] at s3
            repeat (first | refine gA pk ?_ | (show AL _ _ _ _ _ _ _; first | refine jX tok xk ?_ | refine jL tok (fun u => ?_) | refine jS tok 0 ?_ | refine jO tok 0 ?_ | refine jP s3 ?_))
            refine ⟨k + 1, by omega, by omega, ?_, OSub.none _⟩
            rw [ht]
            exact subQ
        · obtain rfl : k = s.nodes.length := by omega
          rw [List.take_length]
          repeat (first | refine gA pk ?_)
          refine finQ ?_
          exact ⟨rfl, rfl⟩
    · rw [if_pos hk]
      rw [decide_eq_false (by rw [lt]; exact hk)] at s2
      refine zen Tryz.func105 (by kernel_rfl) rfl Tryz.ntmps105 rfl (by simp) ?_
      refine a_seq ?_
      refine a_reg ?_
      repeat (first | refine gZ pk ?_ | (show AL _ _ _ _ _ _ _; first | refine jB (fun u => ?_)))
      refine zfb 0 4 rfl rfl ?_
      refine zfb 0 3 rfl rfl ?_
      repeat (first | refine gA pk ?_ | (show AL _ _ _ _ _ _ _; first | refine jP s1 ?_ | refine jP s2 ?_))
      refine finQ ?_
      exact ⟨rfl, rfl⟩
  · rw [if_pos hv]
    generalize sValid t s = e at *
    refine zen Tryz.func105 (by kernel_rfl) rfl Tryz.ntmps105 rfl (by simp) ?_
    refine a_seq ?_
    refine a_reg ?_
    repeat (first | refine gZ pk ?_ | (show AL _ _ _ _ _ _ _; first | refine jB (fun u => ?_)))
    refine zfb 0 4 rfl rfl ?_
    refine zfb 0 3 rfl rfl ?_
    repeat (first | refine gA pk ?_ | (show AL _ _ _ _ _ _ _; first | refine jP s1 ?_))
    refine finQ ?_
    exact ⟨rfl, rfl⟩
theorem Edges_spec (t : Tys) (hts : Small t) (s : Sta) (hs : s.nodes.length ≤ 1000 ∧ s.edges.length ≤ 1000) (e a b : Int) : Pure Tryz.prog 106 [tysA t, staA s, AI e, AI a, AI b] (.tup [AI (edgesR t s e a b).1, AI (edgesR t s e a b).2]) := by
  have ln : (s.edges.map cCnt).length = s.edges.length := by simp
  have lt : (t.nodes.map cNod).length = t.nodes.length := by simp
  have lte : (t.edges.map cEdg).length = t.edges.length := by simp
  have hs1 := hs.2
  have htn := hts.nodes
  have s1 := sValid_spec t hts s hs
  have s2 := is_spec' e t.edges.length
  rw [← lte] at s2
  have s3 := is_spec' a t.nodes.length
  rw [← lt] at s3
  have s4 := is_spec' b t.nodes.length
  rw [← lt] at s4
  unfold edgesR
  by_cases hv : sValid t s = 0
  · have hV := sValid_zero.1 hv
    rw [if_neg (Decidable.not_not.2 hv)]
    rw [hv] at s1
    by_cases hk : (0 ≤ e ∧ e < t.edges.length) ∧ (0 ≤ a ∧ a < t.nodes.length) ∧ (0 ≤ b ∧ b < t.nodes.length)
    · rw [if_neg (Decidable.not_not.2 hk)]
      rw [decide_eq_true (by rw [lte]; exact hk.1)] at s2
      rw [decide_eq_true (by rw [lt]; exact hk.2.1)] at s3
      rw [decide_eq_true (by rw [lt]; exact hk.2.2)] at s4
      refine zen Tryz.func106 (by kernel_rfl) rfl Tryz.ntmps106 rfl (by simp) ?_
      refine a_seq ?_
      refine a_reg ?_
      repeat (first | refine gZ pk ?_ | (show AL _ _ _ _ _ _ _; first | refine jB (fun u => ?_)))
      refine zfb 0 6 rfl rfl ?_
      refine zfb 0 5 rfl rfl ?_
      repeat (first | refine gA pk ?_ | (show AL _ _ _ _ _ _ _; first | refine jP s1 ?_ | refine jP s2 ?_ | refine jP s3 ?_ | refine jP s4 ?_))
      rw [ln]
      refine zlx (fun k : Nat => [(2, AI e), (3, AI a), (4, AI b), (5, tysP t), (13, AI (sumP (fun c => decide (c.ty = e) && isR t c.fr a && isR t c.to b) (s.edges.take k))), (45, cntsA s.edges), (46, AI s.edges.length), (47, AI k)]) (fun _ => []) (fun k => k ≤ s.edges.length) (fun k => s.edges.length - k) 0 (Nat.zero_le _) ?_ (OSub.none _) ?_
      · exact subQ
      · intro k hk
        rcases Nat.lt_or_ge k s.edges.length with h | h
        · have hx := List.getElem?_eq_getElem h
          have h1 := hV.edges.ok _ (List.getElem_mem h)
          have ht := sumP_take (p := fun c => decide (c.ty = e) && isR t c.fr a && isR t c.to b) hx
          have hb := sumP_bd (p := fun c => decide (c.ty = e) && isR t c.fr a && isR t c.to b) (l := s.edges.take k) (fun c hc => by have := hV.edges.ok c (List.mem_of_mem_take hc); unfold edgeOk at this; omega)
          have hkl : (s.edges.take k).length = k := by rw [List.length_take]; omega
          rw [hkl] at hb
          generalize s.edges[k] = c at *
          generalize sumP (fun c => decide (c.ty = e) && isR t c.fr a && isR t c.to b) (s.edges.take k) = z at *
          obtain ⟨c1, c2, c3, c4⟩ := c
          unfold edgeOk at h1
          simp only at h1 ht
          have xk : (s.edges.map cCnt)[(k : Int).toNat]? = some [AI c1, AI c2, AI c3, AI c4] := zmp (f := cCnt) hx
          have s5 := Is_spec t hts c2 a
          have s6 := Is_spec t hts c3 b
          have hcs : (decide (c1 = e) && isR t c2 a && isR t c3 b) = true ∧ (c1 = e ∧ isR t c2 a = true ∧ isR t c3 b = true) ∨ (decide (c1 = e) && isR t c2 a && isR t c3 b) = false ∧ (c1 ≠ e ∨ (c1 = e ∧ isR t c2 a = false) ∨ (c1 = e ∧ isR t c2 a = true ∧ isR t c3 b = false)) := by
            by_cases q : c1 = e <;> cases isR t c2 a <;> cases isR t c3 b <;> simp [q]
          rcases hcs with ⟨hq, h7, h8, h9⟩ | ⟨hq, h7 | ⟨h7, h8⟩ | ⟨h7, h8, h9⟩⟩
          · rw [if_pos hq] at ht
            rw [h8] at s5
            rw [h9] at s6
            repeat (first | refine gA pk ?_ | (show AL _ _ _ _ _ _ _; first | refine jX tok xk ?_ | refine jL tok (fun u => ?_) | refine jS tok 0 ?_ | refine jO tok 0 ?_ | refine jP s5 ?_ | refine jP s6 ?_))
            refine ⟨k + 1, by omega, by omega, ?_, OSub.none _⟩
            rw [ht]
            exact subQ
          · rw [if_neg (by rw [hq]; decide), Int.add_zero] at ht
            repeat (first | refine gA pk ?_ | (show AL _ _ _ _ _ _ _; first | refine jX tok xk ?_ | refine jL tok (fun u => ?_) | refine jS tok 0 ?_ | refine jO tok 0 ?_ | refine jP s5 ?_ | refine jP s6 ?_))
            refine ⟨k + 1, by omega, by omega, ?_, OSub.none _⟩
            rw [ht]
            exact subQ
          · rw [if_neg (by rw [hq]; decide), Int.add_zero] at ht
            rw [h8] at s5
            repeat (first | refine gA pk ?_ | (show AL _ _ _ _ _ _ _; first | refine jX tok xk ?_ | refine jL tok (fun u => ?_) | refine jS tok 0 ?_ | refine jO tok 0 ?_ | refine jP s5 ?_ | refine jP s6 ?_))
            refine ⟨k + 1, by omega, by omega, ?_, OSub.none _⟩
            rw [ht]
            exact subQ
          · rw [if_neg (by rw [hq]; decide), Int.add_zero] at ht
            rw [h8] at s5
            rw [h9] at s6
            repeat (first | refine gA pk ?_ | (show AL _ _ _ _ _ _ _; first | refine jX tok xk ?_ | refine jL tok (fun u => ?_) | refine jS tok 0 ?_ | refine jO tok 0 ?_ | refine jP s5 ?_ | refine jP s6 ?_))
            refine ⟨k + 1, by omega, by omega, ?_, OSub.none _⟩
            rw [ht]
            exact subQ
        · obtain rfl : k = s.edges.length := by omega
          rw [List.take_length]
          repeat (first | refine gA pk ?_)
          refine finQ ?_
          exact ⟨rfl, rfl⟩
    · rw [if_pos hk]
      have hcs : ¬ (0 ≤ e ∧ e < t.edges.length) ∨ ((0 ≤ e ∧ e < t.edges.length) ∧ ¬ (0 ≤ a ∧ a < t.nodes.length)) ∨ ((0 ≤ e ∧ e < t.edges.length) ∧ (0 ≤ a ∧ a < t.nodes.length) ∧ ¬ (0 ≤ b ∧ b < t.nodes.length)) := by omega
      rcases hcs with h | ⟨h, h'⟩ | ⟨h, h', h''⟩
      · rw [decide_eq_false (by rw [lte]; exact h)] at s2
        refine zen Tryz.func106 (by kernel_rfl) rfl Tryz.ntmps106 rfl (by simp) ?_
        refine a_seq ?_
        refine a_reg ?_
        repeat (first | refine gZ pk ?_ | (show AL _ _ _ _ _ _ _; first | refine jB (fun u => ?_)))
        refine zfb 0 6 rfl rfl ?_
        refine zfb 0 5 rfl rfl ?_
        repeat (first | refine gA pk ?_ | (show AL _ _ _ _ _ _ _; first | refine jP s1 ?_ | refine jP s2 ?_))
        refine finQ ?_
        exact ⟨rfl, rfl⟩
      · rw [decide_eq_true (by rw [lte]; exact h)] at s2
        rw [decide_eq_false (by rw [lt]; exact h')] at s3
        refine zen Tryz.func106 (by kernel_rfl) rfl Tryz.ntmps106 rfl (by simp) ?_
        refine a_seq ?_
        refine a_reg ?_
        repeat (first | refine gZ pk ?_ | (show AL _ _ _ _ _ _ _; first | refine jB (fun u => ?_)))
        refine zfb 0 6 rfl rfl ?_
        refine zfb 0 5 rfl rfl ?_
        repeat (first | refine gA pk ?_ | (show AL _ _ _ _ _ _ _; first | refine jP s1 ?_ | refine jP s2 ?_ | refine jP s3 ?_))
        refine finQ ?_
        exact ⟨rfl, rfl⟩
      · rw [decide_eq_true (by rw [lte]; exact h)] at s2
        rw [decide_eq_true (by rw [lt]; exact h')] at s3
        rw [decide_eq_false (by rw [lt]; exact h'')] at s4
        refine zen Tryz.func106 (by kernel_rfl) rfl Tryz.ntmps106 rfl (by simp) ?_
        refine a_seq ?_
        refine a_reg ?_
        repeat (first | refine gZ pk ?_ | (show AL _ _ _ _ _ _ _; first | refine jB (fun u => ?_)))
        refine zfb 0 6 rfl rfl ?_
        refine zfb 0 5 rfl rfl ?_
        repeat (first | refine gA pk ?_ | (show AL _ _ _ _ _ _ _; first | refine jP s1 ?_ | refine jP s2 ?_ | refine jP s3 ?_ | refine jP s4 ?_))
        refine finQ ?_
        exact ⟨rfl, rfl⟩
  · rw [if_pos hv]
    generalize sValid t s = x at *
    refine zen Tryz.func106 (by kernel_rfl) rfl Tryz.ntmps106 rfl (by simp) ?_
    refine a_seq ?_
    refine a_reg ?_
    repeat (first | refine gZ pk ?_ | (show AL _ _ _ _ _ _ _; first | refine jB (fun u => ?_)))
    refine zfb 0 6 rfl rfl ?_
    refine zfb 0 5 rfl rfl ?_
    repeat (first | refine gA pk ?_ | (show AL _ _ _ _ _ _ _; first | refine jP s1 ?_))
    refine finQ ?_
    exact ⟨rfl, rfl⟩
end Go.Proofs.YtimfponihbfimaaGreat
end
