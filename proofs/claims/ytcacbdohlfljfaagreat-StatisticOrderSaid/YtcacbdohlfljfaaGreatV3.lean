/-
  Walks: Z11, Z11r, Z13, Z14.
-/
import Derived.Test.YtcacbdohlfljfaaGreatSjQ8
import Derived.Test.YtcacbdohlfljfaaGreatZ10
import Derived.Test.YtcacbdohlfljfaaGreatZ10r
import Derived.Test.YtcacbdohlfljfaaGreatZ9
import Derived.Test.YtcacbdohlfljfaaGreatY19
import Derived.Test.YtcacbdohlfljfaaGreatY20
import Derived.Test.YtcacbdohlfljfaaGreatY21
import Derived.Test.YtcacbdohlfljfaaGreatSjQN
import Derived.Test.YtcacbdohlfljfaaGreatSjQT
/-
  The sums of a statistic: the walks. Conditions: small type graphs, short statistics.
-/
namespace Go.Proofs.YtcacbdohlfljfaaGreat
open Go.Sj Go.Sj.Typ Go.Sj.Sta
set_option linter.unusedVariables false
set_option linter.unusedSimpArgs false
set_option maxHeartbeats 16000000

theorem Nodes_spec (t : Tys) (ht : Small t) (s : Sta) (hs : s.nodes.length ≤ 1000 ∧ s.edges.length ≤ 1000) (a : Int) : Pure Tryz.prog 18 [tysA t, staA s, AI a] (.tup [AI (nodesR t s a).1, AI (nodesR t s a).2]) := by
  have ln : (s.nodes.map cCnt).length = s.nodes.length := by simp
  have lt : (t.nodes.map cNod).length = t.nodes.length := by simp
  have hs1 := hs.1
  have hts := ht
  have htn := ht.nodes
  have s1 := sValid_spec t ht s hs
  have s2 := is_spec' a t.nodes.length
  rw [← lt] at s2
  unfold nodesR
  by_cases hv : sValid t s = 0
  · have hV := sValid_zero.1 hv
    rw [if_neg (Decidable.not_not.2 hv)]
    rw [hv] at s1
    by_cases hk : 0 ≤ a ∧ a < t.nodes.length
    · rw [if_neg (Decidable.not_not.2 hk)]
      rw [decide_eq_true (by rw [lt]; exact hk)] at s2
      refine a_enter Tryz.func18 (by kernel_rfl) rfl Tryz.ntmps18 rfl (by simp) ?_
      refine a_seq ?_
      refine a_reg ?_
      repeat (first | refine gZ pk ?_ | (show AL _ _ _ _ _ _ _; first | refine jB (fun u => ?_)))
      refine a_frzBox 0 4 rfl rfl ?_
      refine a_frzBox 0 3 rfl rfl ?_
      repeat (first | refine gA pk ?_ | (show AL _ _ _ _ _ _ _; first | refine jP s1 ?_ | refine jP s2 ?_))
      rw [ln]
      refine a_loopX (fun k : Nat => [(2, AI a), (3, tysP t), (9, AI (sumP (fun c => isR t c.ty a) (s.nodes.take k))), (25, cntsA s.nodes), (26, AI s.nodes.length), (27, AI k)]) (fun _ => []) (fun k => k ≤ s.nodes.length) (fun k => s.nodes.length - k) 0 (Nat.zero_le _) ?_ (OSub.none _) ?_
      · exact subQ
      · intro k hk
        rcases Nat.lt_or_ge k s.nodes.length with h | h
        · have hx := List.getElem?_eq_getElem h
          have h1 := hV.nodes.ok _ (List.getElem_mem h)
          have ht := sumP_take (p := fun c => isR t c.ty a) hx
          have hb := sumP_bd (p := fun c => isR t c.ty a) (l := s.nodes.take k) (fun c hc => by have := hV.nodes.ok c (List.mem_of_mem_take hc); unfold nodeOk at this; omega)
          have hkl : (s.nodes.take k).length = k := by rw [List.length_take]; omega
          rw [hkl] at hb
          generalize s.nodes[k] = c at *
          generalize sumP (fun c => isR t c.ty a) (s.nodes.take k) = z at *
          obtain ⟨c1, c2, c3, c4⟩ := c
          unfold nodeOk at h1
          simp only at h1 ht
          have xk : (s.nodes.map cCnt)[(k : Int).toNat]? = some [AI c1, AI c2, AI c3, AI c4] := map_get (f := cCnt) hx
          have s3 := Is_spec t hts c1 a
          cases hq : isR t c1 a with
          | true =>
            rw [hq, if_pos rfl] at ht
            rw [hq] at s3
            repeat (first | refine gA pk ?_ | (show AL _ _ _ _ _ _ _; first | refine jX tok xk ?_ | refine jL tok (fun u => ?_) | refine jS tok 0 ?_ | refine jO tok 0 ?_ | refine jP s3 ?_))
            refine ⟨k + 1, by omega, by omega, ?_, OSub.none _⟩
            rw [ht]
            exact subQ
          | false =>
            rw [hq, if_neg (by decide), Int.add_zero] at ht
            rw [hq] at s3
            repeat (first | refine gA pk ?_ | (show AL _ _ _ _ _ _ _; first | refine jX tok xk ?_ | refine jL tok (fun u => ?_) | refine jS tok 0 ?_ | refine jO tok 0 ?_ | refine jP s3 ?_))
            refine ⟨k + 1, by omega, by omega, ?_, OSub.none _⟩
            rw [ht]
            exact subQ
        · obtain rfl : k = s.nodes.length := by omega
          rw [List.take_length]
          repeat (first | refine gA pk ?_)
          refine finQ ?_
          exact ⟨rfl, rfl⟩
    · rw [if_pos hk]
      rw [decide_eq_false (by rw [lt]; exact hk)] at s2
      refine a_enter Tryz.func18 (by kernel_rfl) rfl Tryz.ntmps18 rfl (by simp) ?_
      refine a_seq ?_
      refine a_reg ?_
      repeat (first | refine gZ pk ?_ | (show AL _ _ _ _ _ _ _; first | refine jB (fun u => ?_)))
      refine a_frzBox 0 4 rfl rfl ?_
      refine a_frzBox 0 3 rfl rfl ?_
      repeat (first | refine gA pk ?_ | (show AL _ _ _ _ _ _ _; first | refine jP s1 ?_ | refine jP s2 ?_))
      refine finQ ?_
      exact ⟨rfl, rfl⟩
  · rw [if_pos hv]
    generalize sValid t s = e at *
    refine a_enter Tryz.func18 (by kernel_rfl) rfl Tryz.ntmps18 rfl (by simp) ?_
    refine a_seq ?_
    refine a_reg ?_
    repeat (first | refine gZ pk ?_ | (show AL _ _ _ _ _ _ _; first | refine jB (fun u => ?_)))
    refine a_frzBox 0 4 rfl rfl ?_
    refine a_frzBox 0 3 rfl rfl ?_
    repeat (first | refine gA pk ?_ | (show AL _ _ _ _ _ _ _; first | refine jP s1 ?_))
    refine finQ ?_
    exact ⟨rfl, rfl⟩
theorem Edges_spec (t : Tys) (hts : Small t) (s : Sta) (hs : s.nodes.length ≤ 1000 ∧ s.edges.length ≤ 1000) (e a b : Int) : Pure Tryz.prog 21 [tysA t, staA s, AI e, AI a, AI b] (.tup [AI (edgesR t s e a b).1, AI (edgesR t s e a b).2]) := by
  have ln : (s.edges.map cCnt).length = s.edges.length := by simp
  have lt : (t.nodes.map cNod).length = t.nodes.length := by simp
  have lte : (t.edges.map cEdg).length = t.edges.length := by simp
  have hs1 := hs.2
  have htn := hts.nodes
  have s1 := sValid_spec t hts s hs
  have s2 := is_spec' e t.edges.length
  rw [← lte] at s2
  have s3 := is_spec' a t.nodes.length
  rw [← lt] at s3
  have s4 := is_spec' b t.nodes.length
  rw [← lt] at s4
  unfold edgesR
  by_cases hv : sValid t s = 0
  · have hV := sValid_zero.1 hv
    rw [if_neg (Decidable.not_not.2 hv)]
    rw [hv] at s1
    by_cases hk : (0 ≤ e ∧ e < t.edges.length) ∧ (0 ≤ a ∧ a < t.nodes.length) ∧ (0 ≤ b ∧ b < t.nodes.length)
    · rw [if_neg (Decidable.not_not.2 hk)]
      rw [decide_eq_true (by rw [lte]; exact hk.1)] at s2
      rw [decide_eq_true (by rw [lt]; exact hk.2.1)] at s3
      rw [decide_eq_true (by rw [lt]; exact hk.2.2)] at s4
      refine a_enter Tryz.func21 (by kernel_rfl) rfl Tryz.ntmps21 rfl (by simp) ?_
      refine a_seq ?_
      refine a_reg ?_
      repeat (first | refine gZ pk ?_ | (show AL _ _ _ _ _ _ _; first | refine jB (fun u => ?_)))
      refine a_frzBox 0 6 rfl rfl ?_
      refine a_frzBox 0 5 rfl rfl ?_
      repeat (first | refine gA pk ?_ | (show AL _ _ _ _ _ _ _; first | refine jP s1 ?_ | refine jP s2 ?_ | refine jP s3 ?_ | refine jP s4 ?_))
      rw [ln]
      refine a_loopX (fun k : Nat => [(2, AI e), (3, AI a), (4, AI b), (5, tysP t), (13, AI (sumP (fun c => decide (c.ty = e) && isR t c.fr a && isR t c.to b) (s.edges.take k))), (45, cntsA s.edges), (46, AI s.edges.length), (47, AI k)]) (fun _ => []) (fun k => k ≤ s.edges.length) (fun k => s.edges.length - k) 0 (Nat.zero_le _) ?_ (OSub.none _) ?_
      · exact subQ
      · intro k hk
        rcases Nat.lt_or_ge k s.edges.length with h | h
        · have hx := List.getElem?_eq_getElem h
          have h1 := hV.edges.ok _ (List.getElem_mem h)
          have ht := sumP_take (p := fun c => decide (c.ty = e) && isR t c.fr a && isR t c.to b) hx
          have hb := sumP_bd (p := fun c => decide (c.ty = e) && isR t c.fr a && isR t c.to b) (l := s.edges.take k) (fun c hc => by have := hV.edges.ok c (List.mem_of_mem_take hc); unfold edgeOk at this; omega)
          have hkl : (s.edges.take k).length = k := by rw [List.length_take]; omega
          rw [hkl] at hb
          generalize s.edges[k] = c at *
          generalize sumP (fun c => decide (c.ty = e) && isR t c.fr a && isR t c.to b) (s.edges.take k) = z at *
          obtain ⟨c1, c2, c3, c4⟩ := c
          unfold edgeOk at h1
          simp only at h1 ht
          have xk : (s.edges.map cCnt)[(k : Int).toNat]? = some [AI c1, AI c2, AI c3, AI c4] := map_get (f := cCnt) hx
          have s5 := Is_spec t hts c2 a
          have s6 := Is_spec t hts c3 b
          have hcs : (decide (c1 = e) && isR t c2 a && isR t c3 b) = true ∧ (c1 = e ∧ isR t c2 a = true ∧ isR t c3 b = true) ∨ (decide (c1 = e) && isR t c2 a && isR t c3 b) = false ∧ (c1 ≠ e ∨ (c1 = e ∧ isR t c2 a = false) ∨ (c1 = e ∧ isR t c2 a = true ∧ isR t c3 b = false)) := by
            by_cases q : c1 = e <;> cases isR t c2 a <;> cases isR t c3 b <;> simp [q]
          rcases hcs with ⟨hq, h7, h8, h9⟩ | ⟨hq, h7 | ⟨h7, h8⟩ | ⟨h7, h8, h9⟩⟩
          · rw [if_pos hq] at ht
            rw [h8] at s5
            rw [h9] at s6
            repeat (first | refine gA pk ?_ | (show AL _ _ _ _ _ _ _; first | refine jX tok xk ?_ | refine jL tok (fun u => ?_) | refine jS tok 0 ?_ | refine jO tok 0 ?_ | refine jP s5 ?_ | refine jP s6 ?_))
            refine ⟨k + 1, by omega, by omega, ?_, OSub.none _⟩
            rw [ht]
            exact subQ
          · rw [if_neg (by rw [hq]; decide), Int.add_zero] at ht
            repeat (first | refine gA pk ?_ | (show AL _ _ _ _ _ _ _; first | refine jX tok xk ?_ | refine jL tok (fun u => ?_) | refine jS tok 0 ?_ | refine jO tok 0 ?_ | refine jP s5 ?_ | refine jP s6 ?_))
            refine ⟨k + 1, by omega, by omega, ?_, OSub.none _⟩
            rw [ht]
            exact subQ
          · rw [if_neg (by rw [hq]; decide), Int.add_zero] at ht
            rw [h8] at s5
            repeat (first | refine gA pk ?_ | (show AL _ _ _ _ _ _ _; first | refine jX tok xk ?_ | refine jL tok (fun u => ?_) | refine jS tok 0 ?_ | refine jO tok 0 ?_ | refine jP s5 ?_ | refine jP s6 ?_))
            refine ⟨k + 1, by omega, by omega, ?_, OSub.none _⟩
            rw [ht]
            exact subQ
          · rw [if_neg (by rw [hq]; decide), Int.add_zero] at ht
            rw [h8] at s5
            rw [h9] at s6
            repeat (first | refine gA pk ?_ | (show AL _ _ _ _ _ _ _; first | refine jX tok xk ?_ | refine jL tok (fun u => ?_) | refine jS tok 0 ?_ | refine jO tok 0 ?_ | refine jP s5 ?_ | refine jP s6 ?_))
            refine ⟨k + 1, by omega, by omega, ?_, OSub.none _⟩
            rw [ht]
            exact subQ
        · obtain rfl : k = s.edges.length := by omega
          rw [List.take_length]
          repeat (first | refine gA pk ?_)
          refine finQ ?_
          exact ⟨rfl, rfl⟩
    · rw [if_pos hk]
      have hcs : ¬ (0 ≤ e ∧ e < t.edges.length) ∨ ((0 ≤ e ∧ e < t.edges.length) ∧ ¬ (0 ≤ a ∧ a < t.nodes.length)) ∨ ((0 ≤ e ∧ e < t.edges.length) ∧ (0 ≤ a ∧ a < t.nodes.length) ∧ ¬ (0 ≤ b ∧ b < t.nodes.length)) := by omega
      rcases hcs with h | ⟨h, h'⟩ | ⟨h, h', h''⟩
      · rw [decide_eq_false (by rw [lte]; exact h)] at s2
        refine a_enter Tryz.func21 (by kernel_rfl) rfl Tryz.ntmps21 rfl (by simp) ?_
        refine a_seq ?_
        refine a_reg ?_
        repeat (first | refine gZ pk ?_ | (show AL _ _ _ _ _ _ _; first | refine jB (fun u => ?_)))
        refine a_frzBox 0 6 rfl rfl ?_
        refine a_frzBox 0 5 rfl rfl ?_
        repeat (first | refine gA pk ?_ | (show AL _ _ _ _ _ _ _; first | refine jP s1 ?_ | refine jP s2 ?_))
        refine finQ ?_
        exact ⟨rfl, rfl⟩
      · rw [decide_eq_true (by rw [lte]; exact h)] at s2
        rw [decide_eq_false (by rw [lt]; exact h')] at s3
        refine a_enter Tryz.func21 (by kernel_rfl) rfl Tryz.ntmps21 rfl (by simp) ?_
        refine a_seq ?_
        refine a_reg ?_
        repeat (first | refine gZ pk ?_ | (show AL _ _ _ _ _ _ _; first | refine jB (fun u => ?_)))
        refine a_frzBox 0 6 rfl rfl ?_
        refine a_frzBox 0 5 rfl rfl ?_
        repeat (first | refine gA pk ?_ | (show AL _ _ _ _ _ _ _; first | refine jP s1 ?_ | refine jP s2 ?_ | refine jP s3 ?_))
        refine finQ ?_
        exact ⟨rfl, rfl⟩
      · rw [decide_eq_true (by rw [lte]; exact h)] at s2
        rw [decide_eq_true (by rw [lt]; exact h')] at s3
        rw [decide_eq_false (by rw [lt]; exact h'')] at s4
        refine a_enter Tryz.func21 (by kernel_rfl) rfl Tryz.ntmps21 rfl (by simp) ?_
        refine a_seq ?_
        refine a_reg ?_
        repeat (first | refine gZ pk ?_ | (show AL _ _ _ _ _ _ _; first | refine jB (fun u => ?_)))
        refine a_frzBox 0 6 rfl rfl ?_
        refine a_frzBox 0 5 rfl rfl ?_
        repeat (first | refine gA pk ?_ | (show AL _ _ _ _ _ _ _; first | refine jP s1 ?_ | refine jP s2 ?_ | refine jP s3 ?_ | refine jP s4 ?_))
        refine finQ ?_
        exact ⟨rfl, rfl⟩
  · rw [if_pos hv]
    generalize sValid t s = x at *
    refine a_enter Tryz.func21 (by kernel_rfl) rfl Tryz.ntmps21 rfl (by simp) ?_
    refine a_seq ?_
    refine a_reg ?_
    repeat (first | refine gZ pk ?_ | (show AL _ _ _ _ _ _ _; first | refine jB (fun u => ?_)))
    refine a_frzBox 0 6 rfl rfl ?_
    refine a_frzBox 0 5 rfl rfl ?_
    repeat (first | refine gA pk ?_ | (show AL _ _ _ _ _ _ _; first | refine jP s1 ?_))
    refine finQ ?_
    exact ⟨rfl, rfl⟩
end Go.Proofs.YtcacbdohlfljfaaGreat

/-
  The sums of a statistic: the walks. Conditions: small type graphs, short statistics.
-/
namespace Go.Proofs.YtcacbdohlfljfaaGreat
open Go.Sj Go.Sj.Typ Go.Sj.Sta
set_option linter.unusedVariables false
set_option linter.unusedSimpArgs false
set_option maxHeartbeats 16000000

theorem refNodes_spec (t : Tys) (ht : Small t) (s : Sta) (hs : s.nodes.length ≤ 1000 ∧ s.edges.length ≤ 1000) (a : Int) : Pure Tryz.prog 20 [tysA t, staA s, AI a] (.tup [AI (nodesR t s a).1, AI (nodesR t s a).2]) := by
  have ln : (s.nodes.map cCnt).length = s.nodes.length := by simp
  have lt : (t.nodes.map cNod).length = t.nodes.length := by simp
  have hs1 := hs.1
  have hts := ht
  have htn := ht.nodes
  have s1 := refsValid_spec t ht s hs
  have s2 := refis_spec a t.nodes.length
  rw [← lt] at s2
  unfold nodesR
  by_cases hv : sValid t s = 0
  · have hV := sValid_zero.1 hv
    rw [if_neg (Decidable.not_not.2 hv)]
    rw [hv] at s1
    by_cases hk : 0 ≤ a ∧ a < t.nodes.length
    · rw [if_neg (Decidable.not_not.2 hk)]
      rw [decide_eq_true (by rw [lt]; exact hk)] at s2
      refine a_enter Tryz.func20 (by kernel_rfl) rfl Tryz.ntmps20 rfl (by simp) ?_
      refine a_seq ?_
      refine a_reg ?_
      repeat (first | refine gZ pk ?_ | (show AL _ _ _ _ _ _ _; first | refine jB (fun u => ?_)))
      refine a_frzBox 0 4 rfl rfl ?_
      refine a_frzBox 0 3 rfl rfl ?_
      repeat (first | refine gA pk ?_ | (show AL _ _ _ _ _ _ _; first | refine jP s1 ?_ | refine jP s2 ?_))
      refine a_loopX (fun k : Nat => [(2, AI a), (3, tysP t), (4, staP s), (9, AI (sumP (fun c => isR t c.ty a) (s.nodes.take k))), (10, AI k)]) (fun _ => []) (fun k => k ≤ s.nodes.length) (fun k => s.nodes.length - k) 0 (Nat.zero_le _) ?_ (OSub.none _) ?_
      · exact subQ
      · intro k hk
        rcases Nat.lt_or_ge k s.nodes.length with h | h
        · have hx := List.getElem?_eq_getElem h
          have h1 := hV.nodes.ok _ (List.getElem_mem h)
          have ht := sumP_take (p := fun c => isR t c.ty a) hx
          have hb := sumP_bd (p := fun c => isR t c.ty a) (l := s.nodes.take k) (fun c hc => by have := hV.nodes.ok c (List.mem_of_mem_take hc); unfold nodeOk at this; omega)
          have hkl : (s.nodes.take k).length = k := by rw [List.length_take]; omega
          rw [hkl] at hb
          generalize s.nodes[k] = c at *
          generalize sumP (fun c => isR t c.ty a) (s.nodes.take k) = z at *
          obtain ⟨c1, c2, c3, c4⟩ := c
          unfold nodeOk at h1
          simp only at h1 ht
          have xk : (s.nodes.map cCnt)[(k : Int).toNat]? = some [AI c1, AI c2, AI c3, AI c4] := map_get (f := cCnt) hx
          have s3 := refIs_spec t hts c1 a
          cases hq : isR t c1 a with
          | true =>
            rw [hq, if_pos rfl] at ht
            rw [hq] at s3
            repeat (first | refine gA pk ?_ | (show AL _ _ _ _ _ _ _; first | refine jX tok xk ?_ | refine jP s3 ?_))
            refine ⟨k + 1, by omega, by omega, ?_, OSub.none _⟩
            rw [ht]
            exact subQ
          | false =>
            rw [hq, if_neg (by decide), Int.add_zero] at ht
            rw [hq] at s3
            repeat (first | refine gA pk ?_ | (show AL _ _ _ _ _ _ _; first | refine jX tok xk ?_ | refine jP s3 ?_))
            refine ⟨k + 1, by omega, by omega, ?_, OSub.none _⟩
            rw [ht]
            exact subQ
        · obtain rfl : k = s.nodes.length := by omega
          rw [List.take_length]
          repeat (first | refine gA pk ?_)
          refine finQ ?_
          exact ⟨rfl, rfl⟩
    · rw [if_pos hk]
      rw [decide_eq_false (by rw [lt]; exact hk)] at s2
      refine a_enter Tryz.func20 (by kernel_rfl) rfl Tryz.ntmps20 rfl (by simp) ?_
      refine a_seq ?_
      refine a_reg ?_
      repeat (first | refine gZ pk ?_ | (show AL _ _ _ _ _ _ _; first | refine jB (fun u => ?_)))
      refine a_frzBox 0 4 rfl rfl ?_
      refine a_frzBox 0 3 rfl rfl ?_
      repeat (first | refine gA pk ?_ | (show AL _ _ _ _ _ _ _; first | refine jP s1 ?_ | refine jP s2 ?_))
      refine finQ ?_
      exact ⟨rfl, rfl⟩
  · rw [if_pos hv]
    generalize sValid t s = e at *
    refine a_enter Tryz.func20 (by kernel_rfl) rfl Tryz.ntmps20 rfl (by simp) ?_
    refine a_seq ?_
    refine a_reg ?_
    repeat (first | refine gZ pk ?_ | (show AL _ _ _ _ _ _ _; first | refine jB (fun u => ?_)))
    refine a_frzBox 0 4 rfl rfl ?_
    refine a_frzBox 0 3 rfl rfl ?_
    repeat (first | refine gA pk ?_ | (show AL _ _ _ _ _ _ _; first | refine jP s1 ?_))
    refine finQ ?_
    exact ⟨rfl, rfl⟩
theorem refEdges_spec (t : Tys) (hts : Small t) (s : Sta) (hs : s.nodes.length ≤ 1000 ∧ s.edges.length ≤ 1000) (e a b : Int) : Pure Tryz.prog 22 [tysA t, staA s, AI e, AI a, AI b] (.tup [AI (edgesR t s e a b).1, AI (edgesR t s e a b).2]) := by
  have ln : (s.edges.map cCnt).length = s.edges.length := by simp
  have lt : (t.nodes.map cNod).length = t.nodes.length := by simp
  have lte : (t.edges.map cEdg).length = t.edges.length := by simp
  have hs1 := hs.2
  have htn := hts.nodes
  have s1 := refsValid_spec t hts s hs
  have s2 := refis_spec e t.edges.length
  rw [← lte] at s2
  have s3 := refis_spec a t.nodes.length
  rw [← lt] at s3
  have s4 := refis_spec b t.nodes.length
  rw [← lt] at s4
  unfold edgesR
  by_cases hv : sValid t s = 0
  · have hV := sValid_zero.1 hv
    rw [if_neg (Decidable.not_not.2 hv)]
    rw [hv] at s1
    by_cases hk : (0 ≤ e ∧ e < t.edges.length) ∧ (0 ≤ a ∧ a < t.nodes.length) ∧ (0 ≤ b ∧ b < t.nodes.length)
    · rw [if_neg (Decidable.not_not.2 hk)]
      rw [decide_eq_true (by rw [lte]; exact hk.1)] at s2
      rw [decide_eq_true (by rw [lt]; exact hk.2.1)] at s3
      rw [decide_eq_true (by rw [lt]; exact hk.2.2)] at s4
      refine a_enter Tryz.func22 (by kernel_rfl) rfl Tryz.ntmps22 rfl (by simp) ?_
      refine a_seq ?_
      refine a_reg ?_
      repeat (first | refine gZ pk ?_ | (show AL _ _ _ _ _ _ _; first | refine jB (fun u => ?_)))
      refine a_frzBox 0 6 rfl rfl ?_
      refine a_frzBox 0 5 rfl rfl ?_
      repeat (first | refine gA pk ?_ | (show AL _ _ _ _ _ _ _; first | refine jP s1 ?_ | refine jP s2 ?_ | refine jP s3 ?_ | refine jP s4 ?_))
      refine a_loopX (fun k : Nat => [(2, AI e), (3, AI a), (4, AI b), (5, tysP t), (6, staP s), (13, AI (sumP (fun c => decide (c.ty = e) && isR t c.fr a && isR t c.to b) (s.edges.take k))), (14, AI k)]) (fun _ => []) (fun k => k ≤ s.edges.length) (fun k => s.edges.length - k) 0 (Nat.zero_le _) ?_ (OSub.none _) ?_
      · exact subQ
      · intro k hk
        rcases Nat.lt_or_ge k s.edges.length with h | h
        · have hx := List.getElem?_eq_getElem h
          have h1 := hV.edges.ok _ (List.getElem_mem h)
          have ht := sumP_take (p := fun c => decide (c.ty = e) && isR t c.fr a && isR t c.to b) hx
          have hb := sumP_bd (p := fun c => decide (c.ty = e) && isR t c.fr a && isR t c.to b) (l := s.edges.take k) (fun c hc => by have := hV.edges.ok c (List.mem_of_mem_take hc); unfold edgeOk at this; omega)
          have hkl : (s.edges.take k).length = k := by rw [List.length_take]; omega
          rw [hkl] at hb
          generalize s.edges[k] = c at *
          generalize sumP (fun c => decide (c.ty = e) && isR t c.fr a && isR t c.to b) (s.edges.take k) = z at *
          obtain ⟨c1, c2, c3, c4⟩ := c
          unfold edgeOk at h1
          simp only at h1 ht
          have xk : (s.edges.map cCnt)[(k : Int).toNat]? = some [AI c1, AI c2, AI c3, AI c4] := map_get (f := cCnt) hx
          have s5 := refIs_spec t hts c2 a
          have s6 := refIs_spec t hts c3 b
          have hcs : (decide (c1 = e) && isR t c2 a && isR t c3 b) = true ∧ (c1 = e ∧ isR t c2 a = true ∧ isR t c3 b = true) ∨ (decide (c1 = e) && isR t c2 a && isR t c3 b) = false ∧ (c1 ≠ e ∨ (c1 = e ∧ isR t c2 a = false) ∨ (c1 = e ∧ isR t c2 a = true ∧ isR t c3 b = false)) := by
            by_cases q : c1 = e <;> cases isR t c2 a <;> cases isR t c3 b <;> simp [q]
          rcases hcs with ⟨hq, h7, h8, h9⟩ | ⟨hq, h7 | ⟨h7, h8⟩ | ⟨h7, h8, h9⟩⟩
          · rw [if_pos hq] at ht
            rw [h8] at s5
            rw [h9] at s6
            repeat (first | refine gA pk ?_ | (show AL _ _ _ _ _ _ _; first | refine jX tok xk ?_ | refine jL tok (fun u => ?_) | refine jS tok 0 ?_ | refine jO tok 0 ?_ | refine jP s5 ?_ | refine jP s6 ?_))
            refine ⟨k + 1, by omega, by omega, ?_, OSub.none _⟩
            rw [ht]
            exact subQ
          · rw [if_neg (by rw [hq]; decide), Int.add_zero] at ht
            repeat (first | refine gA pk ?_ | (show AL _ _ _ _ _ _ _; first | refine jX tok xk ?_ | refine jL tok (fun u => ?_) | refine jS tok 0 ?_ | refine jO tok 0 ?_ | refine jP s5 ?_ | refine jP s6 ?_))
            refine ⟨k + 1, by omega, by omega, ?_, OSub.none _⟩
            rw [ht]
            exact subQ
          · rw [if_neg (by rw [hq]; decide), Int.add_zero] at ht
            rw [h8] at s5
            repeat (first | refine gA pk ?_ | (show AL _ _ _ _ _ _ _; first | refine jX tok xk ?_ | refine jL tok (fun u => ?_) | refine jS tok 0 ?_ | refine jO tok 0 ?_ | refine jP s5 ?_ | refine jP s6 ?_))
            refine ⟨k + 1, by omega, by omega, ?_, OSub.none _⟩
            rw [ht]
            exact subQ
          · rw [if_neg (by rw [hq]; decide), Int.add_zero] at ht
            rw [h8] at s5
            rw [h9] at s6
            repeat (first | refine gA pk ?_ | (show AL _ _ _ _ _ _ _; first | refine jX tok xk ?_ | refine jL tok (fun u => ?_) | refine jS tok 0 ?_ | refine jO tok 0 ?_ | refine jP s5 ?_ | refine jP s6 ?_))
            refine ⟨k + 1, by omega, by omega, ?_, OSub.none _⟩
            rw [ht]
            exact subQ
        · obtain rfl : k = s.edges.length := by omega
          rw [List.take_length]
          repeat (first | refine gA pk ?_)
          refine finQ ?_
          exact ⟨rfl, rfl⟩
    · rw [if_pos hk]
      have hcs : ¬ (0 ≤ e ∧ e < t.edges.length) ∨ ((0 ≤ e ∧ e < t.edges.length) ∧ ¬ (0 ≤ a ∧ a < t.nodes.length)) ∨ ((0 ≤ e ∧ e < t.edges.length) ∧ (0 ≤ a ∧ a < t.nodes.length) ∧ ¬ (0 ≤ b ∧ b < t.nodes.length)) := by omega
      rcases hcs with h | ⟨h, h'⟩ | ⟨h, h', h''⟩
      · rw [decide_eq_false (by rw [lte]; exact h)] at s2
        refine a_enter Tryz.func22 (by kernel_rfl) rfl Tryz.ntmps22 rfl (by simp) ?_
        refine a_seq ?_
        refine a_reg ?_
        repeat (first | refine gZ pk ?_ | (show AL _ _ _ _ _ _ _; first | refine jB (fun u => ?_)))
        refine a_frzBox 0 6 rfl rfl ?_
        refine a_frzBox 0 5 rfl rfl ?_
        repeat (first | refine gA pk ?_ | (show AL _ _ _ _ _ _ _; first | refine jP s1 ?_ | refine jP s2 ?_))
        refine finQ ?_
        exact ⟨rfl, rfl⟩
      · rw [decide_eq_true (by rw [lte]; exact h)] at s2
        rw [decide_eq_false (by rw [lt]; exact h')] at s3
        refine a_enter Tryz.func22 (by kernel_rfl) rfl Tryz.ntmps22 rfl (by simp) ?_
        refine a_seq ?_
        refine a_reg ?_
        repeat (first | refine gZ pk ?_ | (show AL _ _ _ _ _ _ _; first | refine jB (fun u => ?_)))
        refine a_frzBox 0 6 rfl rfl ?_
        refine a_frzBox 0 5 rfl rfl ?_
        repeat (first | refine gA pk ?_ | (show AL _ _ _ _ _ _ _; first | refine jP s1 ?_ | refine jP s2 ?_ | refine jP s3 ?_))
        refine finQ ?_
        exact ⟨rfl, rfl⟩
      · rw [decide_eq_true (by rw [lte]; exact h)] at s2
        rw [decide_eq_true (by rw [lt]; exact h')] at s3
        rw [decide_eq_false (by rw [lt]; exact h'')] at s4
        refine a_enter Tryz.func22 (by kernel_rfl) rfl Tryz.ntmps22 rfl (by simp) ?_
        refine a_seq ?_
        refine a_reg ?_
        repeat (first | refine gZ pk ?_ | (show AL _ _ _ _ _ _ _; first | refine jB (fun u => ?_)))
        refine a_frzBox 0 6 rfl rfl ?_
        refine a_frzBox 0 5 rfl rfl ?_
        repeat (first | refine gA pk ?_ | (show AL _ _ _ _ _ _ _; first | refine jP s1 ?_ | refine jP s2 ?_ | refine jP s3 ?_ | refine jP s4 ?_))
        refine finQ ?_
        exact ⟨rfl, rfl⟩
  · rw [if_pos hv]
    generalize sValid t s = x at *
    refine a_enter Tryz.func22 (by kernel_rfl) rfl Tryz.ntmps22 rfl (by simp) ?_
    refine a_seq ?_
    refine a_reg ?_
    repeat (first | refine gZ pk ?_ | (show AL _ _ _ _ _ _ _; first | refine jB (fun u => ?_)))
    refine a_frzBox 0 6 rfl rfl ?_
    refine a_frzBox 0 5 rfl rfl ?_
    repeat (first | refine gA pk ?_ | (show AL _ _ _ _ _ _ _; first | refine jP s1 ?_))
    refine finQ ?_
    exact ⟨rfl, rfl⟩
end Go.Proofs.YtcacbdohlfljfaaGreat

/-
  The statistic of the example, awake: the walk.
-/
namespace Go.Proofs.YtcacbdohlfljfaaGreat
open Go.Sj Go.Sj.Typ Go.Sj.Sta
set_option linter.unusedVariables false
set_option maxHeartbeats 8000000

def exG : Gr := ⟨[3, 1, 1], [⟨0, 0, 1⟩, ⟨0, 0, 2⟩]⟩
def exS : Sta := ⟨[⟨1, 0, 0, 2⟩, ⟨3, 0, 0, 1⟩], [⟨0, 3, 1, 2⟩]⟩
theorem exOf : ofR exTys exG = (exS, 0) := by kernel_rfl
theorem exNodes : nodesR exTys exS 0 = (2, 0) := by decide +kernel
theorem exEdges : edgesR exTys exS 0 3 0 = (2, 0) := by decide +kernel
theorem exSame : sameB exS exS = true := by decide +kernel
theorem awakeS_spec : Pure Tryz.prog 10 [] (AB true) := by
  have s0 := Example_spec
  have s1 : Pure Tryz.prog 13 [tysA exTys, .agg [.im 1 [[AI 3], [AI 1], [AI 1]], .im 3 [[AI 0, AI 0, AI 1], [AI 0, AI 0, AI 2]]]] (.tup [staA exS, AI 0]) := by
    have h := Of_spec exTys exSmall exG ⟨by decide, by decide⟩
    rw [exOf] at h
    exact h
  have s2 := Nodes_spec exTys exSmall exS ⟨by decide, by decide⟩ 0
  have s3 := Edges_spec exTys exSmall exS ⟨by decide, by decide⟩ 0 3 0
  have s4 := refSame_spec exS exS ⟨by decide, by decide⟩ ⟨by decide, by decide⟩
  rw [exNodes] at s2
  rw [exEdges] at s3
  rw [exSame] at s4
  generalize exTys.nodes = N at *
  generalize exTys.edges = E at *
  refine a_enter Tryz.func10 (by kernel_rfl) rfl Tryz.ntmps10 rfl (by simp) ?_
  (repeat (first | refine a_seq ?_ | refine a_block ?_)); refine a_reg ?_
  repeat (first | refine gZ pk ?_)
  (repeat (first | refine a_seq ?_ | refine a_block ?_)); refine a_reg ?_
  repeat (first | refine gZ pk ?_ | (show AL _ _ _ _ _ _ _; first | refine jP s0 ?_ | refine jL tok (fun u => ?_) | refine jS tok 0 ?_))
  refine a_frzBox 0 1 rfl rfl ?_
  repeat (first | refine gA pk ?_ | (show AL _ _ _ _ _ _ _; first | refine jP s1 ?_ | refine jP s2 ?_ | refine jP s3 ?_ | refine jP s4 ?_ | refine s_frzNow 0 rfl rfl rfl (s_build tok rfl rfl rfl rfl rfl rfl rfl rfl (by decide) (by decide) (fun v => AL.nil ⟨v, rfl, rfl, rfl⟩)) ?_ | refine jL tok (fun u => ?_) | refine jS tok 0 ?_ | refine jO tok 0 ?_ | refine jO tok 1 ?_))
  refine finQ ?_
  exact ⟨rfl, rfl⟩
end Go.Proofs.YtcacbdohlfljfaaGreat

/-
  The laws on Of, Valid and the sums: the walks.
-/
namespace Go.Proofs.YtcacbdohlfljfaaGreat
open Go.Sj Go.Sj.Typ Go.Sj.Sta
set_option linter.unusedVariables false
set_option linter.unusedSimpArgs false
set_option maxHeartbeats 8000000

theorem ofR_len (t : Tys) (g : Gr) : (ofR t g).1.nodes.length ≤ 1000 ∧ (ofR t g).1.edges.length ≤ 1000 := by
  unfold ofR
  by_cases h : typedE t g = 0
  · have hG := (typedE_zero.1 h).graph
    have h1 := hG.nl
    have h2 := hG.el
    have h3 := ofN_len g g.nodes
    have h4 := ofE_len g g.edges
    rw [if_neg (Decidable.not_not.2 h)]
    show (ofN g g.nodes).length ≤ 1000 ∧ (ofE g g.edges).length ≤ 1000
    omega
  · rw [if_pos h]
    exact ⟨Nat.zero_le _, Nat.zero_le _⟩
theorem ofR_good (t : Tys) (g : Gr) (h : (ofR t g).2 = 0) : sValid t (ofR t g).1 = 0 := by
  unfold ofR at h ⊢
  by_cases h' : typedE t g = 0
  · rw [if_neg (Decidable.not_not.2 h')]
    exact sValid_zero.2 (ofS_valid (typedE_zero.1 h'))
  · rw [if_pos h'] at h
    exact absurd h h'
theorem same_self (s : Sta) : sameB s s = true := by simp [sameB]
theorem okS_of {s : Sta} (h : s.nodes.length ≤ 1000 ∧ s.edges.length ≤ 1000) : OkS s := ⟨by omega, by omega⟩
theorem StatisticOf_spec (t : Tys) (ht : OkT t) (g : Gr) (hg : OkG g) : Pure Tryz.prog 3 [tysA t, grA g] (AB true) := by
  have hf := Few_spec t ht
  have hw := awakeS_spec
  have hgf := gfew_spec g
  generalize decide (g.nodes.length ≤ 45 ∧ g.edges.length ≤ 90) = c at hgf
  refine a_enter Tryz.func3 (by kernel_rfl) rfl Tryz.ntmps3 rfl (by simp) ?_
  refine a_seq ?_
  refine a_reg ?_
  repeat (first | refine gZ pk ?_ | (show AL _ _ _ _ _ _ _; first | refine jB (fun u => ?_)))
  refine a_frzBox 0 3 rfl rfl ?_
  refine a_frzBox 0 2 rfl rfl ?_
  repeat (first | refine gA pk ?_ | (show AL _ _ _ _ _ _ _; first | refine jP hw ?_))
  (refine s_call (Lc := []) rfl rfl rfl rfl rfl (hf) (SubL.of_eq rfl) (List.Perm.refl _) ?_; rintro _ _ ⟨⟨b, rfl, hs⟩, rfl⟩)
  cases b with
  | false =>
    repeat (first | refine gA pk ?_ | (show AL _ _ _ _ _ _ _; first | refine jP hw ?_))
    refine finQ ?_
    exact ⟨rfl, rfl⟩
  | true =>
    cases c with
    | false =>
      repeat (first | refine gA pk ?_ | (show AL _ _ _ _ _ _ _; first | refine jP hgf ?_ | refine jP hw ?_))
      refine finQ ?_
      exact ⟨rfl, rfl⟩
    | true =>
      have hsm := hs rfl
      have hl := ofR_len t g
      have hv := ofR_good t g
      have s1 := Of_spec t hsm g hg
      have s2 := refOf_spec t hsm g hg
      obtain ⟨R, hR⟩ : ∃ R, ofR t g = R := ⟨_, rfl⟩
      rw [hR] at s1 s2 hl hv
      obtain ⟨S, e⟩ := R
      simp only at hl hv s1 s2
      have s3 := refSame_spec S S (okS_of hl) (okS_of hl)
      rw [same_self] at s3
      have s4 := sValid_spec t hsm S hl
      by_cases he : e = 0
      · rw [hv he] at s4
        repeat (first | refine gA pk ?_ | (show AL _ _ _ _ _ _ _; first | refine jP hgf ?_ | refine jP s1 ?_ | refine jP s2 ?_ | refine jP s3 ?_ | refine jP s4 ?_ | refine jL tok (fun u => ?_) | refine jS tok 0 ?_ | refine jO tok 0 ?_ | refine jO tok 1 ?_))
        refine finQ ?_
        exact ⟨rfl, rfl⟩
      · repeat (first | refine gA pk ?_ | (show AL _ _ _ _ _ _ _; first | refine jP hgf ?_ | refine jP s1 ?_ | refine jP s2 ?_ | refine jP s3 ?_ | refine jL tok (fun u => ?_) | refine jS tok 0 ?_ | refine jO tok 0 ?_ | refine jO tok 1 ?_))
        refine finQ ?_
        exact ⟨rfl, rfl⟩
theorem StatisticValid_spec (t : Tys) (ht : OkT t) (s : Sta) (hs1 : OkS s) (x : Sta) (hx1 : OkS x) : Pure Tryz.prog 5 [tysA t, staA s, staA x] (AB true) := by
  have hf := Few_spec t ht
  have hw := awakeS_spec
  have f1 := sfew_spec s
  have f2 := sfew_spec x
  refine a_enter Tryz.func5 (by kernel_rfl) rfl Tryz.ntmps5 rfl (by simp) ?_
  refine a_seq ?_
  refine a_reg ?_
  repeat (first | refine gZ pk ?_ | (show AL _ _ _ _ _ _ _; first | refine jB (fun u => ?_)))
  refine a_frzBox 0 5 rfl rfl ?_
  refine a_frzBox 0 4 rfl rfl ?_
  refine a_frzBox 0 3 rfl rfl ?_
  repeat (first | refine gA pk ?_ | (show AL _ _ _ _ _ _ _; first | refine jP hw ?_))
  (refine s_call (Lc := []) rfl rfl rfl rfl rfl (hf) (SubL.of_eq rfl) (List.Perm.refl _) ?_; rintro _ _ ⟨⟨b, rfl, hs⟩, rfl⟩)
  cases b with
  | false =>
    repeat (first | refine gA pk ?_ | (show AL _ _ _ _ _ _ _; first | refine jP hw ?_))
    refine finQ ?_
    exact ⟨rfl, rfl⟩
  | true =>
    by_cases h1 : s.nodes.length ≤ 45 ∧ s.edges.length ≤ 85
    · rw [decide_eq_true h1] at f1
      by_cases h2 : x.nodes.length ≤ 45 ∧ x.edges.length ≤ 85
      · rw [decide_eq_true h2] at f2
        have hsm := hs rfl
        have s1 := refCopied_spec s (by omega) (by omega)
        have s2 := sValid_spec t hsm s ⟨by omega, by omega⟩
        have s3 := refsValid_spec t hsm s ⟨by omega, by omega⟩
        have s4 := Same_spec s x hs1 hx1
        have s5 := refSame_spec s x hs1 hx1
        have s6 := Same_spec s s hs1 hs1
        rw [same_self] at s6
        generalize sameB s x = c at *
        generalize sValid t s = e at *
        cases c
        all_goals
          repeat (first | (show AWp _ _ _ _ _ _; first | refine a_seq ?_ | refine a_reg ?_ | refine a_regO [0, 1, 4, 5, 2, 3, 6, 7, 8, 9, 10, 12, 13, 11, 14, 15, 16, 17, 18, 19, 20, 21, 22, 23] mixed rfl rfl (by decide +kernel) ?_ | refine a_condT rfl ?_ | refine a_condF rfl ?_ | refine a_skip ?_ | refine a_exit ?_ | refine a_block ?_) | refine gY pk ?_ | (show AL _ _ _ _ _ _ _; first | refine jP f1 ?_ | refine jP f2 ?_ | refine jP s1 ?_ | refine jP s2 ?_ | refine jP s3 ?_ | refine jP s4 ?_ | refine jP s5 ?_ | refine jP s6 ?_ | refine s_boolEq tok rfl rfl rfl rfl rfl rfl rfl ?_))
          repeat (first | refine gA pk ?_)
          refine finQ ?_
          exact ⟨rfl, rfl⟩
      · rw [decide_eq_false h2] at f2
        repeat (first | refine gA pk ?_ | (show AL _ _ _ _ _ _ _; first | refine jP f1 ?_ | refine jP f2 ?_ | refine jP hw ?_))
        refine finQ ?_
        exact ⟨rfl, rfl⟩
    · rw [decide_eq_false h1] at f1
      repeat (first | refine gA pk ?_ | (show AL _ _ _ _ _ _ _; first | refine jP f1 ?_ | refine jP hw ?_))
      refine finQ ?_
      exact ⟨rfl, rfl⟩
theorem StatisticCounts_spec (t : Tys) (ht : OkT t) (s : Sta) (hs1 : OkS s) (a b c d : Int) : Pure Tryz.prog 4 [tysA t, staA s, .agg [AI a, AI b, AI c, AI d]] (AB true) := by
  have hf := Few_spec t ht
  have hw := awakeS_spec
  have f1 := sfew_spec s
  refine a_enter Tryz.func4 (by kernel_rfl) rfl Tryz.ntmps4 rfl (by simp) ?_
  refine a_seq ?_
  refine a_reg ?_
  repeat (first | refine gZ pk ?_ | (show AL _ _ _ _ _ _ _; first | refine jB (fun u => ?_)))
  refine a_frzBox 0 5 rfl rfl ?_
  refine a_frzBox 0 4 rfl rfl ?_
  refine a_frzBox 0 3 rfl rfl ?_
  repeat (first | refine gA pk ?_ | (show AL _ _ _ _ _ _ _; first | refine jP hw ?_))
  (refine s_call (Lc := []) rfl rfl rfl rfl rfl (hf) (SubL.of_eq rfl) (List.Perm.refl _) ?_; rintro _ _ ⟨⟨q, rfl, hs⟩, rfl⟩)
  cases q with
  | false =>
    repeat (first | refine gA pk ?_ | (show AL _ _ _ _ _ _ _; first | refine jP hw ?_))
    refine finQ ?_
    exact ⟨rfl, rfl⟩
  | true =>
    by_cases h1 : s.nodes.length ≤ 45 ∧ s.edges.length ≤ 85
    · rw [decide_eq_true h1] at f1
      have hsm := hs rfl
      have s1 := refCopied_spec s (by omega) (by omega)
      have s2 := Nodes_spec t hsm s ⟨by omega, by omega⟩ b
      have s3 := refNodes_spec t hsm s ⟨by omega, by omega⟩ b
      have s4 := Edges_spec t hsm s ⟨by omega, by omega⟩ a b c
      have s5 := refEdges_spec t hsm s ⟨by omega, by omega⟩ a b c
      generalize nodesR t s b = x at *
      generalize edgesR t s a b c = y at *
      obtain ⟨x1, x2⟩ := x
      obtain ⟨y1, y2⟩ := y
      repeat (first | refine gN pk ?_ | (show AL _ _ _ _ _ _ _; first | refine jP f1 ?_))
      refine a_regO [0, 1, 3, 4, 2, 5, 6, 7, 8, 9, 10] mixed rfl rfl (by decide +kernel) ?_
      repeat (first | refine gY pk ?_ | (show AL _ _ _ _ _ _ _; first | refine jP s1 ?_ | refine jP s2 ?_ | refine jP s3 ?_ | refine jP s4 ?_ | refine jP s5 ?_))
      repeat (first | refine gN pk ?_ | (show AL _ _ _ _ _ _ _; first | refine jP s1 ?_ | refine jP s2 ?_ | refine jP s3 ?_ | refine jP s4 ?_ | refine jP s5 ?_))
      refine a_regO [0, 1, 3, 4, 5, 6, 7, 8, 2, 9, 10, 11, 12, 13, 14] mixed rfl rfl (by decide +kernel) ?_
      repeat (first | refine gY pk ?_ | (show AL _ _ _ _ _ _ _; first | refine jP s1 ?_ | refine jP s2 ?_ | refine jP s3 ?_ | refine jP s4 ?_ | refine jP s5 ?_))
      repeat (first | refine gA pk ?_ | (show AL _ _ _ _ _ _ _; first | refine jP s1 ?_ | refine jP s2 ?_ | refine jP s3 ?_ | refine jP s4 ?_ | refine jP s5 ?_))
      refine finQ ?_
      exact ⟨rfl, rfl⟩
    · rw [decide_eq_false h1] at f1
      repeat (first | refine gA pk ?_ | (show AL _ _ _ _ _ _ _; first | refine jP f1 ?_ | refine jP hw ?_))
      refine finQ ?_
      exact ⟨rfl, rfl⟩
end Go.Proofs.YtcacbdohlfljfaaGreat
