/- Parts of a proof. -/
import Derived.Test.YtimfponihbfimaaGreatP47
import Derived.Test.YtimfponihbfimaaGreatP50
set_option linter.unusedVariables false
set_option linter.unusedSimpArgs false
section
namespace Go.Proofs.YtimfponihbfimaaGreat
open Go.Sj Go.Sj.Typ Go.Sj.Sta
set_option maxRecDepth 8000
set_option maxHeartbeats 16000000
theorem refNodes_spec (t : Tys) (ht : Small t) (s : Sta) (hs : s.nodes.length ≤ 1000 ∧ s.edges.length ≤ 1000) (a : Int) : Pure Tryz.prog 156 [tysA t, staA s, AI a] (.tup [AI (nodesR t s a).1, AI (nodesR t s a).2]) := by
  have ln : (s.nodes.map cCnt).length = s.nodes.length := by simp
  have lt : (t.nodes.map cNod).length = t.nodes.length := by simp
  have hs1 := hs.1
  have hts := ht
  have htn := ht.nodes
  have s1 := refsValid_spec t ht s hs
  have s2 := refis_spec a t.nodes.length
  rw [← lt] at s2
  unfold nodesR
  by_cases hv : sValid t s = 0
  · have hV := sValid_zero.1 hv
    rw [if_neg (Decidable.not_not.2 hv)]
    rw [hv] at s1
    by_cases hk : 0 ≤ a ∧ a < t.nodes.length
    · rw [if_neg (Decidable.not_not.2 hk)]
      rw [decide_eq_true (by rw [lt]; exact hk)] at s2
      refine zen Tryz.func156 (by kernel_rfl) rfl Tryz.ntmps156 rfl (by simp) ?_
      refine a_seq ?_
      refine a_reg ?_
      repeat (first | refine gZ pk ?_ | (show AL _ _ _ _ _ _ _; first | refine jB (fun u => ?_)))
      refine zfb 0 4 rfl rfl ?_
      refine zfb 0 3 rfl rfl ?_
      repeat (first | refine gA pk ?_ | (show AL _ _ _ _ _ _ _; first | refine jP s1 ?_ | refine jP s2 ?_))
      refine zlx (fun k : Nat => [(2, AI a), (3, tysP t), (4, staP s), (9, AI (sumP (fun c => isR t c.ty a) (s.nodes.take k))), (10, AI k)]) (fun _ => []) (fun k => k ≤ s.nodes.length) (fun k => s.nodes.length - k) 0 (Nat.zero_le _) ?_ (OSub.none _) ?_
      · exact subQ
      · intro k hk
        rcases Nat.lt_or_ge k s.nodes.length with h | h
        · have hx := List.getElem?_eq_getElem h
          have h1 := hV.nodes.ok _ (List.getElem_mem h)
          have ht := sumP_take (p := fun c => isR t c.ty a) hx
          have hb := sumP_bd (p := fun c => isR t c.ty a) (l := s.nodes.take k) (fun c hc => by have := hV.nodes.ok c (List.mem_of_mem_take hc); unfold nodeOk at this; omega)
          have hkl : (s.nodes.take k).length = k := by rw [List.length_take]; omega
          rw [hkl] at hb
          generalize s.nodes[k] = c at *
          generalize sumP (fun c => isR t c.ty a) (s.nodes.take k) = z at *
          obtain ⟨c1, c2, c3, c4⟩ := c
          unfold nodeOk at h1
          simp only at h1 ht
          have xk : (s.nodes.map cCnt)[(k : Int).toNat]? = some [AI c1, AI c2, AI c3, AI c4] := zmp (f := cCnt) hx
          have s3 := refIs_spec t hts c1 a
          cases hq : isR t c1 a with
          | true =>
            rw [hq, if_pos rfl] at ht
            rw [hq] at s3
            repeat (first | refine gA pk ?_ | (show AL _ _ _ _ _ _ _; first | refine jX tok xk ?_ | refine jP s3 ?_))
            refine ⟨k + 1, by omega, by omega, ?_, OSub.none _⟩
            rw [ht]
            exact subQ
          | false =>
            rw [hq, if_neg (by decide), Int.add_zero] at ht
            rw [hq] at s3
            repeat (first | refine gA pk ?_ | (show AL _ _ _ _ _ _ _; first | refine jX tok xk ?_ | refine jP s3 ?_))
            refine ⟨k + 1, by omega, by omega, ?_, OSub.none _⟩
            rw [ht]
            exact subQ
        · obtain rfl : k = s.nodes.length := by omega
          rw [List.take_length]
          repeat (first | refine gA pk ?_)
          refine finQ ?_
          exact ⟨rfl, rfl⟩
    · rw [if_pos hk]
      rw [decide_eq_false (by rw [lt]; exact hk)] at s2
      refine zen Tryz.func156 (by kernel_rfl) rfl Tryz.ntmps156 rfl (by simp) ?_
      refine a_seq ?_
      refine a_reg ?_
      repeat (first | refine gZ pk ?_ | (show AL _ _ _ _ _ _ _; first | refine jB (fun u => ?_)))
      refine zfb 0 4 rfl rfl ?_
      refine zfb 0 3 rfl rfl ?_
      repeat (first | refine gA pk ?_ | (show AL _ _ _ _ _ _ _; first | refine jP s1 ?_ | refine jP s2 ?_))
      refine finQ ?_
      exact ⟨rfl, rfl⟩
  · rw [if_pos hv]
    generalize sValid t s = e at *
    refine zen Tryz.func156 (by kernel_rfl) rfl Tryz.ntmps156 rfl (by simp) ?_
    refine a_seq ?_
    refine a_reg ?_
    repeat (first | refine gZ pk ?_ | (show AL _ _ _ _ _ _ _; first | refine jB (fun u => ?_)))
    refine zfb 0 4 rfl rfl ?_
    refine zfb 0 3 rfl rfl ?_
    repeat (first | refine gA pk ?_ | (show AL _ _ _ _ _ _ _; first | refine jP s1 ?_))
    refine finQ ?_
    exact ⟨rfl, rfl⟩
theorem refEdges_spec (t : Tys) (hts : Small t) (s : Sta) (hs : s.nodes.length ≤ 1000 ∧ s.edges.length ≤ 1000) (e a b : Int) : Pure Tryz.prog 158 [tysA t, staA s, AI e, AI a, AI b] (.tup [AI (edgesR t s e a b).1, AI (edgesR t s e a b).2]) := by
  have ln : (s.edges.map cCnt).length = s.edges.length := by simp
  have lt : (t.nodes.map cNod).length = t.nodes.length := by simp
  have lte : (t.edges.map cEdg).length = t.edges.length := by simp
  have hs1 := hs.2
  have htn := hts.nodes
  have s1 := refsValid_spec t hts s hs
  have s2 := refis_spec e t.edges.length
  rw [← lte] at s2
  have s3 := refis_spec a t.nodes.length
  rw [← lt] at s3
  have s4 := refis_spec b t.nodes.length
  rw [← lt] at s4
  unfold edgesR
  by_cases hv : sValid t s = 0
  · have hV := sValid_zero.1 hv
    rw [if_neg (Decidable.not_not.2 hv)]
    rw [hv] at s1
    by_cases hk : (0 ≤ e ∧ e < t.edges.length) ∧ (0 ≤ a ∧ a < t.nodes.length) ∧ (0 ≤ b ∧ b < t.nodes.length)
    · rw [if_neg (Decidable.not_not.2 hk)]
      rw [decide_eq_true (by rw [lte]; exact hk.1)] at s2
      rw [decide_eq_true (by rw [lt]; exact hk.2.1)] at s3
      rw [decide_eq_true (by rw [lt]; exact hk.2.2)] at s4
      refine zen Tryz.func158 (by kernel_rfl) rfl Tryz.ntmps158 rfl (by simp) ?_
      refine a_seq ?_
      refine a_reg ?_
      repeat (first | refine gZ pk ?_ | (show AL _ _ _ _ _ _ _; first | refine jB (fun u => ?_)))
      refine zfb 0 6 rfl rfl ?_
      refine zfb 0 5 rfl rfl ?_
      repeat (first | refine gA pk ?_ | (show AL _ _ _ _ _ _ _; first | refine jP s1 ?_ | refine jP s2 ?_ | refine jP s3 ?_ | refine jP s4 ?_))
      refine zlx (fun k : Nat => [(2, AI e), (3, AI a), (4, AI b), (5, tysP t), (6, staP s), (13, AI (sumP (fun c => decide (c.ty = e) && isR t c.fr a && isR t c.to b) (s.edges.take k))), (14, AI k)]) (fun _ => []) (fun k => k ≤ s.edges.length) (fun k => s.edges.length - k) 0 (Nat.zero_le _) ?_ (OSub.none _) ?_
      · exact subQ
      · intro k hk
        rcases Nat.lt_or_ge k s.edges.length with h | h
        · have hx := List.getElem?_eq_getElem h
          have h1 := hV.edges.ok _ (List.getElem_mem h)
          have ht := sumP_take (p := fun c => decide (c.ty = e) && isR t c.fr a && isR t c.to b) hx
          have hb := sumP_bd (p := fun c => decide (c.ty = e) && isR t c.fr a && isR t c.to b) (l := s.edges.take k) (fun c hc => by have := hV.edges.ok c (List.mem_of_mem_take hc); unfold edgeOk at this; omega)
          have hkl : (s.edges.take k).length = k := by rw [List.length_take]; omega
          rw [hkl] at hb
          generalize s.edges[k] = c at *
          generalize sumP (fun c => decide (c.ty = e) && isR t c.fr a && isR t c.to b) (s.edges.take k) = z at *
          obtain ⟨c1, c2, c3, c4⟩ := c
          unfold edgeOk at h1
          simp only at h1 ht
          have xk : (s.edges.map cCnt)[(k : Int).toNat]? = some [AI c1, AI c2, AI c3, AI c4] := zmp (f := cCnt) hx
          have s5 := refIs_spec t hts c2 a
          have s6 := refIs_spec t hts c3 b
          have hcs : (decide (c1 = e) && isR t c2 a && isR t c3 b) = true ∧ (c1 = e ∧ isR t c2 a = true ∧ isR t c3 b = true) ∨ (decide (c1 = e) && isR t c2 a && isR t c3 b) = false ∧ (c1 ≠ e ∨ (c1 = e ∧ isR t c2 a = false) ∨ (c1 = e ∧ isR t c2 a = true ∧ isR t c3 b = false)) := by
            by_cases q : c1 = e <;> cases isR t c2 a <;> cases isR t c3 b <;> simp [q]
          rcases hcs with ⟨hq, h7, h8, h9⟩ | ⟨hq, h7 | ⟨h7, h8⟩ | ⟨h7, h8, h9⟩⟩
          · rw [if_pos hq] at ht
            rw [h8] at s5
            rw [h9] at s6
            repeat (first | refine gA pk ?_ | (show AL _ _ _ _ _ _ _; first | refine jX tok xk ?_ | refine jL tok (fun u => ?_) | refine jS tok 0 ?_ | refine jO tok 0 ?_ | refine jP s5 ?_ | refine jP s6 ?_))
            refine ⟨k + 1, by omega, by omega, ?_, OSub.none _⟩
            rw [ht]
            exact subQ
          · rw [if_neg (by rw [hq]; decide), Int.add_zero] at ht
            repeat (first | refine gA pk ?_ | (show AL _ _ _ _ _ _ _; first | refine jX tok xk ?_ | refine jL tok (fun u => ?_) | refine jS tok 0 ?_ | refine jO tok 0 ?_ | refine jP s5 ?_ | refine jP s6 ?_))
            refine ⟨k + 1, by omega, by omega, ?_, OSub.none _⟩
            rw [ht]
            exact subQ
          · rw [if_neg (by rw [hq]; decide), Int.add_zero] at ht
            rw [h8] at s5
            repeat (first | refine gA pk ?_ | (show AL _ _ _ _ _ _ _; first | refine jX tok xk ?_ | refine jL tok (fun u => ?_) | refine jS tok 0 ?_ | refine jO tok 0 ?_ | refine jP s5 ?_ | refine jP s6 ?_))
            refine ⟨k + 1, by omega, by omega, ?_, OSub.none _⟩
            rw [ht]
            exact subQ
          · rw [if_neg (by rw [hq]; decide), Int.add_zero] at ht
            rw [h8] at s5
            rw [h9] at s6
            repeat (first | refine gA pk ?_ | (show AL _ _ _ _ _ _ _; first | refine jX tok xk ?_ | refine jL tok (fun u => ?_) | refine jS tok 0 ?_ | refine jO tok 0 ?_ | refine jP s5 ?_ | refine jP s6 ?_))
            refine ⟨k + 1, by omega, by omega, ?_, OSub.none _⟩
            rw [ht]
            exact subQ
        · obtain rfl : k = s.edges.length := by omega
          rw [List.take_length]
          repeat (first | refine gA pk ?_)
          refine finQ ?_
          exact ⟨rfl, rfl⟩
    · rw [if_pos hk]
      have hcs : ¬ (0 ≤ e ∧ e < t.edges.length) ∨ ((0 ≤ e ∧ e < t.edges.length) ∧ ¬ (0 ≤ a ∧ a < t.nodes.length)) ∨ ((0 ≤ e ∧ e < t.edges.length) ∧ (0 ≤ a ∧ a < t.nodes.length) ∧ ¬ (0 ≤ b ∧ b < t.nodes.length)) := by omega
      rcases hcs with h | ⟨h, h'⟩ | ⟨h, h', h''⟩
      · rw [decide_eq_false (by rw [lte]; exact h)] at s2
        refine zen Tryz.func158 (by kernel_rfl) rfl Tryz.ntmps158 rfl (by simp) ?_
        refine a_seq ?_
        refine a_reg ?_
        repeat (first | refine gZ pk ?_ | (show AL _ _ _ _ _ _ _; first | refine jB (fun u => ?_)))
        refine zfb 0 6 rfl rfl ?_
        refine zfb 0 5 rfl rfl ?_
        repeat (first | refine gA pk ?_ | (show AL _ _ _ _ _ _ _; first | refine jP s1 ?_ | refine jP s2 ?_))
        refine finQ ?_
        exact ⟨rfl, rfl⟩
      · rw [decide_eq_true (by rw [lte]; exact h)] at s2
        rw [decide_eq_false (by rw [lt]; exact h')] at s3
        refine zen Tryz.func158 (by kernel_rfl) rfl Tryz.ntmps158 rfl (by simp) ?_
        refine a_seq ?_
        refine a_reg ?_
        repeat (first | refine gZ pk ?_ | (show AL _ _ _ _ _ _ _; first | refine jB (fun u => ?_)))
        refine zfb 0 6 rfl rfl ?_
        refine zfb 0 5 rfl rfl ?_
        repeat (first | refine gA pk ?_ | (show AL _ _ _ _ _ _ _; first | refine jP s1 ?_ | refine jP s2 ?_ | refine jP s3 ?_))
        refine finQ ?_
        exact ⟨rfl, rfl⟩
      · rw [decide_eq_true (by rw [lte]; exact h)] at s2
        rw [decide_eq_true (by rw [lt]; exact h')] at s3
        rw [decide_eq_false (by rw [lt]; exact h'')] at s4
        refine zen Tryz.func158 (by kernel_rfl) rfl Tryz.ntmps158 rfl (by simp) ?_
        refine a_seq ?_
        refine a_reg ?_
        repeat (first | refine gZ pk ?_ | (show AL _ _ _ _ _ _ _; first | refine jB (fun u => ?_)))
        refine zfb 0 6 rfl rfl ?_
        refine zfb 0 5 rfl rfl ?_
        repeat (first | refine gA pk ?_ | (show AL _ _ _ _ _ _ _; first | refine jP s1 ?_ | refine jP s2 ?_ | refine jP s3 ?_ | refine jP s4 ?_))
        refine finQ ?_
        exact ⟨rfl, rfl⟩
  · rw [if_pos hv]
    generalize sValid t s = x at *
    refine zen Tryz.func158 (by kernel_rfl) rfl Tryz.ntmps158 rfl (by simp) ?_
    refine a_seq ?_
    refine a_reg ?_
    repeat (first | refine gZ pk ?_ | (show AL _ _ _ _ _ _ _; first | refine jB (fun u => ?_)))
    refine zfb 0 6 rfl rfl ?_
    refine zfb 0 5 rfl rfl ?_
    repeat (first | refine gA pk ?_ | (show AL _ _ _ _ _ _ _; first | refine jP s1 ?_))
    refine finQ ?_
    exact ⟨rfl, rfl⟩
end Go.Proofs.YtimfponihbfimaaGreat
end
section
namespace Go.Sj.Pln
open Go.Sj Go.Sj.Sta Go.Sj.Typ Go.Sj.Inc
set_option maxRecDepth 8000
def PreE (p : Gr) : Kn → List Opn → Prop
  | _, [] => True
  | k, o :: l => opE p k o = 0 ∧ PreE p (aftK p k o) l
theorem plan_pre {p : Gr} : ∀ {l : List Opn} {k : Kn}, planE p k l = 0 → PreE p k l
  | [], _, _ => trivial
  | o :: l, k, h => by
    unfold planE at h
    split at h
    · rename_i h1; exact absurd h h1
    · rename_i h1
      exact ⟨Decidable.not_not.1 h1, plan_pre h⟩
end Go.Sj.Pln
end
section
namespace Go.Proofs.YtimfponihbfimaaGreat
open Go.Sj Go.Sj.Typ Go.Sj.Sta Go.Sj.Inc Go.Sj.Pln
set_option maxRecDepth 8000
set_option maxHeartbeats 16000000
theorem quotient_spec (a b c : Int) (ha : 0 ≤ a ∧ a ≤ 1000000000) (hb : 0 ≤ b ∧ b ≤ 100) (hc : 0 ≤ c ∧ c ≤ 10000) : Pure Tryz.prog 157 [AI a, AI b, AI c] (AI (quoC a b c)) := by
  unfold quoC
  have hm : 0 ≤ a * b ∧ a * b ≤ 100000000000 := ⟨Int.mul_nonneg ha.1 hb.1, by have := Int.mul_le_mul ha.2 hb.2 hb.1 (by omega); omega⟩
  by_cases h : c = 0
  · subst h
    rw [if_pos rfl]
    refine zen Tryz.func157 (by kernel_rfl) rfl Tryz.ntmps157 rfl (by simp) ?_
    repeat (first | refine gA pk ?_)
    refine finQ ?_
    exact ⟨rfl, rfl⟩
  · rw [if_neg h]
    have h1 : 0 ≤ (a * b + c - 1) / c := Int.ediv_nonneg (by omega) (by omega)
    have h2 : (a * b + c - 1) / c ≤ a * b + c - 1 := Int.ediv_le_self _ (by omega)
    refine zen Tryz.func157 (by kernel_rfl) rfl Tryz.ntmps157 rfl (by simp) ?_
    repeat (first | refine gA pk ?_ | (show AL _ _ _ _ _ _ _; first | refine s_quo rfl rfl rfl rfl rfl rfl (by omega) (by omega) (IntWalk.i64_in _ (by omega)) ?_))
    refine finQ ?_
    exact ⟨rfl, rfl⟩
theorem gestimate_spec (t : Tys) (ht : Small t) (s : Sta) (hs : s.nodes.length ≤ 1000 ∧ s.edges.length ≤ 1000) (p : Gr) (h : Prc t s p) (k : Kn) (hk : KnOk p k) (o : Opn) (ho : opE p k o = 0) (n : Int) (hn : 0 ≤ n ∧ n ≤ 1000000000) :
    Pure Tryz.prog 109 [tysA t, staA s, grA p, knA k, AI n, .agg (cOp o)] (AI (estK t s p k n o)) := by
  rw [← est_eq h.st hn.1]
  obtain ⟨kind, el⟩ := o
  have hb := fun i => numN_nn h.st p i
  unfold estG
  simp only
  rcases opE_zero ho with ⟨h1, h2, h3⟩ | ⟨h1, h2, h3⟩
  · simp only at h1 h2
    subst h1
    rw [if_pos rfl]
    have s1 := refNodes_spec t ht s hs (nodeAt p el)
    rw [(prc_node h h2).2] at s1
    have b1 := hb el
    have s2 := quotient_spec n (numN t s p el) 1 hn (by omega) (by omega)
    have nk : (rowI p.nodes)[el.toNat]? = some [AI (nodeAt p el)] := zmp (f := cI) (nodeAt_get h2.1 h2.2)
    have lpn : (rowI p.nodes).length = p.nodes.length := by simp
    generalize numN t s p el = c at *
    generalize nodeAt p el = a at *
    clear h hk h3 ho
    obtain ⟨tn, te⟩ := t
    obtain ⟨sn, se⟩ := s
    obtain ⟨pn, pe⟩ := p
    obtain ⟨kn, ke⟩ := k
    simp only at *
    change Pure _ _ [.agg [nodsA tn, edgsA te], .agg [cntsA sn, cntsA se], .agg [ints pn, edsA pe], .agg [boolsA kn, boolsA ke], AI n, .agg [AI 1, AI el]] _
    refine zen Tryz.func109 (by kernel_rfl) rfl Tryz.ntmps109 rfl (by simp) ?_
    refine a_seq ?_
    refine a_reg ?_
    repeat (first | refine gZ pk ?_ | (show AL _ _ _ _ _ _ _; first | refine jB (fun u => ?_)))
    refine zfb 4 6 rfl rfl ?_
    refine zfb 3 7 rfl rfl ?_
    refine zfb 2 8 rfl rfl ?_
    refine zfb 1 9 rfl rfl ?_
    refine zfb 0 11 rfl rfl ?_
    repeat (first | refine gN pk ?_)
    refine zrg ((List.range 14).map fun i => if inL [8] i = true then .eff else if inL [0, 1, 3, 5, 6, 7] i = true then .read else .pure) [] [0, 1, 2, 3, 4, 5, 6, 7, 8, 9, 10, 11, 12, 13] .stop mixed rfl rfl (by decide +kernel) ?_
    repeat' (first | (with_reducible show AG _ _ _ _ _ _ _ _ _ _; first | exact zgn | refine zgs ?_ | refine znd ?_ ?_) | (show AMid _ _ _ _; first | refine zmf ?_ | refine zmg (by first | exact OSub.refl _ | exact .drop (OSub.refl _) | exact .drop (.drop (OSub.refl _))) ?_) | refine gY pk ?_ | (show AL _ _ _ _ _ _ _; first | refine jX tok nk ?_ | refine jP s1 ?_) | fail)
    repeat (first | refine gA pk ?_ | (show AL _ _ _ _ _ _ _; first | refine jP s2 ?_))
    refine finQ ?_
    exact ⟨rfl, rfl⟩
  · simp only at h1 h2
    rw [if_neg (by omega)]
    have hx := List.getElem?_eq_getElem (l := p.edges) (i := el.toNat) (by omega)
    have hxm := List.getElem_mem (l := p.edges) (n := el.toNat) (by omega)
    have hxe := h.gr.edges _ hxm
    have hxE := prc_edge h hxm
    generalize p.edges[el.toNat]'(by omega) = x at *
    have hxp : edP p el = x := by
      unfold edP
      rw [List.getD_eq_getElem?_getD, hx]
      rfl
    rw [hxp]
    have sE := refEdges_spec t ht s hs x.ty (nodeAt p x.fr) (nodeAt p x.to)
    rw [hxE] at sE
    have hE := numE_nn h.st p x
    obtain ⟨xt, xf, xo⟩ := x
    simp only at *
    have xk : (p.edges.map cEd)[el.toNat]? = some [AI xt, AI xf, AI xo] := zmp (f := cEd) hx
    have nf : (rowI p.nodes)[xf.toNat]? = some [AI (nodeAt p xf)] := zmp (f := cI) (nodeAt_get hxe.2.1.1 hxe.2.1.2)
    have nt : (rowI p.nodes)[xo.toNat]? = some [AI (nodeAt p xo)] := zmp (f := cI) (nodeAt_get hxe.2.2.1 hxe.2.2.2)
    have sf := refNodes_spec t ht s hs (nodeAt p xf)
    rw [(prc_node h hxe.2.1).2] at sf
    have so := refNodes_spec t ht s hs (nodeAt p xo)
    rw [(prc_node h hxe.2.2).2] at so
    have bf := hb xf
    have bo := hb xo
    have kf := bl_get (l := k.ns) (i := xf) (by rw [hk.nl]; omega)
    change _ = some [AB (nodK k xf)] at kf
    have lpn : (rowI p.nodes).length = p.nodes.length := by simp
    have lpe : (p.edges.map cEd).length = p.edges.length := by simp
    have lkn : (k.ns.map cB).length = p.nodes.length := by rw [List.length_map, hk.nl]
    generalize nodK k xf = kb at *
    generalize numE t s p ⟨xt, xf, xo⟩ = c at *
    generalize numN t s p xf = cf at *
    generalize numN t s p xo = co at *
    generalize nodeAt p xf = af at *
    generalize nodeAt p xo = ao at *
    have b2 : 0 ≤ cf * co ∧ cf * co ≤ 1600 := ⟨Int.mul_nonneg bf.1 bo.1, by have := Int.mul_le_mul bf.2 bo.2 bo.1 (by omega); omega⟩
    have o1 := quotient_spec n c (cf * co) hn (by omega) (by omega)
    have o2 := quotient_spec n c cf hn (by omega) (by omega)
    have o3 := quotient_spec n c co hn (by omega) (by omega)
    clear hx hxm hxE hxp hb h3 h hk ho
    obtain ⟨tn, te⟩ := t
    obtain ⟨sn, se⟩ := s
    obtain ⟨pn, pe⟩ := p
    obtain ⟨kn, ke⟩ := k
    simp only at *
    change Pure _ _ [.agg [nodsA tn, edgsA te], .agg [cntsA sn, cntsA se], .agg [ints pn, edsA pe], .agg [boolsA kn, boolsA ke], AI n, .agg [AI kind, AI el]] _
    have hcs : (kind = 2 ∧ kb = true) ∨ (kind = 2 ∧ kb = false) ∨ kind = 3 := by cases kb <;> simp <;> omega
    rcases hcs with ⟨rfl, rfl⟩ | ⟨rfl, rfl⟩ | rfl
    all_goals
      first | rw [if_pos rfl] | rw [if_neg (by decide), if_pos rfl] | rw [if_neg (by decide), if_neg (by decide)]
      refine zen Tryz.func109 (by kernel_rfl) rfl Tryz.ntmps109 rfl (by simp) ?_
      refine a_seq ?_
      refine a_reg ?_
      repeat (first | refine gZ pk ?_ | (show AL _ _ _ _ _ _ _; first | refine jB (fun u => ?_)))
      refine zfb 4 6 rfl rfl ?_
      refine zfb 3 7 rfl rfl ?_
      refine zfb 2 8 rfl rfl ?_
      refine zfb 1 9 rfl rfl ?_
      refine zfb 0 11 rfl rfl ?_
      repeat (first | refine gN pk ?_ | (show AL _ _ _ _ _ _ _; first | refine jX tok xk ?_ | refine jL tok (fun ux => ?_) | refine jS tok 0 ?_))
      refine zfb 0 15 rfl rfl ?_
      refine zrg ((List.range 22).map fun i => if inL [16] i = true then .eff else if inL [0, 1, 3, 5, 7, 8, 9, 11, 13, 14, 15] i = true then .read else .pure) [] [0, 1, 2, 3, 4, 5, 6, 7, 8, 9, 10, 11, 12, 13, 14, 15, 16, 17, 18, 19, 20, 21] .stop mixed rfl rfl (by decide +kernel) ?_
      repeat' (first | (with_reducible show AG _ _ _ _ _ _ _ _ _ _; first | exact zgn | refine zgs ?_ | refine znd ?_ ?_) | (show AMid _ _ _ _; first | refine zmf ?_ | refine zmg (by first | exact OSub.refl _ | exact .drop (OSub.refl _) | exact .drop (.drop (OSub.refl _))) ?_) | refine gY pk ?_ | (show AL _ _ _ _ _ _ _; first | refine jX tok nf ?_ | refine jX tok nt ?_ | refine jP sE ?_) | fail)
      repeat (first | refine gN pk ?_)
      refine zrg ((List.range 14).map fun i => if inL [8] i = true then .eff else if inL [0, 1, 3, 5, 6, 7] i = true then .read else .pure) [] [0, 1, 2, 3, 4, 5, 6, 7, 8, 9, 10, 11, 12, 13] .stop mixed rfl rfl (by decide +kernel) ?_
      repeat' (first | (with_reducible show AG _ _ _ _ _ _ _ _ _ _; first | exact zgn | refine zgs ?_ | refine znd ?_ ?_) | (show AMid _ _ _ _; first | refine zmf ?_ | refine zmg (by first | exact OSub.refl _ | exact .drop (OSub.refl _) | exact .drop (.drop (OSub.refl _))) ?_) | refine gY pk ?_ | (show AL _ _ _ _ _ _ _; first | refine jX tok nf ?_ | refine jX tok nt ?_ | refine jP sf ?_) | fail)
      repeat (first | refine gN pk ?_)
      refine zrg ((List.range 14).map fun i => if inL [8] i = true then .eff else if inL [0, 1, 3, 5, 6, 7] i = true then .read else .pure) [] [0, 1, 2, 3, 4, 5, 6, 7, 8, 9, 10, 11, 12, 13] .stop mixed rfl rfl (by decide +kernel) ?_
      repeat' (first | (with_reducible show AG _ _ _ _ _ _ _ _ _ _; first | exact zgn | refine zgs ?_ | refine znd ?_ ?_) | (show AMid _ _ _ _; first | refine zmf ?_ | refine zmg (by first | exact OSub.refl _ | exact .drop (OSub.refl _) | exact .drop (.drop (OSub.refl _))) ?_) | refine gY pk ?_ | (show AL _ _ _ _ _ _ _; first | refine jX tok nf ?_ | refine jX tok nt ?_ | refine jP so ?_) | fail)
      repeat (first | refine gA pk ?_ | (show AL _ _ _ _ _ _ _; first | refine jX tok kf ?_ | refine jP o1 ?_ | refine jP o2 ?_ | refine jP o3 ?_))
      refine finQ ?_
      exact ⟨rfl, rfl⟩
theorem gcost_spec (t : Tys) (ht : Small t) (s : Sta) (hs : s.nodes.length ≤ 1000 ∧ s.edges.length ≤ 1000) (p : Gr) (h : Prc t s p) (l : List Opn) (hl : l.length ≤ 1000) (hpl : PreE p (kn0 p) l) :
    Pure Tryz.prog 67 [tysA t, staA s, grA p, opsA l] (AI (costL t s p l)) := by
  have hnl := h.gr.nl
  have hel := h.gr.el
  have su := gfresh_spec p (by omega) (by omega)
  have sf := fun k hk o ho => gafter_spec p h.gr k hk o ho
  have sE := fun k hk o ho n hn => gestimate_spec t ht s hs p h k hk o ho n hn
  have hen := fun (k : Kn) (n : Int) (o : Opn) hn => est_nn h.st (p := p) (k := k) (n := n) (o := o) hn
  have hcu := fun (c z : Int) h1 h2 => capC_up (c := c) (z := z) h1 h2
  have ll : (l.map cOp).length = l.length := by simp
  obtain ⟨F, hF⟩ : ∃ F, (fun k n c l => costS t s p k n c l) = F := ⟨_, rfl⟩
  have hc : costL t s p l = F (kn0 p) 1 0 l := by rw [← hF]; rfl
  have hstep : ∀ k n c o l, F k n c (o :: l) = F (aftK p k o) (estK t s p k n o) (capC (c + estK t s p k n o)) l := fun k n c o l => by rw [← hF]; rfl
  have hnil : ∀ k n c, F k n c [] = c := fun k n c => by rw [← hF]; rfl
  rw [hc]
  clear hF hc h
  generalize hEst : estK t s p = est at *
  obtain ⟨tn, te⟩ := t
  obtain ⟨sn, se⟩ := s
  obtain ⟨pn, pe⟩ := p
  change Pure _ _ [.agg [nodsA tn, edgsA te], .agg [cntsA sn, cntsA se], .agg [ints pn, edsA pe], opsA l] _
  refine zen Tryz.func67 (by kernel_rfl) rfl Tryz.ntmps67 rfl (by simp) ?_
  refine a_seq ?_
  refine a_reg ?_
  repeat (first | refine gZ pk ?_ | (show AL _ _ _ _ _ _ _; first | refine jB (fun u => ?_)))
  refine zfb 2 4 rfl rfl ?_
  refine zfb 1 5 rfl rfl ?_
  refine zfb 0 6 rfl rfl ?_
  repeat (first | refine gA pk ?_ | (show AL _ _ _ _ _ _ _; first | refine jP su ?_ | refine jL tok (fun us => ?_) | refine jS tok 0 ?_))
  refine a_loopG3 (fun (i : Nat) (k : Kn) (z : Int × Int) => [(3, opsA l), (4, .ip [nodsA tn, edgsA te]), (5, .ip [cntsA sn, cntsA se]), (6, .ip [ints pn, edsA pe]), (9, .pt us 0 0 0), (10, AI z.1), (11, AI z.2), (12, AI i)]) (fun i k _ => [(us, .box [boolsA k.ns, boolsA k.es])]) (fun i k z => i ≤ l.length ∧ KnOk ⟨pn, pe⟩ k ∧ PreE ⟨pn, pe⟩ k (l.drop i) ∧ (0 ≤ z.1 ∧ z.1 ≤ 1000000000) ∧ (0 ≤ z.2 ∧ z.2 ≤ 1000000000) ∧ F (kn0 ⟨pn, pe⟩) 1 0 l = F k z.1 z.2 (l.drop i)) (fun i _ _ => l.length - i) 0 (kn0 ⟨pn, pe⟩) (1, 0) ⟨Nat.zero_le _, kn0_ok _, hpl, by simp, by simp, rfl⟩ (.sub (by exact subQ) (OSub.refl _)) ?_
  rintro i k ⟨n, c⟩ ⟨hi, hk, hpr, hn, hcc, he⟩
  simp only at hn hcc he
  rw [he]
  rcases Nat.lt_or_ge i l.length with h | h
  · have h1 := List.getElem?_eq_getElem h
    rw [List.drop_eq_getElem_cons h] at he hpr ⊢
    generalize l[i] = o at *
    have xk : (l.map cOp)[(i : Int).toNat]? = some [AI o.kind, AI o.el] := zmp (f := cOp) h1
    obtain ⟨hop, hpr⟩ := hpr
    have s3 := sf k hk o hop
    have s4 := sE k hk o hop n hn
    have e1 := hen k n o hn.1
    rw [hstep] at he ⊢
    generalize est k n o = e at *
    have e2 := hcu c e hcc.2 e1.1
    have hcap : capC (c + e) = min 1000000000 (c + e) := by unfold capC; omega
    rw [hcap] at he e2 ⊢
    change Pure _ _ [_, _, .agg [AI o.kind, AI o.el]] _ at s3
    change Pure _ _ [.agg [nodsA tn, edgsA te], .agg [cntsA sn, cntsA se], .agg [ints pn, edsA pe], _, _, .agg [AI o.kind, AI o.el]] _ at s4
    repeat (first | refine gN pk ?_)
    refine zrg ((List.range 11).map fun i => if inL [9] i = true then .eff else if inL [0, 1, 2, 3, 7, 8] i = true then .read else .pure) [] [0, 1, 2, 3, 4, 5, 6, 7, 8, 9, 10] .stop mixed rfl rfl (by decide +kernel) ?_
    repeat' (first | (with_reducible show AG _ _ _ _ _ _ _ _ _ _; first | exact zgn | refine zgs ?_ | refine znd ?_ ?_) | (show AMid _ _ _ _; first | refine zmf ?_ | refine zmg (by first | exact OSub.refl _ | exact .drop (OSub.refl _) | exact .drop (.drop (OSub.refl _))) ?_) | refine gY pk ?_ | (show AL _ _ _ _ _ _ _; first | refine jO tok 0 ?_ | refine jX tok xk ?_ | refine jP s4 ?_) | fail)
    repeat (first | refine gN pk ?_ | (show AL _ _ _ _ _ _ _; first | refine s_min2 rfl rfl rfl rfl rfl rfl ?_))
    refine zrg ((List.range 8).map fun i => if inL [6, 7] i = true then .eff else if inL [0, 1, 4, 5] i = true then .read else .pure) [] [0, 1, 2, 3, 4, 5, 6, 7] .stop mixed rfl rfl (by decide +kernel) ?_
    repeat' (first | (with_reducible show AG _ _ _ _ _ _ _ _ _ _; first | exact zgn | refine zgs ?_ | refine znd ?_ ?_) | (show AMid _ _ _ _; first | refine zmf ?_ | refine zmg (by first | exact OSub.refl _ | exact .drop (OSub.refl _) | exact .drop (.drop (OSub.refl _))) ?_) | refine gY pk ?_ | (show AL _ _ _ _ _ _ _; first | refine jO tok 0 ?_ | refine jX tok xk ?_ | refine jP s3 ?_ | refine jS tok 0 ?_) | fail)
    repeat (first | refine gA pk ?_)
    exact ⟨i + 1, aftK ⟨pn, pe⟩ k o, (e, min 1000000000 (c + e)), ⟨by omega, aftK_ok hk o, hpr, e1, by simp only; omega, rfl⟩, by omega, .sub (by exact subQ) (OSub.refl _)⟩
  · obtain rfl : i = l.length := by omega
    rw [List.drop_length, hnil]
    repeat (first | refine gA pk ?_)
    refine finQ ?_
    exact ⟨rfl, rfl⟩
theorem ggivenS_spec (t : Tys) (ht : Small t) (s : Sta) (hs : s.nodes.length ≤ 1000 ∧ s.edges.length ≤ 1000) (p : Gr) (hp : OkG p) : Pure Tryz.prog 66 [tysA t, staA s, grA p] (AI (pricE t s p)) := by
  have s1 := refsValid_spec t ht s hs
  have s2 := refgvalid_spec p hp
  unfold pricE
  by_cases h1 : sValid t s = 0
  rotate_left
  · rw [if_pos h1]
    generalize sValid t s = c at *
    obtain ⟨tn, te⟩ := t
    obtain ⟨sn, se⟩ := s
    obtain ⟨pn, pe⟩ := p
    refine zen Tryz.func66 (by kernel_rfl) rfl Tryz.ntmps66 rfl (by simp) ?_
    refine a_seq ?_
    refine a_reg ?_
    repeat (first | refine gZ pk ?_ | (show AL _ _ _ _ _ _ _; first | refine jB (fun u => ?_)))
    refine zfb 2 3 rfl rfl ?_
    refine zfb 1 4 rfl rfl ?_
    refine zfb 0 5 rfl rfl ?_
    repeat (first | refine gA pk ?_ | (show AL _ _ _ _ _ _ _; first | refine jP s1 ?_))
    refine finQ ?_
    exact ⟨rfl, rfl⟩
  rw [if_neg (Decidable.not_not.2 h1)]
  rw [h1] at s1
  by_cases h2 : gvalid p = 0
  rotate_left
  · rw [if_pos h2]
    generalize gvalid p = c at *
    obtain ⟨tn, te⟩ := t
    obtain ⟨sn, se⟩ := s
    obtain ⟨pn, pe⟩ := p
    refine zen Tryz.func66 (by kernel_rfl) rfl Tryz.ntmps66 rfl (by simp) ?_
    refine a_seq ?_
    refine a_reg ?_
    repeat (first | refine gZ pk ?_ | (show AL _ _ _ _ _ _ _; first | refine jB (fun u => ?_)))
    refine zfb 2 3 rfl rfl ?_
    refine zfb 1 4 rfl rfl ?_
    refine zfb 0 5 rfl rfl ?_
    repeat (first | refine gA pk ?_ | (show AL _ _ _ _ _ _ _; first | refine jP s1 ?_ | refine jP s2 ?_))
    refine finQ ?_
    exact ⟨rfl, rfl⟩
  rw [if_neg (Decidable.not_not.2 h2)]
  rw [h2] at s2
  have s3 := gTyped_spec t ht p (gvalid_zero.1 h2)
  generalize typT t p = b at *
  obtain ⟨tn, te⟩ := t
  obtain ⟨sn, se⟩ := s
  obtain ⟨pn, pe⟩ := p
  cases b
  all_goals
    refine zen Tryz.func66 (by kernel_rfl) rfl Tryz.ntmps66 rfl (by simp) ?_
    refine a_seq ?_
    refine a_reg ?_
    repeat (first | refine gZ pk ?_ | (show AL _ _ _ _ _ _ _; first | refine jB (fun u => ?_)))
    refine zfb 2 3 rfl rfl ?_
    refine zfb 1 4 rfl rfl ?_
    refine zfb 0 5 rfl rfl ?_
    repeat (first | refine gA pk ?_ | (show AL _ _ _ _ _ _ _; first | refine jP s1 ?_ | refine jP s2 ?_ | refine jP s3 ?_))
    refine finQ ?_
    exact ⟨rfl, rfl⟩
end Go.Proofs.YtimfponihbfimaaGreat
end
