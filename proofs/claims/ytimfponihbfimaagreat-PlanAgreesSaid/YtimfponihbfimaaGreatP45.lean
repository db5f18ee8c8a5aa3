/- Parts of a proof. -/
import Derived.Test.YtimfponihbfimaaGreatP31
import Derived.Test.YtimfponihbfimaaGreatP44
set_option linter.unusedVariables false
set_option linter.unusedSimpArgs false
section
namespace Go.Proofs.YtimfponihbfimaaGreat
open Go.Sj Go.Sj.Typ Go.Sj.Sta Go.Sj.Inc Go.Sj.Pln
set_option maxRecDepth 8000
set_option maxHeartbeats 16000000
theorem ai_free {c : Int} (x : AV) (M : Own) (h : x = AI c ∧ M = ([] : Own)) : Free x ∧ M = [] := by
  obtain ⟨rfl, rfl⟩ := h
  exact ⟨.lit _, rfl⟩
theorem over_spec (a b : Int) (ha : 0 ≤ a ∧ a ≤ 1000000000000) (hb : 0 ≤ b ∧ b ≤ 1000000) : Pure Tryz.prog 107 [AI a, AI b] (AI (over a b)) := by
  unfold over
  by_cases h : b = 0
  · subst h
    rw [if_pos rfl]
    refine zen Tryz.func107 (by kernel_rfl) rfl Tryz.ntmps107 rfl (by simp) ?_
    repeat (first | refine gA pk ?_)
    refine finQ ?_
    exact ⟨rfl, rfl⟩
  · rw [if_neg h]
    have h1 : 0 ≤ (a + b - 1) / b := Int.ediv_nonneg (by omega) (by omega)
    have h2 : (a + b - 1) / b ≤ a + b - 1 := Int.ediv_le_self _ (by omega)
    refine zen Tryz.func107 (by kernel_rfl) rfl Tryz.ntmps107 rfl (by simp) ?_
    repeat (first | refine gA pk ?_ | (show AL _ _ _ _ _ _ _; first | refine s_quo rfl rfl rfl rfl rfl rfl (by omega) (by omega) (IntWalk.i64_in _ (by omega)) ?_))
    refine finQ ?_
    exact ⟨rfl, rfl⟩
theorem any_none_t {A : Type} {q : A → Bool} {l : List A} (h : ∀ x ∈ l, q x = false) : l.any q = false := any_take_none h
theorem priced_spec (t : Tys) (ht : Small t) (s : Sta) (hs : s.nodes.length ≤ 1000 ∧ s.edges.length ≤ 1000) (p : Gr) (hp : OkG p) : Pure Tryz.prog 62 [tysA t, staA s, grA p] (AI (pricE t s p)) := by
  have s1 := sValid_spec t ht s hs
  have s2 := gvalid_spec p hp
  have htn := ht.nodes
  have hte := ht.edges
  unfold pricE
  by_cases h1 : sValid t s = 0
  rotate_left
  · rw [if_pos h1]
    generalize sValid t s = c at *
    obtain ⟨tn, te⟩ := t
    obtain ⟨sn, se⟩ := s
    obtain ⟨pn, pe⟩ := p
    refine zen Tryz.func62 (by kernel_rfl) rfl Tryz.ntmps62 rfl (by simp) ?_
    refine a_seq ?_
    refine a_reg ?_
    repeat (first | refine gZ pk ?_ | (show AL _ _ _ _ _ _ _; first | refine jB (fun u => ?_)))
    refine zfb 2 3 rfl rfl ?_
    refine zfb 1 4 rfl rfl ?_
    refine zfb 0 5 rfl rfl ?_
    repeat (first | refine gA pk ?_ | (show AL _ _ _ _ _ _ _; first | refine jP s1 ?_))
    refine finQ ?_
    exact ⟨rfl, rfl⟩
  rw [if_neg (Decidable.not_not.2 h1)]
  rw [h1] at s1
  by_cases h2 : gvalid p = 0
  rotate_left
  · rw [if_pos h2]
    generalize gvalid p = c at *
    obtain ⟨tn, te⟩ := t
    obtain ⟨sn, se⟩ := s
    obtain ⟨pn, pe⟩ := p
    refine zen Tryz.func62 (by kernel_rfl) rfl Tryz.ntmps62 rfl (by simp) ?_
    refine a_seq ?_
    refine a_reg ?_
    repeat (first | refine gZ pk ?_ | (show AL _ _ _ _ _ _ _; first | refine jB (fun u => ?_)))
    refine zfb 2 3 rfl rfl ?_
    refine zfb 1 4 rfl rfl ?_
    refine zfb 0 5 rfl rfl ?_
    repeat (first | refine gA pk ?_ | (show AL _ _ _ _ _ _ _; first | refine jP s1 ?_ | refine jP s2 ?_))
    refine finQ ?_
    exact ⟨rfl, rfl⟩
  rw [if_neg (Decidable.not_not.2 h2)]
  rw [h2] at s2
  have hG := gvalid_zero.1 h2
  have hnl := hG.nl
  have hel := hG.el
  clear h1 h2 hG hp hs
  obtain ⟨tn, te⟩ := t
  obtain ⟨sn, se⟩ := s
  obtain ⟨pn, pe⟩ := p
  unfold typT
  simp only at *
  have ltn : (tn.map cNod).length = tn.length := by simp
  have lte : (te.map cEdg).length = te.length := by simp
  have lpn : (rowI pn).length = pn.length := by simp
  have lpe : (pe.map cEd).length = pe.length := by simp
  change Pure _ _ [.agg [nodsA tn, edgsA te], .agg [cntsA sn, cntsA se], .agg [ints pn, edsA pe]] _
  refine zen Tryz.func62 (by kernel_rfl) rfl Tryz.ntmps62 rfl (by simp) ?_
  refine a_seq ?_
  refine a_reg ?_
  repeat (first | refine gZ pk ?_ | (show AL _ _ _ _ _ _ _; first | refine jB (fun u => ?_)))
  refine zfb 2 3 rfl rfl ?_
  refine zfb 1 4 rfl rfl ?_
  refine zfb 0 5 rfl rfl ?_
  repeat (first | refine gA pk ?_ | (show AL _ _ _ _ _ _ _; first | refine jP s1 ?_ | refine jP s2 ?_))
  rw [lpn]
  refine zlx (fun k : Nat => [(3, .ip [nodsA tn, edgsA te]), (5, .ip [ints pn, edsA pe]), (25, ints pn), (26, AI pn.length), (27, AI k)]) (fun _ => []) (fun k => k ≤ pn.length ∧ ∀ x ∈ pn.take k, decide ((tn.length : Int) ≤ x) = false) (fun k => pn.length - k) 0 ⟨Nat.zero_le _, by simp⟩ ?_ (OSub.none _) ?_
  · exact subQ
  rintro k ⟨hk, hq⟩
  rcases Nat.lt_or_ge k pn.length with h | h
  · have hx := List.getElem?_eq_getElem h
    generalize pn[k] = x at hx
    have xk : (rowI pn)[(k : Int).toNat]? = some [AI x] := zmp (f := cI) hx
    by_cases hb : (tn.length : Int) ≤ x
    · rw [any_take_some hx (decide_eq_true hb)]
      repeat (first | refine gA pk ?_ | (show AL _ _ _ _ _ _ _; first | refine jX tok xk ?_))
      refine finQ ?_
      exact ⟨rfl, rfl⟩
    · repeat (first | refine gA pk ?_ | (show AL _ _ _ _ _ _ _; first | refine jX tok xk ?_))
      exact ⟨k + 1, ⟨by omega, take_allI hx hq (decide_eq_false hb)⟩, by omega, by exact subQ, OSub.none _⟩
  · obtain rfl : k = pn.length := by omega
    rw [List.take_length] at hq
    rw [any_none_t hq, Bool.not_false, Bool.true_and]
    clear hq hk h
    repeat (first | refine gA pk ?_)
    rw [lpe]
    refine zlx (fun k : Nat => [(3, .ip [nodsA tn, edgsA te]), (38, edsA pe), (39, AI pe.length), (40, AI k)]) (fun _ => []) (fun k => k ≤ pe.length ∧ ∀ x ∈ pe.take k, decide ((te.length : Int) ≤ x.ty) = false) (fun k => pe.length - k) 0 ⟨Nat.zero_le _, by simp⟩ ?_ (OSub.none _) ?_
    · exact subQ
    rintro k ⟨hk, hq⟩
    rcases Nat.lt_or_ge k pe.length with h | h
    · have hx := List.getElem?_eq_getElem h
      generalize pe[k] = x at hx
      have xk : (pe.map cEd)[(k : Int).toNat]? = some [AI x.ty, AI x.fr, AI x.to] := zmp (f := cEd) hx
      by_cases hb : (te.length : Int) ≤ x.ty
      · rw [any_take_some hx (decide_eq_true hb)]
        repeat (first | refine gA pk ?_ | (show AL _ _ _ _ _ _ _; first | refine jX tok xk ?_ | refine jL tok (fun ux => ?_) | refine jS tok 0 ?_ | refine jO tok 0 ?_))
        refine finQ ?_
        exact ⟨rfl, rfl⟩
      · repeat (first | refine gA pk ?_ | (show AL _ _ _ _ _ _ _; first | refine jX tok xk ?_ | refine jL tok (fun ux => ?_) | refine jS tok 0 ?_ | refine jO tok 0 ?_))
        exact ⟨k + 1, ⟨by omega, take_allI hx hq (decide_eq_false hb)⟩, by omega, by exact subQ, OSub.none _⟩
    · obtain rfl : k = pe.length := by omega
      rw [List.take_length] at hq
      rw [any_none_t hq]
      repeat (first | refine gA pk ?_)
      refine finQ ?_
      exact ⟨rfl, rfl⟩
theorem prc_node {t : Tys} {s : Sta} {p : Gr} (h : Prc t s p) {i : Int} (hi : 0 ≤ i ∧ i < p.nodes.length) : (0 ≤ nodeAt p i ∧ nodeAt p i < t.nodes.length) ∧ nodesR t s (nodeAt p i) = (numN t s p i, 0) := by
  have h1 := typT_of h.gr h.ty _ (nodeAt_mem hi.1 hi.2)
  refine ⟨h1, ?_⟩
  unfold nodesR
  rw [if_neg (Decidable.not_not.2 (sValid_zero.2 h.st)), if_neg (Decidable.not_not.2 h1)]
  rfl
theorem prc_edge {t : Tys} {s : Sta} {p : Gr} (h : Prc t s p) {x : Ed} (hx : x ∈ p.edges) : edgesR t s x.ty (nodeAt p x.fr) (nodeAt p x.to) = (numE t s p x, 0) := by
  have h0 := h.gr.edges x hx
  have h1 := (prc_node h h0.2.1).1
  have h2 := (prc_node h h0.2.2).1
  have h3 := (typT_iff.1 h.ty).2 x hx
  unfold edgesR
  rw [if_neg (Decidable.not_not.2 (sValid_zero.2 h.st)), if_neg (Decidable.not_not.2 ⟨⟨h0.1.1, h3⟩, h1, h2⟩)]
  rfl
theorem estN_spec (t : Tys) (ht : Small t) (s : Sta) (hs : s.nodes.length ≤ 1000 ∧ s.edges.length ≤ 1000) (p : Gr) (h : Prc t s p) (i : Int) (hi : 0 ≤ i ∧ i < p.nodes.length) : Pure Tryz.prog 104 [AI i, tysP t, staP s, grP p] (AI (numN t s p i)) := by
  have s1 := Nodes_spec t ht s hs (nodeAt p i)
  rw [(prc_node h hi).2] at s1
  have hg := nodeAt_get hi.1 hi.2
  have xk : (rowI p.nodes)[i.toNat]? = some [AI (nodeAt p i)] := zmp (f := cI) hg
  have ln : (rowI p.nodes).length = p.nodes.length := by simp
  generalize nodeAt p i = x at *
  generalize numN t s p i = c at *
  obtain ⟨tn, te⟩ := t
  obtain ⟨sn, se⟩ := s
  obtain ⟨pn, pe⟩ := p
  simp only at *
  refine zen Tryz.func104 (by kernel_rfl) rfl Tryz.ntmps104 rfl (by simp) ?_
  repeat (first | refine gN pk ?_)
  refine zrg ((List.range 13).map fun i => if inL [7] i = true then .eff else if inL [0, 1, 3, 5, 6] i = true then .read else .pure) [] [0, 1, 2, 3, 4, 5, 6, 7, 8, 9, 10, 11, 12] .stop mixed rfl rfl (by decide +kernel) ?_
  repeat' (first | (with_reducible show AG _ _ _ _ _ _ _ _ _ _; first | exact zgn | refine zgs ?_ | refine znd ?_ ?_) | (show AMid _ _ _ _; first | refine zmf ?_ | refine zmg (by first | exact OSub.refl _ | exact .drop (OSub.refl _) | exact .drop (.drop (OSub.refl _))) ?_) | refine gY pk ?_ | (show AL _ _ _ _ _ _ _; first | refine jX tok xk ?_ | refine jP s1 ?_) | fail)
  repeat (first | refine gA pk ?_)
  refine finQ ?_
  exact ⟨rfl, rfl⟩
theorem estimate_spec (t : Tys) (ht : Small t) (s : Sta) (hs : s.nodes.length ≤ 1000 ∧ s.edges.length ≤ 1000) (p : Gr) (h : Prc t s p) (k : Kn) (hk : KnOk p k) (o : Opn) (ho : opE p k o = 0) (n : Int) (hn : 0 ≤ n ∧ n ≤ 1000000000) :
    Pure Tryz.prog 64 [tysA t, staA s, grA p, knA k, .agg (cOp o), AI n] (AI (estK t s p k n o)) := by
  obtain ⟨kind, el⟩ := o
  have hN := fun i hi => estN_spec t ht s hs p h i hi
  have hb := fun i => numN_nn h.st p i
  unfold estK
  simp only
  rcases opE_zero ho with ⟨h1, h2, h3⟩ | ⟨h1, h2, h3⟩
  · simp only at h1 h2
    subst h1
    rw [if_pos rfl]
    have s1 := hN el h2
    have b1 := hb el
    unfold capC
    generalize numN t s p el = c at *
    have b2 : 0 ≤ n * c ∧ n * c ≤ 40000000000 := ⟨Int.mul_nonneg hn.1 b1.1, by have := Int.mul_le_mul hn.2 b1.2 b1.1 (by omega); omega⟩
    obtain ⟨tn, te⟩ := t
    obtain ⟨sn, se⟩ := s
    obtain ⟨pn, pe⟩ := p
    obtain ⟨kn, ke⟩ := k
    change Pure _ _ [.agg [nodsA tn, edgsA te], .agg [cntsA sn, cntsA se], .agg [ints pn, edsA pe], .agg [boolsA kn, boolsA ke], .agg [AI 1, AI el], AI n] _
    refine zen Tryz.func64 (by kernel_rfl) rfl Tryz.ntmps64 rfl (by simp) ?_
    refine a_seq ?_
    refine a_reg ?_
    repeat (first | refine gZ pk ?_ | (show AL _ _ _ _ _ _ _; first | refine jB (fun u => ?_)))
    refine zfb 4 6 rfl rfl ?_
    refine zfb 3 7 rfl rfl ?_
    refine zfb 2 8 rfl rfl ?_
    refine zfb 1 9 rfl rfl ?_
    refine zfb 0 10 rfl rfl ?_
    repeat (first | refine gA pk ?_ | (show AL _ _ _ _ _ _ _; first | refine jP s1 ?_ | refine s_min2 rfl rfl rfl rfl rfl rfl ?_))
    refine finQ ?_
    exact ⟨rfl, rfl⟩
  · simp only at h1 h2
    rw [if_neg (by omega)]
    have hx := List.getElem?_eq_getElem (l := p.edges) (i := el.toNat) (by omega)
    have hxm := List.getElem_mem (l := p.edges) (n := el.toNat) (by omega)
    have hxe := h.gr.edges _ hxm
    have hxE := prc_edge h hxm
    generalize p.edges[el.toNat]'(by omega) = x at *
    have hxp : edP p el = x := by
      unfold edP
      rw [List.getD_eq_getElem?_getD, hx]
      rfl
    rw [hxp]
    have sE := Edges_spec t ht s hs x.ty (nodeAt p x.fr) (nodeAt p x.to)
    rw [hxE] at sE
    have hE := numE_nn h.st p x
    obtain ⟨xt, xf, xo⟩ := x
    simp only at *
    have xk : (p.edges.map cEd)[el.toNat]? = some [AI xt, AI xf, AI xo] := zmp (f := cEd) hx
    have nf : (rowI p.nodes)[xf.toNat]? = some [AI (nodeAt p xf)] := zmp (f := cI) (nodeAt_get hxe.2.1.1 hxe.2.1.2)
    have nt : (rowI p.nodes)[xo.toNat]? = some [AI (nodeAt p xo)] := zmp (f := cI) (nodeAt_get hxe.2.2.1 hxe.2.2.2)
    have sf := hN xf hxe.2.1
    have so := hN xo hxe.2.2
    have bf := hb xf
    have bo := hb xo
    have kf := bl_get (l := k.ns) (i := xf) (by rw [hk.nl]; omega)
    change _ = some [AB (nodK k xf)] at kf
    generalize nodK k xf = kb at *
    generalize numE t s p ⟨xt, xf, xo⟩ = c at *
    generalize numN t s p xf = cf at *
    generalize numN t s p xo = co at *
    generalize nodeAt p xf = af at *
    generalize nodeAt p xo = ao at *
    have b2 : 0 ≤ n * c ∧ n * c ≤ 80000000000 := ⟨Int.mul_nonneg hn.1 hE.1, by have := Int.mul_le_mul hn.2 hE.2 hE.1 (by omega); omega⟩
    have hov : ∀ a b : Int, 0 ≤ a ∧ a ≤ 80000000000 → 0 ≤ b ∧ b ≤ 40 → 0 ≤ over a b ∧ over a b ≤ 80000000040 := fun a b ha hb => by
      refine ⟨over_nn ha.1 hb.1, ?_⟩
      unfold over
      split
      · omega
      · have := Int.ediv_le_self b (show 0 ≤ a + b - 1 by omega)
        omega
    have o1 := over_spec (n * c) cf (by omega) (by omega)
    have o2 := over_spec (n * c) co (by omega) (by omega)
    have v1 := hov (n * c) cf b2 bf
    have v2 := hov (n * c) co b2 bo
    have o3 := over_spec (over (n * c) cf) co (by omega) (by omega)
    have lpn : (rowI p.nodes).length = p.nodes.length := by simp
    have lpe : (p.edges.map cEd).length = p.edges.length := by simp
    have lkn : (k.ns.map cB).length = p.nodes.length := by rw [List.length_map, hk.nl]
    unfold capC
    clear hx hxm hxE hxp hN hb hov h3
    obtain ⟨tn, te⟩ := t
    obtain ⟨sn, se⟩ := s
    obtain ⟨pn, pe⟩ := p
    obtain ⟨kn, ke⟩ := k
    simp only at *
    change Pure _ _ [.agg [nodsA tn, edgsA te], .agg [cntsA sn, cntsA se], .agg [ints pn, edsA pe], .agg [boolsA kn, boolsA ke], .agg [AI kind, AI el], AI n] _
    rcases h1 with rfl | rfl
    · rw [if_neg (by decide)]
      cases kb
      all_goals
        refine zen Tryz.func64 (by kernel_rfl) rfl Tryz.ntmps64 rfl (by simp) ?_
        refine a_seq ?_
        refine a_reg ?_
        repeat (first | refine gZ pk ?_ | (show AL _ _ _ _ _ _ _; first | refine jB (fun u => ?_)))
        refine zfb 4 6 rfl rfl ?_
        refine zfb 3 7 rfl rfl ?_
        refine zfb 2 8 rfl rfl ?_
        refine zfb 1 9 rfl rfl ?_
        refine zfb 0 10 rfl rfl ?_
        repeat (first | refine gN pk ?_ | (show AL _ _ _ _ _ _ _; first | refine jX tok xk ?_ | refine jL tok (fun ux => ?_) | refine jS tok 0 ?_))
        refine zfb 0 14 rfl rfl ?_
        refine zrg ((List.range 22).map fun i => if inL [16] i = true then .eff else if inL [0, 1, 3, 5, 7, 8, 9, 11, 13, 14, 15] i = true then .read else .pure) [] [0, 1, 2, 3, 4, 5, 6, 7, 8, 9, 10, 11, 12, 13, 14, 15, 16, 17, 18, 19, 20, 21] .stop mixed rfl rfl (by decide +kernel) ?_
        repeat' (first | (with_reducible show AG _ _ _ _ _ _ _ _ _ _; first | exact zgn | refine zgs ?_ | refine znd ?_ ?_) | (show AMid _ _ _ _; first | refine zmf ?_ | refine zmg (by first | exact OSub.refl _ | exact .drop (OSub.refl _) | exact .drop (.drop (OSub.refl _))) ?_) | refine gY pk ?_ | (show AL _ _ _ _ _ _ _; first | refine jX tok nf ?_ | refine jX tok nt ?_ | refine jP sE ?_) | fail)
        repeat (first | refine gA pk ?_ | (show AL _ _ _ _ _ _ _; first | refine jX tok kf ?_ | refine jP sf ?_ | refine jP so ?_ | refine jP o1 ?_ | refine jP o2 ?_ | refine s_min2 rfl rfl rfl rfl rfl rfl ?_))
        refine finQ ?_
        exact ⟨rfl, rfl⟩
    · rw [if_pos rfl]
      refine zen Tryz.func64 (by kernel_rfl) rfl Tryz.ntmps64 rfl (by simp) ?_
      refine a_seq ?_
      refine a_reg ?_
      repeat (first | refine gZ pk ?_ | (show AL _ _ _ _ _ _ _; first | refine jB (fun u => ?_)))
      refine zfb 4 6 rfl rfl ?_
      refine zfb 3 7 rfl rfl ?_
      refine zfb 2 8 rfl rfl ?_
      refine zfb 1 9 rfl rfl ?_
      refine zfb 0 10 rfl rfl ?_
      repeat (first | refine gN pk ?_ | (show AL _ _ _ _ _ _ _; first | refine jX tok xk ?_ | refine jL tok (fun ux => ?_) | refine jS tok 0 ?_))
      refine zfb 0 14 rfl rfl ?_
      refine zrg ((List.range 22).map fun i => if inL [16] i = true then .eff else if inL [0, 1, 3, 5, 7, 8, 9, 11, 13, 14, 15] i = true then .read else .pure) [] [0, 1, 2, 3, 4, 5, 6, 7, 8, 9, 10, 11, 12, 13, 14, 15, 16, 17, 18, 19, 20, 21] .stop mixed rfl rfl (by decide +kernel) ?_
      repeat' (first | (with_reducible show AG _ _ _ _ _ _ _ _ _ _; first | exact zgn | refine zgs ?_ | refine znd ?_ ?_) | (show AMid _ _ _ _; first | refine zmf ?_ | refine zmg (by first | exact OSub.refl _ | exact .drop (OSub.refl _) | exact .drop (.drop (OSub.refl _))) ?_) | refine gY pk ?_ | (show AL _ _ _ _ _ _ _; first | refine jX tok nf ?_ | refine jX tok nt ?_ | refine jP sE ?_) | fail)
      repeat (first | refine gN pk ?_)
      refine zrg ((List.range 12).map fun i => if inL [4, 5, 9, 10] i = true then .eff else if inL [3, 8] i = true then .read else .pure) [4, 5] [0, 1, 2, 3, 6, 7, 8] (.nd 4 [] (.nd 5 [9, 10, 11] .stop .stop) .stop) mixed rfl rfl (by decide +kernel) ?_
      repeat' (first | (with_reducible show AG _ _ _ _ _ _ _ _ _ _; first | exact zgn | refine zgs ?_ | refine znd ?_ ?_) | (show AMid _ _ _ _; first | refine zmf ?_ | refine zmg (by first | exact OSub.refl _ | exact .drop (OSub.refl _) | exact .drop (.drop (OSub.refl _))) ?_) | refine gY pk ?_ | (show AL _ _ _ _ _ _ _; first | refine jP sf ?_ | refine jP so ?_ | refine jP o1 ?_ | refine jP o3 ?_) | fail)
      repeat (first | refine gA pk ?_ | (show AL _ _ _ _ _ _ _; first | refine s_min2 rfl rfl rfl rfl rfl rfl ?_))
      refine finQ ?_
      exact ⟨rfl, rfl⟩
theorem cost_spec (t : Tys) (ht : Small t) (s : Sta) (hs : s.nodes.length ≤ 1000 ∧ s.edges.length ≤ 1000) (p : Gr) (hp : OkG p) (l : List Opn) (hl : l.length ≤ 1000) :
    Pure Tryz.prog 24 [tysA t, staA s, grA p, opsA l] (.tup [AI (costR t s p l).1, AI (costR t s p l).2]) := by
  have s1 := priced_spec t ht s hs p hp
  unfold costR
  by_cases h1 : pricE t s p = 0
  rotate_left
  · rw [if_pos h1]
    generalize pricE t s p = c at *
    obtain ⟨tn, te⟩ := t
    obtain ⟨sn, se⟩ := s
    obtain ⟨pn, pe⟩ := p
    refine zen Tryz.func24 (by kernel_rfl) rfl Tryz.ntmps24 rfl (by simp) ?_
    refine a_seq ?_
    refine a_reg ?_
    repeat (first | refine gZ pk ?_ | (show AL _ _ _ _ _ _ _; first | refine jB (fun u => ?_)))
    refine zfb 2 4 rfl rfl ?_
    refine zfb 1 5 rfl rfl ?_
    refine zfb 0 6 rfl rfl ?_
    repeat (first | refine gA pk ?_ | (show AL _ _ _ _ _ _ _; first | refine jP s1 ?_))
    refine finQ ?_
    exact ⟨rfl, rfl⟩
  rw [if_neg (Decidable.not_not.2 h1)]
  rw [h1] at s1
  have hP := pricE_zero.1 h1
  have s2 := planned_spec p hP.gr l hl
  by_cases h2 : planE p (kn0 p) l = 0
  rotate_left
  · rw [if_pos h2]
    generalize planE p (kn0 p) l = c at *
    obtain ⟨tn, te⟩ := t
    obtain ⟨sn, se⟩ := s
    obtain ⟨pn, pe⟩ := p
    refine zen Tryz.func24 (by kernel_rfl) rfl Tryz.ntmps24 rfl (by simp) ?_
    refine a_seq ?_
    refine a_reg ?_
    repeat (first | refine gZ pk ?_ | (show AL _ _ _ _ _ _ _; first | refine jB (fun u => ?_)))
    refine zfb 2 4 rfl rfl ?_
    refine zfb 1 5 rfl rfl ?_
    refine zfb 0 6 rfl rfl ?_
    repeat (first | refine gA pk ?_ | (show AL _ _ _ _ _ _ _; first | refine jP s1 ?_ | refine jP s2 ?_))
    refine finQ ?_
    exact ⟨rfl, rfl⟩
  rw [if_neg (Decidable.not_not.2 h2)]
  rw [h2] at s2
  have hnl := hP.gr.nl
  have hel := hP.gr.el
  have su := unknown_spec p (by omega) (by omega)
  have ss := fun k hk o v1 v2 => step_spec p hP.gr k hk o v1 v2
  have sE := fun (k : Kn) (hk : KnOk p k) o ho n hn (v1 v2 : Value) => ACalls.lendA (L := knO v1 v2 k) (args' := [tysA t, staA s, grA p, .agg [.lit v1, .lit v2], .agg (cOp o), AI n]) (estimate_spec t ht s hs p hP k hk o ho n hn) ⟨FV.refl _, FV.refl _, FV.refl _, FV.agg ⟨FV.row (E := 4) (by simp), FV.row (E := 4) (by simp), trivial⟩, FV.refl _, FV.refl _, trivial⟩ ai_free
  have hen := fun (k : Kn) (n : Int) (o : Opn) hn => est_nn hP.st (p := p) (k := k) (n := n) (o := o) hn
  have hcu := fun (c z : Int) h1 h2 => capC_up (c := c) (z := z) h1 h2
  have ll : (l.map cOp).length = l.length := by simp
  obtain ⟨F, hF⟩ : ∃ F, (fun k n c l => costS t s p k n c l) = F := ⟨_, rfl⟩
  have hc : costL t s p l = F (kn0 p) 1 0 l := by rw [← hF]; rfl
  have hstep : ∀ k n c o l, F k n c (o :: l) = F (aftK p k o) (estK t s p k n o) (capC (c + estK t s p k n o)) l := fun k n c o l => by rw [← hF]; rfl
  have hnil : ∀ k n c, F k n c [] = c := fun k n c => by rw [← hF]; rfl
  rw [hc]
  clear hF hc h1 hP
  generalize hEst : estK t s p = est at *
  obtain ⟨tn, te⟩ := t
  obtain ⟨sn, se⟩ := s
  obtain ⟨pn, pe⟩ := p
  change Pure _ _ [.agg [nodsA tn, edgsA te], .agg [cntsA sn, cntsA se], .agg [ints pn, edsA pe], opsA l] _
  refine zen Tryz.func24 (by kernel_rfl) rfl Tryz.ntmps24 rfl (by simp) ?_
  refine a_seq ?_
  refine a_reg ?_
  repeat (first | refine gZ pk ?_ | (show AL _ _ _ _ _ _ _; first | refine jB (fun u => ?_)))
  refine zfb 2 4 rfl rfl ?_
  refine zfb 1 5 rfl rfl ?_
  refine zfb 0 6 rfl rfl ?_
  repeat (first | refine gA pk ?_ | (show AL _ _ _ _ _ _ _; first | refine jP s1 ?_ | refine jP s2 ?_ | refine zsc (Lc := []) (Lr := []) rfl rfl rfl rfl rfl su (SubL.of_eq rfl) (List.Perm.refl _) ?_; rintro _ _ ⟨v1, v2, hv1, hv2, rfl, rfl⟩ | refine jL tok (fun uk => ?_) | refine s_store (a := .agg [.lit v1, .lit v2]) tok 0 rfl rfl rfl rfl rfl rfl (by simp [AV.storable, AV.cell, hv1, hv2]) rfl (by decide) rfl rfl rfl (Nat.le_of_ble_eq_true rfl) ?_))
  rw [ll]
  refine zfb 0 11 rfl rfl ?_
  refine a_loopG3 (fun (i : Nat) (k : Kn) (z : Int × Int) => [(4, .ip [nodsA tn, edgsA te]), (5, .ip [cntsA sn, cntsA se]), (6, .ip [ints pn, edsA pe]), (11, .ip [.lit v1, .lit v2]), (12, AI z.1), (13, AI z.2), (30, opsA l), (31, AI l.length), (32, AI i)]) (fun i k _ => knO v1 v2 k) (fun i k z => i ≤ l.length ∧ KnOk ⟨pn, pe⟩ k ∧ planE ⟨pn, pe⟩ k (l.drop i) = 0 ∧ (0 ≤ z.1 ∧ z.1 ≤ 1000000000) ∧ (0 ≤ z.2 ∧ z.2 ≤ 1000000000) ∧ F (kn0 ⟨pn, pe⟩) 1 0 l = F k z.1 z.2 (l.drop i)) (fun i _ _ => l.length - i) 0 (kn0 ⟨pn, pe⟩) (1, 0) ⟨Nat.zero_le _, kn0_ok _, h2, by simp, by simp, rfl⟩ (.sub (by exact subQ) (OSub.refl _)) ?_
  rintro i k ⟨n, c⟩ ⟨hi, hk, hpl, hn, hcc, he⟩
  simp only at hn hcc he
  rw [he]
  rcases Nat.lt_or_ge i l.length with h | h
  · have h1 := List.getElem?_eq_getElem h
    rw [List.drop_eq_getElem_cons h] at he hpl ⊢
    generalize l[i] = o at *
    have xk : (l.map cOp)[(i : Int).toNat]? = some [AI o.kind, AI o.el] := zmp (f := cOp) h1
    rw [show planE ⟨pn, pe⟩ k (o :: l.drop (i + 1)) = if opE ⟨pn, pe⟩ k o ≠ 0 then opE ⟨pn, pe⟩ k o else planE ⟨pn, pe⟩ (aftK ⟨pn, pe⟩ k o) (l.drop (i + 1)) from rfl] at hpl
    by_cases hop : opE ⟨pn, pe⟩ k o = 0
    rotate_left
    · rw [if_pos hop] at hpl
      exact absurd hpl hop
    · rw [if_neg (Decidable.not_not.2 hop)] at hpl
      have s3 := ss k hk o v1 v2
      rw [hop, if_pos rfl] at s3
      have s4 := sE k hk o hop n hn v1 v2
      have e1 := hen k n o hn.1
      rw [hstep] at he ⊢
      generalize est k n o = e at *
      have e2 := hcu c e hcc.2 e1.1
      unfold capC at he e2 ⊢
      change ACalls _ _ [_, _, .agg [AI o.kind, AI o.el]] _ _ at s3
      change ACalls _ _ [.agg [nodsA tn, edgsA te], .agg [cntsA sn, cntsA se], .agg [ints pn, edsA pe], _, .agg [AI o.kind, AI o.el], _] _ _ at s4
      repeat (first | refine gA pk ?_ | (show AL _ _ _ _ _ _ _; first | refine jX tok xk ?_ | refine jL tok (fun uo => ?_) | refine jS tok 0 ?_ | refine jO tok 0 ?_ | refine zsc (Lc := knO v1 v2 k) (Lr := [(uo, .box [AI o.kind, AI o.el])]) rfl rfl rfl rfl rfl s4 (SubL.of_eq rfl) (perm_r _ _ _) ?_; rintro _ _ ⟨⟨rfl, -⟩, rfl⟩ | refine jO tok 2 ?_ | refine s_min2 rfl rfl rfl rfl rfl rfl ?_ | refine zsc (Lc := knO v1 v2 k) (Lr := [(uo, .box [AI o.kind, AI o.el])]) rfl rfl rfl rfl rfl s3 (SubL.of_eq rfl) (List.Perm.refl _) ?_; rintro _ _ ⟨rfl, rfl⟩))
      exact ⟨i + 1, aftK ⟨pn, pe⟩ k o, (e, min (c + e) 1000000000), ⟨by omega, aftK_ok hk o, hpl, e1, by simp only; omega, rfl⟩, by omega, .sub (by exact subQ) (.keep (.keep (.drop .nil)))⟩
  · obtain rfl : i = l.length := by omega
    rw [List.drop_length, hnil]
    repeat (first | refine gA pk ?_)
    refine finQ ?_
    exact ⟨rfl, rfl⟩
end Go.Proofs.YtimfponihbfimaaGreat
end
