/-
  The statistic of a graph: the walks. Conditions: small type graphs.
-/
import Derived.Test.YtcacbdohlfljfaaGreatSjQ8
import Derived.Test.YtcacbdohlfljfaaGreatZ8
import Derived.Test.YtcacbdohlfljfaaGreatSjQN
namespace Go.Proofs.YtcacbdohlfljfaaGreat
open Go.Sj Go.Sj.Typ Go.Sj.Sta
set_option linter.unusedVariables false
set_option linter.unusedSimpArgs false
set_option maxHeartbeats 8000000

abbrev SN0 : AV := .lit (.slice none 0 0)
theorem nil_cnts : Sub SN0 (cntsA []) := Sub.nil 4
theorem smN_sm {c : Cnt} (h : smN c) : smC c := by unfold smN at h; unfold smC; omega
theorem Of_spec (t : Tys) (ht : Small t) (g : Gr) (hg : OkG g) : Pure Tryz.prog 13 [tysA t, grA g] (.tup [staA (ofR t g).1, AI (ofR t g).2]) := by
  have ln : (rowI g.nodes).length = g.nodes.length := by simp
  have le : (g.edges.map cEd).length = g.edges.length := by simp
  have s1 := typed_spec t ht g hg
  unfold ofR
  by_cases he : typedE t g = 0
  · have hT := typedE_zero.1 he
    have hG := hT.graph
    have hg1 := hG.nl
    have hg2 := hG.el
    rw [he] at s1
    rw [if_neg (Decidable.not_not.2 he)]
    refine a_enterM (rs := [.cell 4 35, .tmp 5]) tok Tryz.func13 (by kernel_rfl) rfl Tryz.ntmps13 rfl (by decide) (by simp) ?_
    refine a_seq ?_
    refine a_reg ?_
    repeat (first | refine gZ pk ?_ | (show AL _ _ _ _ _ _ _; first | refine jB (fun u => ?_) | refine jL tok (fun u4 => ?_)))
    refine a_frzBox 1 3 rfl rfl ?_
    refine a_frzBox 1 2 rfl rfl ?_
    repeat (first | refine gA pk ?_ | (show AL _ _ _ _ _ _ _; first | refine jP s1 ?_ | refine jL tok (fun u7 => ?_)))
    rw [ln]
    refine a_loopG (fun k : Nat => [(3, grP g), (4, .pt u4 0 0 0), (7, .pt u7 0 0 0), (20, ints g.nodes), (21, AI g.nodes.length), (22, AI k)]) (fun k => [(u7, .box [cntsA (ofN g (g.nodes.take k)), SN0]), (u4, .box [SN0, SN0])]) (fun k => k ≤ g.nodes.length) (fun k => g.nodes.length - k) 0 (Nat.zero_le _) (GoTo.weak (by exact subQ) ⟨rfl, ⟨nil_cnts, Sub.refl _, trivial⟩, rfl, ⟨Sub.refl _, Sub.refl _, trivial⟩, trivial⟩) ?_
    intro k hk
    rcases Nat.lt_or_ge k g.nodes.length with h | h
    · have hx := List.getElem?_eq_getElem h
      generalize g.nodes[k] = y at hx
      have xk : (rowI g.nodes)[(k : Int).toNat]? = some [AI y] := map_get (f := cI) hx
      have hlen : (ofN g (g.nodes.take k)).length ≤ 40 := by have := ofN_len g (g.nodes.take k); rw [List.length_take] at this; omega
      have hm := ofN_small g (l := g.nodes.take k) (fun n hn => hG.nodes n (List.mem_of_mem_take hn)) (by rw [List.length_take]; omega)
      have hsn := ofN_snoc g hx
      have s2 := counted_spec (ofN g (g.nodes.take k)) (ofN_srt g _) (by omega) (fun c hc => ⟨smN_sm (hm c hc).1, by have := (hm c hc).2; omega, by have := (hm c hc).2; omega⟩) ⟨y, 0, 0, 1⟩ (by have := hG.nodes _ (List.mem_of_getElem? hx); unfold smC; simp only; omega)
      repeat (first | refine gA pk ?_ | (show AL _ _ _ _ _ _ _; first | refine jX tok xk ?_ | refine jO tok 0 ?_ | refine jP s2 ?_ | refine jS tok 0 ?_))
      refine ⟨k + 1, by omega, by omega, GoTo.sub (by exact subQ) ?_⟩
      rw [hsn]
      exact OSub.refl _
    · obtain rfl : k = g.nodes.length := by omega
      rw [List.take_length]
      repeat (first | refine gA pk ?_)
      rw [le]
      refine a_loopG (fun k : Nat => [(3, grP g), (4, .pt u4 0 0 0), (7, .pt u7 0 0 0), (34, edsA g.edges), (35, AI g.edges.length), (36, AI k)]) (fun k => [(u7, .box [cntsA (ofN g g.nodes), cntsA (ofE g (g.edges.take k))]), (u4, .box [SN0, SN0])]) (fun k => k ≤ g.edges.length) (fun k => g.edges.length - k) 0 (Nat.zero_le _) (GoTo.weak (by exact subQ) ⟨rfl, ⟨Sub.refl _, nil_cnts, trivial⟩, rfl, ⟨Sub.refl _, Sub.refl _, trivial⟩, trivial⟩) ?_
      intro k hk
      rcases Nat.lt_or_ge k g.edges.length with h | h
      · have hx := List.getElem?_eq_getElem h
        have hed := hG.edges _ (List.getElem_mem h)
        have hsn := ofE_snoc g hx
        generalize g.edges[k] = y at hx hed hsn
        obtain ⟨c1, c2, c3⟩ := y
        simp only at hed
        have xk : (g.edges.map cEd)[(k : Int).toNat]? = some [AI c1, AI c2, AI c3] := map_get (f := cEd) hx
        have xa : (rowI g.nodes)[c2.toNat]? = some [AI (nodeAt g c2)] := map_get (f := cI) (nodeAt_get hed.2.1.1 hed.2.1.2)
        have xb : (rowI g.nodes)[c3.toNat]? = some [AI (nodeAt g c3)] := map_get (f := cI) (nodeAt_get hed.2.2.1 hed.2.2.2)
        have ra := hG.nodes _ (nodeAt_mem (g := g) hed.2.1.1 hed.2.1.2)
        have rb := hG.nodes _ (nodeAt_mem (g := g) hed.2.2.1 hed.2.2.2)
        have hlen : (ofE g (g.edges.take k)).length ≤ 80 := by have := ofE_len g (g.edges.take k); rw [List.length_take] at this; omega
        have hm := ofE_small g (l := g.edges.take k) (fun e he => by
          have h5 := hG.edges e (List.mem_of_mem_take he)
          exact ⟨h5.1, hG.nodes _ (nodeAt_mem h5.2.1.1 h5.2.1.2), hG.nodes _ (nodeAt_mem h5.2.2.1 h5.2.2.2)⟩) (by rw [List.length_take]; omega)
        have hsn : ofE g (g.edges.take (k + 1)) = addC (ofE g (g.edges.take k)) ⟨c1, nodeAt g c2, nodeAt g c3, 1⟩ := hsn
        generalize nodeAt g c2 = na at *
        generalize nodeAt g c3 = nb at *
        have s2 := counted_spec (ofE g (g.edges.take k)) (ofE_srt g _) (by omega) (fun c hc => ⟨smN_sm (hm c hc).1, by have := (hm c hc).2; omega, by have := (hm c hc).2; omega⟩) ⟨c1, na, nb, 1⟩ (by unfold smC; simp only; omega)
        repeat (first | refine gN pk ?_ | (show AL _ _ _ _ _ _ _; first | refine jX tok xk ?_ | refine jL tok (fun u => ?_) | refine jS tok 0 ?_ | refine jO tok 0 ?_))
        refine a_frzBox 0 11 rfl rfl ?_
        refine a_regRO [0, 1, 2, 3, 4, 5, 6, 7, 8, 9, 10, 11, 12, 13, 14, 15, 16, 17, 18, 19] mixed rfl rfl (by decide +kernel) ?_
        repeat (first | refine gY pk ?_ | (show AL _ _ _ _ _ _ _; first | refine jX tok xa ?_ | refine jX tok xb ?_ | refine jO tok 0 ?_ | refine jP s2 ?_ | refine jS tok 0 ?_))
        repeat (first | refine gA pk ?_)
        refine ⟨k + 1, by omega, by omega, GoTo.sub (by exact subQ) ?_⟩
        rw [hsn]
        exact OSub.refl _
      · obtain rfl : k = g.edges.length := by omega
        rw [List.take_length]
        repeat (first | refine gV pk ?_ | (show AL _ _ _ _ _ _ _; first | refine jO tok 0 ?_ | refine jS tok 1 ?_))
        refine a_frzBox 1 4 rfl rfl ?_
        refine a_ret ?_
        exact ⟨.inr rfl, _, _, [], rfl, Turn.of (Sub.refl _) (OSub.none _), rfl, rfl⟩
  · rw [if_pos he]
    generalize typedE t g = e at *
    refine a_enterM (rs := [.cell 4 35, .tmp 5]) tok Tryz.func13 (by kernel_rfl) rfl Tryz.ntmps13 rfl (by decide) (by simp) ?_
    refine a_seq ?_
    refine a_reg ?_
    repeat (first | refine gZ pk ?_ | (show AL _ _ _ _ _ _ _; first | refine jB (fun u => ?_) | refine jL tok (fun u4 => ?_)))
    refine a_frzBox 1 3 rfl rfl ?_
    refine a_frzBox 1 2 rfl rfl ?_
    repeat (first | refine gV pk ?_ | (show AL _ _ _ _ _ _ _; first | refine jP s1 ?_ | refine jS tok 0 ?_))
    refine a_frzBox 0 4 rfl rfl ?_
    refine a_ret ?_
    exact ⟨.inr rfl, _, .tup [staA ⟨[], []⟩, AI e], [], rfl, Turn.of (Sub.tup (l := [.agg [SN0, SN0], AI e]) ⟨Sub.agg (m := [cntsA [], cntsA []]) ⟨nil_cnts, nil_cnts, trivial⟩, Sub.refl _, trivial⟩) (OSub.none _), rfl, rfl⟩
theorem refOf_spec (t : Tys) (ht : Small t) (g : Gr) (hg : OkG g) : Pure Tryz.prog 14 [tysA t, grA g] (.tup [staA (ofR t g).1, AI (ofR t g).2]) := by
  have ln : (rowI g.nodes).length = g.nodes.length := by simp
  have le : (g.edges.map cEd).length = g.edges.length := by simp
  have s1 := refTyped_spec t ht g hg
  unfold ofR
  by_cases he : typedE t g = 0
  · have hT := typedE_zero.1 he
    have hG := hT.graph
    have hg1 := hG.nl
    have hg2 := hG.el
    rw [he] at s1
    rw [if_neg (Decidable.not_not.2 he)]
    refine a_enterM (rs := [.cell 4 35, .tmp 5]) tok Tryz.func14 (by kernel_rfl) rfl Tryz.ntmps14 rfl (by decide) (by simp) ?_
    refine a_seq ?_
    refine a_reg ?_
    repeat (first | refine gZ pk ?_ | (show AL _ _ _ _ _ _ _; first | refine jB (fun u => ?_) | refine jL tok (fun u4 => ?_)))
    refine a_frzBox 1 3 rfl rfl ?_
    refine a_frzBox 1 2 rfl rfl ?_
    repeat (first | refine gA pk ?_ | (show AL _ _ _ _ _ _ _; first | refine jP s1 ?_ | refine jL tok (fun u7 => ?_)))
    refine a_loopG (fun k : Nat => [(3, grP g), (4, .pt u4 0 0 0), (7, .pt u7 0 0 0), (8, AI k)]) (fun k => [(u7, .box [cntsA (ofN g (g.nodes.take k)), SN0]), (u4, .box [SN0, SN0])]) (fun k => k ≤ g.nodes.length) (fun k => g.nodes.length - k) 0 (Nat.zero_le _) (GoTo.weak (by exact subQ) ⟨rfl, ⟨nil_cnts, Sub.refl _, trivial⟩, rfl, ⟨Sub.refl _, Sub.refl _, trivial⟩, trivial⟩) ?_
    intro k hk
    rcases Nat.lt_or_ge k g.nodes.length with h | h
    · have hx := List.getElem?_eq_getElem h
      generalize g.nodes[k] = y at hx
      have xk : (rowI g.nodes)[(k : Int).toNat]? = some [AI y] := map_get (f := cI) hx
      have hlen : (ofN g (g.nodes.take k)).length ≤ 40 := by have := ofN_len g (g.nodes.take k); rw [List.length_take] at this; omega
      have hm := ofN_small g (l := g.nodes.take k) (fun n hn => hG.nodes n (List.mem_of_mem_take hn)) (by rw [List.length_take]; omega)
      have hsn := ofN_snoc g hx
      have s2 := refchange_spec (ofN g (g.nodes.take k)) (ofN_srt g _) (by omega) (fun c hc => ⟨smN_sm (hm c hc).1, (hm c hc).2⟩) y 0 0 0 1 (by have := hG.nodes _ (List.mem_of_getElem? hx); unfold smC; simp only; omega) (.inl rfl)
      repeat (first | refine gN pk ?_)
      refine a_regRO [0, 1, 2, 3, 4, 5, 6, 7, 8, 9, 10] mixed rfl rfl (by decide +kernel) ?_
      repeat (first | refine gY pk ?_ | (show AL _ _ _ _ _ _ _; first | refine jX tok xk ?_ | refine jO tok 0 ?_ | refine jP s2 ?_ | refine jS tok 0 ?_))
      repeat (first | refine gA pk ?_)
      refine ⟨k + 1, by omega, by omega, GoTo.sub (by exact subQ) ?_⟩
      rw [hsn]
      exact OSub.refl _
    · obtain rfl : k = g.nodes.length := by omega
      rw [List.take_length]
      repeat (first | refine gA pk ?_)
      refine a_loopG (fun k : Nat => [(3, grP g), (4, .pt u4 0 0 0), (7, .pt u7 0 0 0), (9, AI k)]) (fun k => [(u7, .box [cntsA (ofN g g.nodes), cntsA (ofE g (g.edges.take k))]), (u4, .box [SN0, SN0])]) (fun k => k ≤ g.edges.length) (fun k => g.edges.length - k) 0 (Nat.zero_le _) (GoTo.weak (by exact subQ) ⟨rfl, ⟨Sub.refl _, nil_cnts, trivial⟩, rfl, ⟨Sub.refl _, Sub.refl _, trivial⟩, trivial⟩) ?_
      intro k hk
      rcases Nat.lt_or_ge k g.edges.length with h | h
      · have hx := List.getElem?_eq_getElem h
        have hed := hG.edges _ (List.getElem_mem h)
        have hsn := ofE_snoc g hx
        generalize g.edges[k] = y at hx hed hsn
        obtain ⟨c1, c2, c3⟩ := y
        simp only at hed
        have xk : (g.edges.map cEd)[(k : Int).toNat]? = some [AI c1, AI c2, AI c3] := map_get (f := cEd) hx
        have xa : (rowI g.nodes)[c2.toNat]? = some [AI (nodeAt g c2)] := map_get (f := cI) (nodeAt_get hed.2.1.1 hed.2.1.2)
        have xb : (rowI g.nodes)[c3.toNat]? = some [AI (nodeAt g c3)] := map_get (f := cI) (nodeAt_get hed.2.2.1 hed.2.2.2)
        have ra := hG.nodes _ (nodeAt_mem (g := g) hed.2.1.1 hed.2.1.2)
        have rb := hG.nodes _ (nodeAt_mem (g := g) hed.2.2.1 hed.2.2.2)
        have hlen : (ofE g (g.edges.take k)).length ≤ 80 := by have := ofE_len g (g.edges.take k); rw [List.length_take] at this; omega
        have hm := ofE_small g (l := g.edges.take k) (fun e he => by
          have h5 := hG.edges e (List.mem_of_mem_take he)
          exact ⟨h5.1, hG.nodes _ (nodeAt_mem h5.2.1.1 h5.2.1.2), hG.nodes _ (nodeAt_mem h5.2.2.1 h5.2.2.2)⟩) (by rw [List.length_take]; omega)
        have hsn : ofE g (g.edges.take (k + 1)) = addC (ofE g (g.edges.take k)) ⟨c1, nodeAt g c2, nodeAt g c3, 1⟩ := hsn
        generalize nodeAt g c2 = na at *
        generalize nodeAt g c3 = nb at *
        have s2 := refchange_spec (ofE g (g.edges.take k)) (ofE_srt g _) (by omega) (fun c hc => ⟨smN_sm (hm c hc).1, (hm c hc).2⟩) c1 na nb 0 1 (by unfold smC; simp only; omega) (.inl rfl)
        repeat (first | refine gN pk ?_ | (show AL _ _ _ _ _ _ _; first | refine jX tok xk ?_ | refine jL tok (fun u => ?_) | refine jS tok 0 ?_ | refine jO tok 0 ?_))
        refine a_frzBox 0 10 rfl rfl ?_
        refine a_regRO [0, 1, 2, 3, 4, 5, 6, 7, 8, 9, 10, 11, 12, 13, 14, 15, 16, 17, 18, 19] mixed rfl rfl (by decide +kernel) ?_
        repeat (first | refine gY pk ?_ | (show AL _ _ _ _ _ _ _; first | refine jX tok xa ?_ | refine jX tok xb ?_ | refine jO tok 0 ?_ | refine jP s2 ?_ | refine jS tok 0 ?_))
        repeat (first | refine gA pk ?_)
        refine ⟨k + 1, by omega, by omega, GoTo.sub (by exact subQ) ?_⟩
        rw [hsn]
        exact OSub.refl _
      · obtain rfl : k = g.edges.length := by omega
        rw [List.take_length]
        repeat (first | refine gV pk ?_ | (show AL _ _ _ _ _ _ _; first | refine jO tok 0 ?_ | refine jS tok 1 ?_))
        refine a_frzBox 1 4 rfl rfl ?_
        refine a_ret ?_
        exact ⟨.inr rfl, _, _, [], rfl, Turn.of (Sub.refl _) (OSub.none _), rfl, rfl⟩
  · rw [if_pos he]
    generalize typedE t g = e at *
    refine a_enterM (rs := [.cell 4 35, .tmp 5]) tok Tryz.func14 (by kernel_rfl) rfl Tryz.ntmps14 rfl (by decide) (by simp) ?_
    refine a_seq ?_
    refine a_reg ?_
    repeat (first | refine gZ pk ?_ | (show AL _ _ _ _ _ _ _; first | refine jB (fun u => ?_) | refine jL tok (fun u4 => ?_)))
    refine a_frzBox 1 3 rfl rfl ?_
    refine a_frzBox 1 2 rfl rfl ?_
    repeat (first | refine gV pk ?_ | (show AL _ _ _ _ _ _ _; first | refine jP s1 ?_ | refine jS tok 0 ?_))
    refine a_frzBox 0 4 rfl rfl ?_
    refine a_ret ?_
    exact ⟨.inr rfl, _, .tup [staA ⟨[], []⟩, AI e], [], rfl, Turn.of (Sub.tup (l := [.agg [SN0, SN0], AI e]) ⟨Sub.agg (m := [cntsA [], cntsA []]) ⟨nil_cnts, nil_cnts, trivial⟩, Sub.refl _, trivial⟩) (OSub.none _), rfl, rfl⟩
end Go.Proofs.YtcacbdohlfljfaaGreat
