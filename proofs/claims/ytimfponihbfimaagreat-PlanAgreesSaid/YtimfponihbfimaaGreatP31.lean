/- Parts of a proof. -/
import Derived.Test.YtimfponihbfimaaGreatP30
set_option linter.unusedVariables false
set_option linter.unusedSimpArgs false
section
namespace Go.Proofs.YtimfponihbfimaaGreat
open Go.Sj Go.Sj.Typ Go.Sj.Sta Go.Sj.Inc Go.Sj.Pln
set_option maxRecDepth 8000
set_option maxHeartbeats 16000000
theorem bl_get {l : List Bool} {i : Int} (h : i.toNat < l.length) : (l.map cB)[i.toNat]? = some [AB (l.getD i.toNat false)] := by
  rw [List.getElem?_map, List.getD_eq_getElem?_getD, List.getElem?_eq_getElem h]
  rfl
theorem step_spec (p : Gr) (hp : GV p) (s : Kn) (hs : KnOk p s) (o : Opn) (v1 v2 : Value) :
    ACalls Tryz.prog 65 [.agg [.lit v1, .lit v2], grA p, .agg (cOp o)] (knO v1 v2 s) (fun y M => y = AI (opE p s o) ∧ M = knO v1 v2 (if opE p s o = 0 then aftK p s o else s)) := by
  obtain ⟨kind, el⟩ := o
  have hnl := hp.nl
  have hel := hp.el
  have hns := hs.nl
  have hes := hs.el
  have ln : (rowI p.nodes).length = p.nodes.length := by simp
  have le : (p.edges.map cEd).length = p.edges.length := by simp
  have l1 : (s.ns.map cB).length = p.nodes.length := by rw [List.length_map, hns]
  have l2 : (s.es.map cB).length = p.edges.length := by rw [List.length_map, hes]
  have hed := hp.edges
  change ACalls _ _ [_, _, .agg [AI kind, AI el]] _ _
  by_cases h1 : kind = 1
  · subst h1
    by_cases h2 : 0 ≤ el ∧ el < p.nodes.length
    · have gk := bl_get (l := s.ns) (i := el) (by omega)
      obtain ⟨b, hb⟩ : ∃ b, s.ns.getD el.toNat false = b := ⟨_, rfl⟩
      rw [hb] at gk
      have e1 : opE p s ⟨1, el⟩ = if b = true then 8 else 0 := by
        unfold opE nodK
        rw [if_pos rfl, if_pos h2]
        simp only [hb]
      have e2 : aftK p s ⟨1, el⟩ = ⟨s.ns.set el.toNat true, s.es⟩ := by unfold aftK; rw [if_pos rfl]
      rw [e1, e2]
      obtain ⟨pn, pe⟩ := p
      simp only at *
      cases b
      · refine zen Tryz.func65 (by kernel_rfl) rfl Tryz.ntmps65 rfl (by simp) ?_
        refine a_seq ?_
        refine a_reg ?_
        repeat (first | refine gZ pk ?_ | (show AL _ _ _ _ _ _ _; first | refine jB (fun u => ?_)))
        refine zfb 2 3 rfl rfl ?_
        refine zfb 1 4 rfl rfl ?_
        refine zfb 0 5 rfl rfl ?_
        repeat (first | refine gA pk ?_ | (show AL _ _ _ _ _ _ _; first | refine zoi tok 0 rfl rfl rfl rfl (by decide) rfl rfl rfl rfl rfl rfl (by omega) (by omega) ?_ | refine s_loadR tok 0 rfl rfl rfl rfl (by decide) rfl rfl rfl gk rfl (by simp) ?_ | refine s_storeBl tok 0 rfl rfl rfl rfl rfl rfl rfl rfl (by omega) ?_))
        refine fin (x := .lit _) (.inr rfl) rfl (Sub.refl _) ⟨rfl, rfl⟩ (OSub.refl _)
      · refine zen Tryz.func65 (by kernel_rfl) rfl Tryz.ntmps65 rfl (by simp) ?_
        refine a_seq ?_
        refine a_reg ?_
        repeat (first | refine gZ pk ?_ | (show AL _ _ _ _ _ _ _; first | refine jB (fun u => ?_)))
        refine zfb 2 3 rfl rfl ?_
        refine zfb 1 4 rfl rfl ?_
        refine zfb 0 5 rfl rfl ?_
        repeat (first | refine gA pk ?_ | (show AL _ _ _ _ _ _ _; first | refine zoi tok 0 rfl rfl rfl rfl (by decide) rfl rfl rfl rfl rfl rfl (by omega) (by omega) ?_ | refine s_loadR tok 0 rfl rfl rfl rfl (by decide) rfl rfl rfl gk rfl (by simp) ?_))
        refine fin (x := .lit _) (.inr rfl) rfl (Sub.refl _) ⟨rfl, rfl⟩ (OSub.refl _)
    · have e1 : opE p s ⟨1, el⟩ = 6 := by
        unfold opE
        rw [if_pos rfl, if_neg h2]
      rw [e1]
      obtain ⟨pn, pe⟩ := p
      simp only at *
      have hx : el < 0 ∨ (0 ≤ el ∧ (pn.length : Int) ≤ el) := by omega
      rcases hx with hx | ⟨hx1, hx2⟩
      all_goals
        refine zen Tryz.func65 (by kernel_rfl) rfl Tryz.ntmps65 rfl (by simp) ?_
        refine a_seq ?_
        refine a_reg ?_
        repeat (first | refine gZ pk ?_ | (show AL _ _ _ _ _ _ _; first | refine jB (fun u => ?_)))
        refine zfb 2 3 rfl rfl ?_
        refine zfb 1 4 rfl rfl ?_
        refine zfb 0 5 rfl rfl ?_
        repeat (first | refine gA pk ?_)
        refine fin (x := .lit _) (.inr rfl) rfl (Sub.refl _) ⟨rfl, rfl⟩ (OSub.refl _)
  · by_cases h3 : kind = 2 ∨ kind = 3
    rotate_left
    · have e1 : opE p s ⟨kind, el⟩ = 6 := by
        unfold opE
        rw [if_neg h1, if_neg h3]
      rw [e1]
      obtain ⟨pn, pe⟩ := p
      simp only at *
      have h4 : kind ≠ 2 := fun h => h3 (.inl h)
      have h5 : kind ≠ 3 := fun h => h3 (.inr h)
      refine zen Tryz.func65 (by kernel_rfl) rfl Tryz.ntmps65 rfl (by simp) ?_
      refine a_seq ?_
      refine a_reg ?_
      repeat (first | refine gZ pk ?_ | (show AL _ _ _ _ _ _ _; first | refine jB (fun u => ?_)))
      refine zfb 2 3 rfl rfl ?_
      refine zfb 1 4 rfl rfl ?_
      refine zfb 0 5 rfl rfl ?_
      repeat (first | refine gA pk ?_)
      refine fin (x := .lit _) (.inr rfl) rfl (Sub.refl _) ⟨rfl, rfl⟩ (OSub.refl _)
    · by_cases h2 : 0 ≤ el ∧ el < p.edges.length
      rotate_left
      · have e1 : opE p s ⟨kind, el⟩ = 6 := by
          unfold opE
          rw [if_neg h1, if_pos h3, if_neg h2]
        rw [e1]
        obtain ⟨pn, pe⟩ := p
        simp only at *
        have hx : el < 0 ∨ (0 ≤ el ∧ (pe.length : Int) ≤ el) := by omega
        rcases h3 with rfl | rfl <;> rcases hx with hx | ⟨hx1, hx2⟩
        all_goals
          refine zen Tryz.func65 (by kernel_rfl) rfl Tryz.ntmps65 rfl (by simp) ?_
          refine a_seq ?_
          refine a_reg ?_
          repeat (first | refine gZ pk ?_ | (show AL _ _ _ _ _ _ _; first | refine jB (fun u => ?_)))
          refine zfb 2 3 rfl rfl ?_
          refine zfb 1 4 rfl rfl ?_
          refine zfb 0 5 rfl rfl ?_
          repeat (first | refine gA pk ?_)
          refine fin (x := .lit _) (.inr rfl) rfl (Sub.refl _) ⟨rfl, rfl⟩ (OSub.refl _)
      · obtain ⟨eb, heb⟩ : ∃ eb, edgP p s ⟨kind, el⟩ = eb := ⟨_, rfl⟩
        have e1 : opE p s ⟨kind, el⟩ = if eb = true then 0 else 8 := by
          unfold opE
          rw [if_neg h1, if_pos h3, if_pos h2]
          simp only [heb]
        have hx := List.getElem?_eq_getElem (l := p.edges) (i := el.toNat) (by omega)
        have hxe := hed _ (List.getElem_mem (l := p.edges) (n := el.toNat) (by omega))
        generalize p.edges[el.toNat]'(by omega) = x at hx hxe
        have hxp : edP p el = x := by
          unfold edP
          rw [List.getD_eq_getElem?_getD, hx]
          rfl
        have e2 : aftK p s ⟨kind, el⟩ = ⟨(s.ns.set x.fr.toNat true).set x.to.toNat true, s.es.set el.toNat true⟩ := by
          unfold aftK
          rw [if_neg h1]
          simp only [hxp]
        obtain ⟨xt, xf, xo⟩ := x
        simp only at hxe e2
        have xk : (p.edges.map cEd)[el.toNat]? = some [AI xt, AI xf, AI xo] := zmp (f := cEd) hx
        have gf := bl_get (l := s.ns) (i := xf) (by omega)
        have gt := bl_get (l := s.ns) (i := xo) (by omega)
        have ge := bl_get (l := s.es) (i := el) (by omega)
        unfold edgP edgK nodK at heb
        simp only [hxp] at heb
        rw [e1, e2]
        clear e1 e2 hx hxp hed
        generalize s.ns.getD xf.toNat false = b1 at *
        generalize s.ns.getD xo.toNat false = b2 at *
        generalize s.es.getD el.toNat false = b3 at *
        obtain ⟨pn, pe⟩ := p
        simp only at *
        rcases h3 with rfl | rfl <;> cases b1 <;> cases b2 <;> cases b3 <;> cases eb <;> (try (exfalso; revert heb; decide))
        all_goals
          refine zen Tryz.func65 (by kernel_rfl) rfl Tryz.ntmps65 rfl (by simp) ?_
          refine a_seq ?_
          refine a_reg ?_
          repeat (first | refine gZ pk ?_ | (show AL _ _ _ _ _ _ _; first | refine jB (fun u => ?_)))
          refine zfb 2 3 rfl rfl ?_
          refine zfb 1 4 rfl rfl ?_
          refine zfb 0 5 rfl rfl ?_
          repeat (first | refine gN pk ?_ | (show AL _ _ _ _ _ _ _; first | refine jX tok xk ?_ | refine jL tok (fun ux => ?_) | refine jS tok 0 ?_))
          refine zfb 0 7 rfl rfl ?_
          refine zrg ((List.range 30).map fun i => if inL [4, 5, 11, 12, 18, 19, 25, 26] i = true then .read else .pure) [] [0, 1, 2, 3, 4, 5, 6, 7, 8, 9, 10, 11, 12, 13, 14, 15, 16, 17, 18, 19, 20, 21, 22, 23, 24, 25, 26, 27, 28, 29] .stop mixed rfl rfl (by decide +kernel) ?_
          repeat' (first | (with_reducible show AG _ _ _ _ _ _ _ _ _ _; first | exact zgn | refine zgs ?_ | refine znd ?_ ?_) | (show AMid _ _ _ _; first | refine zmf ?_ | refine zmg (by first | exact OSub.refl _ | exact .drop (OSub.refl _) | exact .drop (.drop (OSub.refl _))) ?_) | refine gY pk ?_ | (show AL _ _ _ _ _ _ _; first | refine zoi tok 0 rfl rfl rfl rfl (by decide) rfl rfl rfl rfl rfl rfl (by omega) (by omega) ?_ | refine s_loadR tok 0 rfl rfl rfl rfl (by decide) rfl rfl rfl gf rfl (by simp) ?_ | refine s_loadR tok 0 rfl rfl rfl rfl (by decide) rfl rfl rfl gt rfl (by simp) ?_) | fail)
          repeat (first | refine gN pk ?_ | (show AL _ _ _ _ _ _ _; first | refine zoi tok 1 rfl rfl rfl rfl (by decide) rfl rfl rfl rfl rfl rfl (by omega) (by omega) ?_ | refine s_loadR tok 1 rfl rfl rfl rfl (by decide) rfl rfl rfl ge rfl (by simp) ?_))
          first
            | refine fin (x := .lit _) (.inr rfl) rfl (Sub.refl _) ⟨rfl, rfl⟩ (OSub.refl _)
            | (refine zrg ((List.range 18).map fun i => if inL [13, 15, 17] i = true then .eff else if inL [12, 14, 16] i = true then .read else .pure) [] [0, 1, 2, 3, 4, 5, 6, 7, 8, 9, 10, 11, 12, 13, 14, 15, 16, 17] .stop mixed rfl rfl (by decide +kernel) ?_
               repeat' (first | (with_reducible show AG _ _ _ _ _ _ _ _ _ _; first | exact zgn | refine zgs ?_ | refine znd ?_ ?_) | (show AMid _ _ _ _; first | refine zmf ?_ | refine zmg (by first | exact OSub.refl _ | exact .drop (OSub.refl _) | exact .drop (.drop (OSub.refl _))) ?_) | refine gY pk ?_ | (show AL _ _ _ _ _ _ _; first | refine zoi tok 0 rfl rfl rfl rfl (by decide) rfl rfl rfl rfl rfl rfl (by omega) (by first | omega | (simp only [List.length_map, List.length_set]; omega)) ?_ | refine zoi tok 1 rfl rfl rfl rfl (by decide) rfl rfl rfl rfl rfl rfl (by omega) (by omega) ?_ | refine s_storeBl tok 0 rfl rfl rfl rfl rfl rfl rfl rfl (by first | omega | (simp only [List.length_set]; omega)) ?_ | refine s_storeBl tok 1 rfl rfl rfl rfl rfl rfl rfl rfl (by omega) ?_) | fail)
               repeat (first | refine gA pk ?_)
               refine fin (x := .lit _) (.inr rfl) rfl (Sub.refl _) ⟨rfl, rfl⟩ (OSub.refl _))
end Go.Proofs.YtimfponihbfimaaGreat
end
section
namespace Go.Proofs.YtimfponihbfimaaGreat
open Go.Sj Go.Sj.Typ Go.Sj.Sta Go.Sj.Inc Go.Sj.Pln
set_option maxRecDepth 8000
set_option maxHeartbeats 16000000
theorem planned_spec (p : Gr) (hp : GV p) (l : List Opn) (hl : l.length ≤ 1000) : Pure Tryz.prog 40 [grA p, opsA l] (AI (planE p (kn0 p) l)) := by
  have hnl := hp.nl
  have hel := hp.el
  have su := unknown_spec p (by omega) (by omega)
  have ss := fun s hs o v1 v2 => step_spec p hp s hs o v1 v2
  have sa := fun s (hs : KnOk p s) v1 v2 => ACalls.lendA (L := knO v1 v2 s) (args' := [.agg [.lit v1, .lit v2]]) (all_spec s (by have := hs.nl; omega) (by have := hs.el; omega)) ⟨FV.agg ⟨FV.row (E := 4) (by simp), FV.row (E := 4) (by simp), trivial⟩, trivial⟩ fd_free
  have ll : (l.map cOp).length = l.length := by simp
  refine zen Tryz.func40 (by kernel_rfl) rfl Tryz.ntmps40 rfl (by simp) ?_; refine a_seq ?_; refine a_reg ?_; (repeat (first | refine gZ pk ?_ | (show AL _ _ _ _ _ _ _; first | refine jB (fun u => ?_)))); refine zfb 0 2 rfl rfl ?_
  repeat (first | refine gA pk ?_ | (show AL _ _ _ _ _ _ _; first | refine zsc (Lc := []) (Lr := []) rfl rfl rfl rfl rfl su (SubL.of_eq rfl) (List.Perm.refl _) ?_; rintro _ _ ⟨v1, v2, hv1, hv2, rfl, rfl⟩ | refine jL tok (fun uk => ?_) | refine s_store (a := .agg [.lit v1, .lit v2]) tok 0 rfl rfl rfl rfl rfl rfl (by simp [AV.storable, AV.cell, hv1, hv2]) rfl (by decide) rfl rfl rfl (Nat.le_of_ble_eq_true rfl) ?_))
  rw [ll]
  refine zfb 0 5 rfl rfl ?_
  refine a_loopG3 (fun (i : Nat) (s : Kn) (_ : Unit) => [(2, grP p), (5, .ip [.lit v1, .lit v2]), (11, opsA l), (12, AI l.length), (13, AI i)]) (fun i s _ => knO v1 v2 s) (fun i s _ => i ≤ l.length ∧ KnOk p s ∧ planE p (kn0 p) l = planE p s (l.drop i)) (fun i _ _ => l.length - i) 0 (kn0 p) () ⟨Nat.zero_le _, kn0_ok p, rfl⟩ (.sub (by exact subQ) (OSub.refl _)) ?_
  rintro i s _ ⟨hi, hs, he⟩
  rw [he]
  rcases Nat.lt_or_ge i l.length with h | h
  · have h1 := List.getElem?_eq_getElem h
    rw [List.drop_eq_getElem_cons h] at he ⊢
    generalize l[i] = o at *
    have xk : (l.map cOp)[(i : Int).toNat]? = some [AI o.kind, AI o.el] := zmp (f := cOp) h1
    have s1 := ss s hs o v1 v2
    change ACalls _ _ [_, _, .agg [AI o.kind, AI o.el]] _ _ at s1
    rw [show planE p s (o :: l.drop (i + 1)) = if opE p s o ≠ 0 then opE p s o else planE p (aftK p s o) (l.drop (i + 1)) from rfl] at he ⊢
    by_cases hop : opE p s o = 0
    · rw [if_neg (Decidable.not_not.2 hop)] at he ⊢
      rw [hop, if_pos rfl] at s1
      repeat (first | refine gA pk ?_ | (show AL _ _ _ _ _ _ _; first | refine jX tok xk ?_ | refine jL tok (fun uo => ?_) | refine jS tok 0 ?_ | refine jO tok 0 ?_ | refine zsc (Lc := knO v1 v2 s) (Lr := [(uo, .box [AI o.kind, AI o.el])]) rfl rfl rfl rfl rfl s1 (SubL.of_eq rfl) (perm_r _ _ _) ?_; rintro _ _ ⟨rfl, rfl⟩))
      exact ⟨i + 1, aftK p s o, (), ⟨by omega, aftK_ok hs o, rfl⟩, by omega, .sub (by exact subQ) (.keep (.keep (.drop .nil)))⟩
    · rw [if_pos hop] at he ⊢
      rw [if_neg hop] at s1
      generalize opE p s o = c at *
      repeat (first | refine gA pk ?_ | (show AL _ _ _ _ _ _ _; first | refine jX tok xk ?_ | refine jL tok (fun uo => ?_) | refine jS tok 0 ?_ | refine jO tok 0 ?_ | refine zsc (Lc := knO v1 v2 s) (Lr := [(uo, .box [AI o.kind, AI o.el])]) rfl rfl rfl rfl rfl s1 (SubL.of_eq rfl) (perm_r _ _ _) ?_; rintro _ _ ⟨rfl, rfl⟩))
      refine finQ ?_
      exact ⟨rfl, rfl⟩
  · obtain rfl : i = l.length := by omega
    rw [List.drop_length]
    have s2 := sa s hs v1 v2
    rw [show planE p s [] = if knownB s = true then 0 else 20 from rfl]
    generalize knownB s = kb at *
    cases kb
    all_goals
      repeat (first | refine gA pk ?_ | (show AL _ _ _ _ _ _ _; first | refine zsc (Lc := knO v1 v2 s) (Lr := []) rfl rfl rfl rfl rfl s2 (SubL.of_eq rfl) (List.Perm.refl _) ?_; rintro _ _ ⟨⟨rfl, -⟩, rfl⟩))
      refine finQ ?_
      exact ⟨rfl, rfl⟩
theorem pvalid_spec (p : Gr) (hp : OkG p) (l : List Opn) (hl : l.length ≤ 1000) : Pure Tryz.prog 22 [grA p, opsA l] (AI (pvalE p l)) := by
  have s1 := gvalid_spec p hp
  unfold pvalE
  by_cases h : gvalid p = 0
  · rw [if_neg (Decidable.not_not.2 h)]
    rw [h] at s1
    have s2 := planned_spec p (gvalid_zero.1 h) l hl
    generalize planE p (kn0 p) l = c at *
    refine zen Tryz.func22 (by kernel_rfl) rfl Tryz.ntmps22 rfl (by simp) ?_; refine a_seq ?_; refine a_reg ?_; (repeat (first | refine gZ pk ?_ | (show AL _ _ _ _ _ _ _; first | refine jB (fun u => ?_)))); refine zfb 0 2 rfl rfl ?_
    repeat (first | refine gA pk ?_ | (show AL _ _ _ _ _ _ _; first | refine jP s1 ?_ | refine jP s2 ?_))
    refine finQ ?_
    exact ⟨rfl, rfl⟩
  · rw [if_pos h]
    generalize gvalid p = c at *
    refine zen Tryz.func22 (by kernel_rfl) rfl Tryz.ntmps22 rfl (by simp) ?_; refine a_seq ?_; refine a_reg ?_; (repeat (first | refine gZ pk ?_ | (show AL _ _ _ _ _ _ _; first | refine jB (fun u => ?_)))); refine zfb 0 2 rfl rfl ?_
    repeat (first | refine gA pk ?_ | (show AL _ _ _ _ _ _ _; first | refine jP s1 ?_))
    refine finQ ?_
    exact ⟨rfl, rfl⟩
end Go.Proofs.YtimfponihbfimaaGreat
end
section
namespace Go.Proofs.YtimfponihbfimaaGreat
open Go.Sj Go.Sj.Typ Go.Sj.Sta Go.Sj.Inc
set_option maxRecDepth 8000
set_option maxHeartbeats 16000000
theorem gTyped_spec (t : Tys) (ht : Small t) (g : Gr) (hg : GV g) : Pure Tryz.prog 49 [tysA t, grA g] (AB (typT t g)) := by
  have ln : (rowI g.nodes).length = g.nodes.length := by simp
  have le : (g.edges.map cEd).length = g.edges.length := by simp
  have lt : (t.nodes.map cNod).length = t.nodes.length := by simp
  have lte : (t.edges.map cEdg).length = t.edges.length := by simp
  have htn := ht.nodes
  have hte := ht.edges
  have hgn := hg.nl
  have hge := hg.el
  obtain ⟨r, hr⟩ : ∃ r, typT t g = r := ⟨_, rfl⟩
  rw [hr]
  unfold typT at hr
  refine zen Tryz.func49 (by kernel_rfl) rfl Tryz.ntmps49 rfl (by simp) ?_
  refine a_seq ?_
  refine a_reg ?_
  repeat (first | refine gZ pk ?_ | (show AL _ _ _ _ _ _ _; first | refine jB (fun u => ?_)))
  refine zfb 0 3 rfl rfl ?_
  refine zfb 0 2 rfl rfl ?_
  repeat (first | refine gA pk ?_)
  refine zlx (fun k : Nat => [(2, tysP t), (3, grP g), (5, AI k)]) (fun _ => []) (fun k => k ≤ g.nodes.length ∧ ∀ x ∈ g.nodes.take k, decide ((t.nodes.length : Int) ≤ x) = false) (fun k => g.nodes.length - k) 0 ⟨Nat.zero_le _, by simp⟩ ?_ (OSub.none _) ?_
  · exact subQ
  · rintro k ⟨hk, hno⟩
    rcases Nat.lt_or_ge k g.nodes.length with h | h
    · have hx := List.getElem?_eq_getElem h
      have hy0 := hg.nodes _ (List.getElem_mem h)
      generalize g.nodes[k] = y at hx hy0
      have xk : (rowI g.nodes)[(k : Int).toNat]? = some [AI y] := zmp (f := cI) hx
      by_cases hy : (t.nodes.length : Int) ≤ y
      · rw [any_take_some (p := fun n => decide ((t.nodes.length : Int) ≤ n)) hx (decide_eq_true hy)] at hr
        subst hr
        repeat (first | (show AWp _ _ _ _ _ _; first | refine a_regR mixed (by decide +kernel) ?_) | refine gN pk ?_ | (show AL _ _ _ _ _ _ _; first | refine jX tok xk ?_))
        refine finQ ?_
        exact ⟨rfl, rfl⟩
      · have hn := none_takeP (p := fun n => decide ((t.nodes.length : Int) ≤ n)) hno hx (decide_eq_false hy)
        repeat (first | (show AWp _ _ _ _ _ _; first | refine a_regR mixed (by decide +kernel) ?_) | refine gN pk ?_ | (show AL _ _ _ _ _ _ _; first | refine jX tok xk ?_))
        exact ⟨k + 1, ⟨by omega, hn⟩, by omega, by exact subQ, OSub.none _⟩
    · obtain rfl : k = g.nodes.length := by omega
      rw [List.take_length] at hno
      rw [any_take_none (p := fun n => decide ((t.nodes.length : Int) ≤ n)) hno, Bool.not_false, Bool.true_and] at hr
      repeat (first | refine gA pk ?_)
      refine zlx (fun k : Nat => [(2, tysP t), (3, grP g), (6, AI k)]) (fun _ => []) (fun k => k ≤ g.edges.length ∧ ∀ x ∈ g.edges.take k, decide ((t.edges.length : Int) ≤ x.ty) = false) (fun k => g.edges.length - k) 0 ⟨Nat.zero_le _, by simp⟩ ?_ (OSub.none _) ?_
      · exact subQ
      · rintro k ⟨hk, hno⟩
        rcases Nat.lt_or_ge k g.edges.length with h | h
        · have hx := List.getElem?_eq_getElem h
          have hy0 := (hg.edges _ (List.getElem_mem h)).1
          generalize g.edges[k] = y at hx hy0
          obtain ⟨c1, c2, c3⟩ := y
          simp only at hy0
          have xk : (g.edges.map cEd)[(k : Int).toNat]? = some [AI c1, AI c2, AI c3] := zmp (f := cEd) hx
          by_cases hy : (t.edges.length : Int) ≤ c1
          · rw [any_take_some (p := fun e : Ed => decide ((t.edges.length : Int) ≤ e.ty)) hx (decide_eq_true hy)] at hr
            subst hr
            repeat (first | (show AWp _ _ _ _ _ _; first | refine a_regR mixed (by decide +kernel) ?_) | refine gN pk ?_ | (show AL _ _ _ _ _ _ _; first | refine jX tok xk ?_))
            refine finQ ?_
            exact ⟨rfl, rfl⟩
          · have hn := none_takeP (p := fun e : Ed => decide ((t.edges.length : Int) ≤ e.ty)) hno hx (decide_eq_false hy)
            repeat (first | (show AWp _ _ _ _ _ _; first | refine a_regR mixed (by decide +kernel) ?_) | refine gN pk ?_ | (show AL _ _ _ _ _ _ _; first | refine jX tok xk ?_))
            exact ⟨k + 1, ⟨by omega, hn⟩, by omega, by exact subQ, OSub.none _⟩
        · obtain rfl : k = g.edges.length := by omega
          rw [List.take_length] at hno
          rw [any_take_none (p := fun e : Ed => decide ((t.edges.length : Int) ≤ e.ty)) hno] at hr
          subst hr
          repeat (first | refine gA pk ?_)
          refine finQ ?_
          exact ⟨rfl, rfl⟩
end Go.Proofs.YtimfponihbfimaaGreat
end
