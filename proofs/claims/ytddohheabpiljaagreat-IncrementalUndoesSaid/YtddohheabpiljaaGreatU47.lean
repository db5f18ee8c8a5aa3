/- Parts of a proof. -/
import Derived.Test.YtddohheabpiljaaGreatU04
import Derived.Test.YtddohheabpiljaaGreatU46
set_option linter.unusedVariables false
set_option linter.unusedSimpArgs false
section
namespace Go.Proofs.YtddohheabpiljaaGreat
open Go.Sj Go.Sj.Typ Go.Sj.Sta Go.Sj.Inc
set_option maxRecDepth 8000
set_option maxHeartbeats 16000000
def cDel (x : Del) : List AV := [mosA x.1, mosA x.2]
def applyB (t : Tys) (w : Wat) (e : Edt) : Wat × List Del × Int :=
  if edtE t w.g e ≠ 0 then (zeroW, [], edtE t w.g e)
  else if matsE t w.ps (ediG w.g e) w.inj ≠ 0 then (zeroW, [], matsE t w.ps (ediG w.g e) w.inj)
  else (⟨w.ps, ediG w.g e, w.inj, matsL t w.ps (ediG w.g e) w.inj⟩, w.ps.map (delR t w.g e w.inj), 0)
theorem applyR_eq (t : Tys) (w : Wat) (e : Edt) : applyR t w e = if wvalE t w ≠ 0 then (zeroW, [], wvalE t w) else applyB t w e := rfl
theorem wval_zero {t : Tys} {w : Wat} (h : wvalE t w = 0) : matsE t w.ps w.g w.inj = 0 ∧ w.ms = matsL t w.ps w.g w.inj := by
  unfold wvalE at h
  split at h
  · rename_i h1; exact absurd h h1
  · rename_i h1
    split at h
    · rename_i h2
      exact ⟨Decidable.not_not.1 h1, h2.symm⟩
    · cases h
theorem allR_mat {t : Tys} {p g : Gr} {inj : Bool} (h : (allR t p g inj).2 = 0) : (allR t p g inj).1 = matL (seaA t p g inj) ∧ (matL (seaA t p g inj)).length ≤ 5000 := by
  have hv := allR_zero h
  unfold allR capR at *
  rw [if_neg (Decidable.not_not.2 hv)] at h ⊢
  split at h
  · cases h
  · rename_i h1
    rw [if_neg h1]
    exact ⟨rfl, by omega⟩
theorem allR_of {t : Tys} {p g : Gr} {inj : Bool} (hv : validS t p g = 0) (h : (matL (seaA t p g inj)).length ≤ 5000) : allR t p g inj = (matL (seaA t p g inj), 0) := by
  unfold allR capR
  rw [if_neg (Decidable.not_not.2 hv), if_neg (by omega)]
theorem allR_many {t : Tys} {p g : Gr} {inj : Bool} (hv : validS t p g = 0) (h : 5000 < (matL (seaA t p g inj)).length) : allR t p g inj = ([], 3) := by
  unfold allR capR
  rw [if_neg (Decidable.not_not.2 hv), if_pos h]
theorem mat_empty (t : Tys) (g : Gr) (inj : Bool) : matL (seaA t ⟨[], []⟩ g inj) = [([], [])] := rfl
structure EdOk (t : Tys) (w : Wat) (g' : Gr) : Prop where
  hv0 : validS t ⟨[], []⟩ g' = 0
  hl : w.ps.length ≤ 5
  hv : ∀ p ∈ w.ps, validS t p w.g = 0 ∧ validS t p g' = 0 ∧ (matL (seaA t p w.g w.inj)).length ≤ 5000
  ms : ∀ (j : Nat) (p : Gr), w.ps[j]? = some p → w.ms[j]? = some (matL (seaA t p w.g w.inj))
  ml : w.ms.length = w.ps.length
theorem edOk {t : Tys} (ht : Small t) {w : Wat} {e : Edt} (hv : wvalE t w = 0) (he : edtE t w.g e = 0) : EdOk t w (ediG w.g e) := by
  obtain ⟨h1, h2⟩ := wval_zero hv
  obtain ⟨hg, h5, hall⟩ := matsE_zero h1
  have hb : t.nodes.length ≤ 100 ∧ t.edges.length ≤ 100 := ⟨by have := ht.nodes; omega, by have := ht.edges; omega⟩
  have h0 : (allR t ⟨[], []⟩ w.g w.inj).2 = 0 := by
    unfold matsE at h1
    split at h1
    · rename_i h3; exact absurd h1 h3
    · rename_i h3; exact Decidable.not_not.1 h3
  refine ⟨validS_edi hb (allR_zero h0) he, h5, fun p hp => ⟨allR_zero (hall p hp), validS_edi hb (allR_zero (hall p hp)) he, (allR_mat (hall p hp)).2⟩, fun j p hp => ?_, ?_⟩
  · rw [h2]
    unfold matsL
    rw [List.getElem?_map, hp, ← (allR_mat (hall p (List.mem_of_getElem? hp))).1]
    rfl
  · rw [h2]
    unfold matsL
    rw [List.length_map]
theorem matsE_ok {t : Tys} {ps : List Gr} {g : Gr} {inj : Bool} (hv0 : validS t ⟨[], []⟩ g = 0) (hl : ps.length ≤ 5) (hall : ∀ p ∈ ps, validS t p g = 0 ∧ (matL (seaA t p g inj)).length ≤ 5000) : matsE t ps g inj = 0 := by
  unfold matsE
  rw [allR_of hv0 (by rw [mat_empty]; decide), if_neg (fun h => h rfl), if_neg (by omega)]
  refine patE_none fun j q hq => ?_
  have := hall q (List.mem_of_getElem? hq)
  rw [allR_of this.1 this.2]
theorem matsE_many {t : Tys} {ps : List Gr} {g : Gr} {inj : Bool} (hv0 : validS t ⟨[], []⟩ g = 0) (hl : ps.length ≤ 5) {j : Nat} {p : Gr} (hp : ps[j]? = some p) (hlt : ∀ (i : Nat) (q : Gr), i < j → ps[i]? = some q → validS t q g = 0 ∧ (matL (seaA t q g inj)).length ≤ 5000) (hpv : validS t p g = 0) (hm : 5000 < (matL (seaA t p g inj)).length) : matsE t ps g inj = 3 := by
  unfold matsE
  rw [allR_of hv0 (by rw [mat_empty]; decide), if_neg (fun h => h rfl), if_neg (by omega)]
  rw [patE_at hp (fun i q hi hq => by
    have := hlt i q hi hq
    rw [allR_of this.1 this.2]) (by rw [allR_many hpv hm]; decide), allR_many hpv hm]
theorem matsL_ok {t : Tys} {ps : List Gr} {g : Gr} {inj : Bool} (hall : ∀ p ∈ ps, validS t p g = 0 ∧ (matL (seaA t p g inj)).length ≤ 5000) : matsL t ps g inj = ps.map fun p => matL (seaA t p g inj) := by
  unfold matsL
  exact List.map_congr_left fun p hp => by rw [allR_of (hall p hp).1 (hall p hp).2]
theorem gv_small {g : Gr} (hg : GV g) : OkG g ∧ g.nodes.length ≤ 1000 ∧ g.edges.length ≤ 1000 := by
  have h1 := hg.nl
  have h2 := hg.el
  exact ⟨⟨by omega, by omega⟩, by omega, by omega⟩
theorem applyAdd (t : Tys) (ht : Small t) (w : Wat) (hv : wvalE t w = 0) (e : Edt) (he : edtE t w.g e = 0) (edge : Bool) (hk : (e.kind = 1 ∧ edge = false) ∨ (e.kind = 2 ∧ edge = true))
    (hN : if edge = true then 1 ≤ (ediG w.g e).edges.length else 1 ≤ (ediG w.g e).nodes.length)
    (hm : ∀ p, validS t p w.g = 0 → matL (seaA t p w.g w.inj) = (matL (seaA t p (ediG w.g e) w.inj)).filter (fun x => !hasB edge (lastZ (ediG w.g e) edge) x))
    (hd : ∀ p, delR t w.g e w.inj p = (freM t p (ediG w.g e) edge w.inj, []))
    (hG : Pure Tryz.prog 64 [grA w.g, .agg [AI e.kind, AI e.idx, AI e.ty, AI e.fr, AI e.to]] (grA (ediG w.g e))) :
    Pure Tryz.prog 44 [tysA t, watA w, .agg (cEt e)] (.tup [watA (applyB t w e).1, .im 2 ((applyB t w e).2.1.map cDel), AI (applyB t w e).2.2]) := by
  have hE := edOk ht hv he
  have hgv : GV w.g := (matsE_zero (wval_zero hv).1).1
  obtain ⟨og, og1, og2⟩ := gv_small hgv
  have hed := iedit_spec w.g og (by omega) e (t.nodes.map cNod).length (t.edges.map cEdg).length
  rw [List.length_map, List.length_map] at hed
  change Pure _ _ _ (AI (edtE t w.g e)) at hed
  rw [he] at hed
  have hed2 : Pure Tryz.prog 54 [grA w.g, .agg [AI e.kind, AI e.idx, AI e.ty, AI e.fr, AI e.to], AI (t.nodes.map cNod).length, AI (t.edges.map cEdg).length] (AI 0) := by
    rw [List.length_map, List.length_map]
    exact hed
  unfold applyB
  rw [if_neg (Decidable.not_not.2 he)]
  generalize hg' : ediG w.g e = g' at *
  have hpl : ∀ p ∈ w.ps, p.nodes.length ≤ 1000 ∧ p.edges.length ≤ 1000 := fun p hp => (gv_small (zvz (hE.hv p hp).1).2.1).2
  have addJ : ∀ (j : Nat) (p : Gr), w.ps[j]? = some p → (matL (seaA t p g' w.inj)).length ≤ 5000 → AddJ t w g' edge (w.ps.map fun p => freM t p g' edge w.inj) (w.ps.map fun p => matL (seaA t p g' w.inj)) j p := fun j p hp hlen => by
    have hpm := List.mem_of_getElem? hp
    obtain ⟨v1, v2, v3⟩ := hE.hv p hpm
    have hgp := (zvz v1).2.1
    have hml := merged_len (t := t) (p := p) (g := g') (edge := edge) (inj := w.inj) (hm p v1)
    refine ⟨freM t p g' edge w.inj, matL (seaA t p w.g w.inj), matL (seaA t p g' w.inj), by rw [List.getElem?_map, hp]; rfl, hE.ms j p hp, by rw [List.getElem?_map, hp]; rfl, by omega, by omega, fun x hx => mat_mob hgp (List.mem_filter.1 hx).1, fun x hx => mat_mob hgp hx, ?_, mergedF_spec t p g' edge w.inj v2 (hm p v1) (by omega)⟩
    rcases freshF_spec t ht p g' edge w.inj v2 hN with ⟨_, h⟩ | ⟨h, _⟩
    · exact h
    · omega
  by_cases hall : ∀ p ∈ w.ps, (matL (seaA t p g' w.inj)).length ≤ 5000
  · have hall2 : ∀ p ∈ w.ps, validS t p g' = 0 ∧ (matL (seaA t p g' w.inj)).length ≤ 5000 := fun p hp => ⟨(hE.hv p hp).2.1, hall p hp⟩
    rw [if_neg (Decidable.not_not.2 (matsE_ok hE.hv0 hE.hl hall2)), matsL_ok hall2]
    have h := iapplyA_spec t ht w e.kind e.idx e.ty e.fr e.to edge hk g' (w.ps.map fun p => freM t p g' edge w.inj) (w.ps.map fun p => matL (seaA t p g' w.inj)) hE.hl hpl hE.ml (by simp) (by simp) hed2 hG (fun j p hp => addJ j p hp (hall p (List.mem_of_getElem? hp)))
    have e2 : (w.ps.map fun p => freM t p g' edge w.inj).map cDelN = (w.ps.map (delR t w.g e w.inj)).map cDel := by
      rw [List.map_map, List.map_map]
      exact List.map_congr_left fun p _ => by simp only [Function.comp, hd p]; rfl
    rw [e2] at h
    exact h
  · obtain ⟨j, p, hp, hbig, hmin⟩ : ∃ (j : Nat) (p : Gr), w.ps[j]? = some p ∧ 5000 < (matL (seaA t p g' w.inj)).length ∧ ∀ (i : Nat) (q : Gr), i < j → w.ps[i]? = some q → (matL (seaA t q g' w.inj)).length ≤ 5000 := by
      have hex : ∃ (j : Nat) (p : Gr), w.ps[j]? = some p ∧ 5000 < (matL (seaA t p g' w.inj)).length := by
        refine Classical.byContradiction fun hno => hall fun p hp => ?_
        obtain ⟨j, hj⟩ := List.getElem?_of_mem hp
        rcases Nat.lt_or_ge 5000 (matL (seaA t p g' w.inj)).length with h | h
        · exact absurd ⟨j, p, hj, h⟩ hno
        · exact h
      obtain ⟨j, hj⟩ := hex
      induction j using Nat.strongRecOn with
      | _ j ih =>
        by_cases hmn : ∃ i, i < j ∧ ∃ q, w.ps[i]? = some q ∧ 5000 < (matL (seaA t q g' w.inj)).length
        · obtain ⟨i, hi, h⟩ := hmn
          exact ih i hi h
        · obtain ⟨p, hp, hb⟩ := hj
          refine ⟨j, p, hp, hb, fun i q hi hq => ?_⟩
          rcases Nat.lt_or_ge 5000 (matL (seaA t q g' w.inj)).length with h | h
          · exact absurd ⟨i, hi, q, hq, h⟩ hmn
          · exact h
    have hpm := List.mem_of_getElem? hp
    obtain ⟨v1, v2, v3⟩ := hE.hv p hpm
    have h3 := matsE_many hE.hv0 hE.hl hp (fun i q hi hq => ⟨(hE.hv q (List.mem_of_getElem? hq)).2.1, hmin i q hi hq⟩) v2 hbig
    rw [h3, if_pos (by decide)]
    have hml := merged_len (t := t) (p := p) (g := g') (edge := edge) (inj := w.inj) (hm p v1)
    exact iapplyAE_spec t ht w e.kind e.idx e.ty e.fr e.to edge hk g' (w.ps.map fun p => freM t p g' edge w.inj) (w.ps.map fun p => matL (seaA t p g' w.inj)) hE.hl hpl hE.ml (by simp) (by simp) hed2 hG j (List.getElem?_eq_some_iff.1 hp).1 (fun i q hi hq => addJ i q hq (hmin i q hi hq)) (fun q hq => by
      rw [hp] at hq
      cases hq
      refine ⟨_, hE.ms j p hp, by omega, ?_⟩
      rcases freshF_spec t ht p g' edge w.inj v2 hN with ⟨hl, h⟩ | ⟨_, h⟩
      · exact .inr ⟨_, by omega, by omega, h⟩
      · exact .inl h)
theorem mat_range {t : Tys} {p g : Gr} {inj : Bool} (hp : GV p) (hg : GV g) {x : Mo} (hx : x ∈ matL (seaA t p g inj)) : MoR x := by
  have h := mat_mem.1 hx
  have h1 : x.1.length = p.nodes.length := h.nl
  have h2 : x.2.length = p.edges.length := h.el
  have hn := hg.nl
  have he := hg.el
  refine ⟨mat_mob hp hx, fun z hz => ?_, fun z hz => ?_⟩
  · obtain ⟨u, hu, huz⟩ := mem_ix hz
    obtain ⟨k, hk, hkl, _⟩ := h.ns u (Nat.zero_le _) (by show u < p.nodes.length; omega)
    rw [huz] at hk
    cases hk
    have hkl : k < g.nodes.length := hkl
    omega
  · obtain ⟨u, hu, huz⟩ := mem_ix hz
    obtain ⟨k, hk, hkl, _⟩ := h.es u (Nat.zero_le _) (by show u < p.edges.length; omega)
    rw [huz] at hk
    cases hk
    have hkl : k < g.edges.length := hkl
    omega
theorem applyRem (t : Tys) (ht : Small t) (w : Wat) (hv : wvalE t w = 0) (e : Edt) (he : edtE t w.g e = 0) (edge : Bool) (hk : (e.kind = 3 ∧ edge = false) ∨ (e.kind = 4 ∧ edge = true))
    (hm : ∀ p, validS t p w.g = 0 → restL edge e.idx (matL (seaA t p w.g w.inj)) = matL (seaA t p (ediG w.g e) w.inj))
    (hd : ∀ p, delR t w.g e w.inj p = ([], (matL (seaA t p w.g w.inj)).filter (hasB edge e.idx)))
    (hG : Pure Tryz.prog 64 [grA w.g, .agg [AI e.kind, AI e.idx, AI e.ty, AI e.fr, AI e.to]] (grA (ediG w.g e))) :
    Pure Tryz.prog 44 [tysA t, watA w, .agg (cEt e)] (.tup [watA (applyB t w e).1, .im 2 ((applyB t w e).2.1.map cDel), AI (applyB t w e).2.2]) := by
  have hE := edOk ht hv he
  have hgv : GV w.g := (matsE_zero (wval_zero hv).1).1
  obtain ⟨og, og1, og2⟩ := gv_small hgv
  have hed := iedit_spec w.g og (by omega) e (t.nodes.map cNod).length (t.edges.map cEdg).length
  rw [List.length_map, List.length_map] at hed
  change Pure _ _ _ (AI (edtE t w.g e)) at hed
  rw [he] at hed
  have hed2 : Pure Tryz.prog 54 [grA w.g, .agg [AI e.kind, AI e.idx, AI e.ty, AI e.fr, AI e.to], AI (t.nodes.map cNod).length, AI (t.edges.map cEdg).length] (AI 0) := by
    rw [List.length_map, List.length_map]
    exact hed
  unfold applyB
  rw [if_neg (Decidable.not_not.2 he)]
  have hpl : ∀ p ∈ w.ps, p.nodes.length ≤ 1000 ∧ p.edges.length ≤ 1000 := fun p hp => (gv_small (zvz (hE.hv p hp).1).2.1).2
  have hlen : ∀ p ∈ w.ps, (matL (seaA t p (ediG w.g e) w.inj)).length ≤ 5000 := fun p hp => by
    obtain ⟨v1, v2, v3⟩ := hE.hv p hp
    rw [← hm p v1]
    unfold restL
    rw [List.length_map]
    exact Nat.le_trans (List.length_filter_le _ _) v3
  have hall2 : ∀ p ∈ w.ps, validS t p (ediG w.g e) = 0 ∧ (matL (seaA t p (ediG w.g e) w.inj)).length ≤ 5000 := fun p hp => ⟨(hE.hv p hp).2.1, hlen p hp⟩
  rw [if_neg (Decidable.not_not.2 (matsE_ok hE.hv0 hE.hl hall2)), matsL_ok hall2]
  have h := iapplyR_spec t ht w e.kind e.idx e.ty e.fr e.to (by omega) (ediG w.g e) (w.ps.map fun p => (matL (seaA t p w.g w.inj)).filter (hasB edge e.idx)) (w.ps.map fun p => matL (seaA t p (ediG w.g e) w.inj)) hE.hl hpl hE.ml (by simp) (by simp) hed2 hG (fun j hj => by
    have hp := List.getElem?_eq_getElem hj
    generalize w.ps[j] = p at hp
    have hpm := List.mem_of_getElem? hp
    obtain ⟨v1, v2, v3⟩ := hE.hv p hpm
    have hgp := (zvz v1).2.1
    have hc := cut_spec (matL (seaA t p w.g w.inj)) (by omega) (fun x hx => mat_range hgp hgv hx) edge e.kind e.idx e.ty e.fr e.to hk
    rw [hm p v1] at hc
    have h5 := hlen p hpm
    have h6 := List.length_filter_le (hasB edge e.idx) (matL (seaA t p w.g w.inj))
    exact ⟨_, _, _, hE.ms j p hp, by rw [List.getElem?_map, hp]; rfl, by rw [List.getElem?_map, hp]; rfl, by omega, by omega, fun x hx => mat_mob hgp hx, fun x hx => mat_mob hgp (List.mem_filter.1 hx).1, hc⟩)
  have e2 : (w.ps.map fun p => (matL (seaA t p w.g w.inj)).filter (hasB edge e.idx)).map cDelG = (w.ps.map (delR t w.g e w.inj)).map cDel := by
    rw [List.map_map, List.map_map]
    exact List.map_congr_left fun p _ => by simp only [Function.comp, hd p]; rfl
  rw [e2] at h
  exact h
theorem iapply_spec (t : Tys) (ht : Small t) (w : Wat) (hv : wvalE t w = 0) (e : Edt) :
    Pure Tryz.prog 44 [tysA t, watA w, .agg (cEt e)] (.tup [watA (applyB t w e).1, .im 2 ((applyB t w e).2.1.map cDel), AI (applyB t w e).2.2]) := by
  have hgv : GV w.g := (matsE_zero (wval_zero hv).1).1
  obtain ⟨og, og1, og2⟩ := gv_small hgv
  by_cases he : edtE t w.g e = 0
  · rcases edit_kind he with ⟨hk, a, b⟩ | ⟨hk, a, b, c, d⟩ | ⟨hk, a, b⟩ | ⟨hk, a⟩
    · have e1 : ediG w.g e = ⟨w.g.nodes ++ [e.ty], w.g.edges⟩ := by unfold ediG; rw [if_pos hk]
      have el : lastZ (ediG w.g e) false = w.g.nodes.length := by rw [e1]; simp [lastZ]
      refine applyAdd t ht w hv e he false (.inl ⟨hk, rfl⟩) (by rw [e1]; simp) (fun p hp => ?_) (fun p => ?_) ?_
      · rw [el, e1]
        exact mat_restN.symm
      · unfold delR
        rw [if_pos hk]
        unfold freM
        rw [el]
        rfl
      · rw [hk, e1]
        exact ieditedN_spec w.g og1 og2 e.idx e.ty e.fr e.to
    · have e1 : ediG w.g e = ⟨w.g.nodes, w.g.edges ++ [⟨e.ty, e.fr, e.to⟩]⟩ := by unfold ediG; rw [if_neg (by omega), if_pos hk]
      have el : lastZ (ediG w.g e) true = w.g.edges.length := by rw [e1]; simp [lastZ]
      refine applyAdd t ht w hv e he true (.inr ⟨hk, rfl⟩) (by rw [e1]; simp) (fun p hp => ?_) (fun p => ?_) ?_
      · rw [el, e1]
        exact mat_restE.symm
      · unfold delR
        rw [if_neg (by omega), if_pos hk]
        unfold freM
        rw [el]
        rfl
      · rw [hk, e1]
        exact ieditedE_spec w.g og1 og2 e.idx e.ty e.fr e.to
    · obtain ⟨d, hd⟩ : ∃ d : Nat, e.idx = d := ⟨e.idx.toNat, by omega⟩
      have e1 : ediG w.g e = ⟨w.g.nodes.eraseIdx d, w.g.edges.map (lesE d)⟩ := by unfold ediG; rw [if_neg (by omega), if_neg (by omega), if_pos hk, hd, Int.toNat_natCast]
      refine applyRem t ht w hv e he false (.inl ⟨hk, rfl⟩) (fun p hp => ?_) (fun p => ?_) ?_
      · rw [e1, hd]
        refine mat_cutN (zvz hp).2.1 (by omega) (fun y hy => ?_)
        have := b y hy
        rw [hd] at this
        exact this
      · unfold delR
        rw [if_neg (by omega), if_neg (by omega), if_pos hk]
        rfl
      · rw [hk, e1, hd]
        have hn := hgv.nl
        exact ieditedRN_spec w.g og1 og2 (fun x hx => by
          have := hgv.edges x hx
          omega) d (by omega) e.ty e.fr e.to
    · obtain ⟨d, hd⟩ : ∃ d : Nat, e.idx = d := ⟨e.idx.toNat, by omega⟩
      have e1 : ediG w.g e = ⟨w.g.nodes, w.g.edges.eraseIdx d⟩ := by unfold ediG; rw [if_neg (by omega), if_neg (by omega), if_neg (by omega), hd, Int.toNat_natCast]
      refine applyRem t ht w hv e he true (.inr ⟨hk, rfl⟩) (fun p hp => ?_) (fun p => ?_) ?_
      · rw [e1, hd]
        exact mat_cutE (by omega)
      · unfold delR
        rw [if_neg (by omega), if_neg (by omega), if_neg (by omega)]
        rfl
      · rw [hk, e1, hd]
        exact ieditedRE_spec w.g og1 og2 d (by omega) e.ty e.fr e.to
  · have hed := iedit_spec w.g og (by omega) e (t.nodes.map cNod).length (t.edges.map cEdg).length
    have e0 : editE w.g e ((t.nodes.map cNod).length : Nat) ((t.edges.map cEdg).length : Nat) = edtE t w.g e := by rw [List.length_map, List.length_map]
    rw [e0] at hed
    unfold applyB
    rw [if_pos he]
    exact iapplyX_spec t w e.kind e.idx e.ty e.fr e.to _ he hed
theorem iApplyG_spec (t : Tys) (w v : Wat) (D : List (List AV)) (k i ty fr to c : Int)
    (hV : Pure Tryz.prog 15 [tysA t, watA w] (AI 0))
    (hA : Pure Tryz.prog 44 [tysA t, watA w, .agg [AI k, AI i, AI ty, AI fr, AI to]] (.tup [watA v, .im 2 D, AI c])) :
    Pure Tryz.prog 17 [tysA t, watA w, .agg [AI k, AI i, AI ty, AI fr, AI to]] (.tup [watA v, .im 2 D, AI c]) := by
  obtain ⟨ps, g, inj, ms⟩ := w
  obtain ⟨ps', g', inj', ms'⟩ := v
  refine a_enterM (rs := [.cell 6 37, .tmp 7, .tmp 8]) tok Tryz.func17 (by kernel_rfl) rfl Tryz.ntmps17 rfl (by decide) (by simp) ?_
  refine a_seq ?_
  refine a_reg ?_
  repeat (first | refine gZ pk ?_ | (show AL _ _ _ _ _ _ _; first | refine jB (fun u => ?_) | refine jL tok (fun U6 => ?_)))
  refine zfb 3 3 rfl rfl ?_
  refine zfb 2 4 rfl rfl ?_
  refine zfb 1 5 rfl rfl ?_
  repeat (first | refine gV pk ?_ | (show AL _ _ _ _ _ _ _; first | refine jP hV ?_ | refine jP hA ?_ | refine jS tok 0 ?_))
  refine zfb 0 6 rfl rfl ?_
  refine a_ret ?_
  exact ⟨.inr rfl, _, _, [], rfl, Turn.of (Sub.refl _) (OSub.none _), rfl, rfl⟩
theorem iApplyV_spec (t : Tys) (w : Wat) (k i ty fr to c : Int) (hc : c ≠ 0)
    (hV : Pure Tryz.prog 15 [tysA t, watA w] (AI c)) :
    Pure Tryz.prog 17 [tysA t, watA w, .agg [AI k, AI i, AI ty, AI fr, AI to]] (.tup [watA zeroW, .im 2 [], AI c]) := by
  obtain ⟨ps, g, inj, ms⟩ := w
  refine a_enterM (rs := [.cell 6 37, .tmp 7, .tmp 8]) tok Tryz.func17 (by kernel_rfl) rfl Tryz.ntmps17 rfl (by decide) (by simp) ?_
  refine a_seq ?_
  refine a_reg ?_
  repeat (first | refine gZ pk ?_ | (show AL _ _ _ _ _ _ _; first | refine jB (fun u => ?_) | refine jL tok (fun U6 => ?_)))
  refine zfb 3 3 rfl rfl ?_
  refine zfb 2 4 rfl rfl ?_
  refine zfb 1 5 rfl rfl ?_
  repeat (first | refine gV pk ?_ | (show AL _ _ _ _ _ _ _; first | refine jP hV ?_ | refine jS tok 0 ?_))
  refine zfb 0 6 rfl rfl ?_
  refine a_ret ?_
  exact ⟨.inr rfl, _, _, [], rfl, Turn.of (Sub.tup (l := [.agg [nilS, nilS, nilS, AB false, nilS], nilS, AI c]) (m := [watA ⟨[], ⟨[], []⟩, false, []⟩, .im 2 [], AI c]) ⟨Sub.agg (m := [grsA [], ints [], edsA [], AB false, mssA []]) ⟨Sub.nil 2, Sub.nil 1, Sub.nil 3, Sub.refl _, Sub.nil 1, trivial⟩, Sub.nil 2, Sub.refl _, trivial⟩) (OSub.none _), rfl, rfl⟩
theorem iApplyF_spec (t : Tys) (ht : Small t) (w : Wat) (hw : WatOk w) (e : Edt) :
    Pure Tryz.prog 17 [tysA t, watA w, .agg (cEt e)] (.tup [watA (applyR t w e).1, .im 2 ((applyR t w e).2.1.map cDel), AI (applyR t w e).2.2]) := by
  have hV := ivalid_spec t ht w hw
  rw [applyR_eq]
  by_cases hv : wvalE t w = 0
  · rw [if_neg (Decidable.not_not.2 hv)]
    rw [hv] at hV
    exact iApplyG_spec t w _ _ e.kind e.idx e.ty e.fr e.to _ hV (iapply_spec t ht w hv e)
  · rw [if_pos hv]
    exact iApplyV_spec t w e.kind e.idx e.ty e.fr e.to _ hv hV
end Go.Proofs.YtddohheabpiljaaGreat
end
section
namespace Go.Proofs.YtddohheabpiljaaGreat
open Go.Sj Go.Sj.Typ Go.Sj.Sta Go.Sj.Inc
set_option maxRecDepth 8000
set_option maxHeartbeats 16000000
theorem allR_facts {t : Tys} {ps : List Gr} {g : Gr} {inj : Bool} (h : matsE t ps g inj = 0) : ∀ p ∈ ps, GV p ∧ (allR t p g inj).1 = matL (seaA t p g inj) ∧ (matL (seaA t p g inj)).length ≤ 5000 := fun p hp => by
  have h2 := (matsE_zero h).2.2 p hp
  exact ⟨(zvz (allR_zero h2)).2.1, (allR_mat h2).1, (allR_mat h2).2⟩
end Go.Proofs.YtddohheabpiljaaGreat
end
section
namespace Go.Proofs.YtddohheabpiljaaGreat
open Go.Sj Go.Sj.Typ
set_option maxRecDepth 8000
set_option maxHeartbeats 4000000
def exTys : Tys := ⟨[⟨⟨#[65, 99, 99, 111, 117, 110, 116]⟩, -1, true, [⟨⟨#[98, 97, 108, 97, 110, 99, 101]⟩, -1000, 1000, []⟩]⟩, ⟨⟨#[67, 97, 115, 104]⟩, 0, false, []⟩,
  ⟨⟨#[76, 111, 97, 110]⟩, 0, false, [⟨⟨#[115, 116, 97, 116, 101]⟩, 0, 1, [⟨#[111, 112, 101, 110]⟩, ⟨#[99, 108, 111, 115, 101, 100]⟩]⟩]⟩, ⟨⟨#[80, 101, 114, 115, 111, 110]⟩, -1, false, []⟩],
  [⟨⟨#[111, 119, 110, 115]⟩, 3, 0, 0, -1, 1, 1⟩, ⟨⟨#[112, 97, 121, 115]⟩, 1, 1, 0, -1, 0, -1⟩]⟩
theorem exSmall : Small exTys := ⟨by decide, by decide, by decide, by decide⟩
def exRaw : AV := .agg [.im 4 [[AS ⟨#[65, 99, 99, 111, 117, 110, 116]⟩, AI (-1), AB true, .im 4 [[AS ⟨#[98, 97, 108, 97, 110, 99, 101]⟩, AI (-1000), AI 1000, .lit (.slice none 0 0)]]],
  [AS ⟨#[67, 97, 115, 104]⟩, AI 0, AB false, .lit (.slice none 0 0)],
  [AS ⟨#[76, 111, 97, 110]⟩, AI 0, AB false, .im 4 [[AS ⟨#[115, 116, 97, 116, 101]⟩, AI 0, AI 1, .im 1 [[AS ⟨#[111, 112, 101, 110]⟩], [AS ⟨#[99, 108, 111, 115, 101, 100]⟩]]]]],
  [AS ⟨#[80, 101, 114, 115, 111, 110]⟩, AI (-1), AB false, .lit (.slice none 0 0)]],
  .im 7 [[AS ⟨#[111, 119, 110, 115]⟩, AI 3, AI 0, AI 0, AI (-1), AI 1, AI 1], [AS ⟨#[112, 97, 121, 115]⟩, AI 1, AI 1, AI 0, AI (-1), AI 0, AI (-1)]]]
theorem exSub : Sub exRaw (tysA exTys) :=
  Sub.agg ⟨Sub.im ⟨⟨Sub.refl _, Sub.refl _, Sub.refl _, Sub.im ⟨⟨Sub.refl _, Sub.refl _, Sub.refl _, Sub.nil 1, trivial⟩, trivial⟩, trivial⟩,
    ⟨Sub.refl _, Sub.refl _, Sub.refl _, Sub.nil 4, trivial⟩, ⟨Sub.refl _, Sub.refl _, Sub.refl _, Sub.refl _, trivial⟩, ⟨Sub.refl _, Sub.refl _, Sub.refl _, Sub.nil 4, trivial⟩, trivial⟩, Sub.refl _, trivial⟩
theorem Example_spec : Pure Tryz.prog 31 [] (tysA exTys) := by
  refine a_enterC Tryz.func31 (by kernel_rfl) rfl Tryz.ntmps31 rfl (tok _ _ rfl) (by simp) ?_
  repeat (first | refine gV pk ?_ | (show AL _ _ _ _ _ _ _; first | refine jL tok (fun u => ?_) | refine s_frzNow 0 rfl rfl rfl (s_build tok rfl rfl rfl rfl rfl rfl rfl rfl (by decide) (by decide) (fun v => AL.nil ⟨v, rfl, rfl, rfl⟩)) ?_ | refine jS tok 0 ?_))
  refine zfb 0 0 rfl rfl ?_
  refine a_ret ?_
  exact ⟨.inr rfl, _, exRaw, _, _, rfl, rfl, Turn.of exSub (OSub.refl _), rfl, rfl⟩
end Go.Proofs.YtddohheabpiljaaGreat
end
section
namespace Go.Proofs.YtddohheabpiljaaGreat
open Go.Sj Go.Sj.Typ Go.Sj.Sta Go.Sj.Inc
set_option maxRecDepth 8000
set_option maxHeartbeats 16000000
def exP : Gr := ⟨[1, 1], [⟨1, 0, 1⟩]⟩
def exG : Gr := ⟨[1], []⟩
def exH : Gr := ⟨[1], [⟨1, 0, 0⟩]⟩
theorem exNew0 : matsE exTys [exP] exG false = 0 := by decide +kernel
theorem exNew1 : matsL exTys [exP] exG false = [[]] := by decide +kernel
theorem exFre1 : (freI exTys exP exH true false 0) = ([([0, 0], [0])], 0) := by decide +kernel
theorem exEdit : editE exG ⟨2, 0, 1, 0, 0⟩ 4 2 = 0 := by decide +kernel
theorem exPV : GV exP := gvalid_zero.1 (by decide +kernel)
theorem exHV : GV exH := gvalid_zero.1 (by decide +kernel)
abbrev exW : Wat := ⟨[exP], exG, false, [[]]⟩
abbrev exV : Wat := ⟨[exP], exH, false, [[([0, 0], [0])]]⟩
theorem exNew : newR exTys [exP] exG false = (exW, 0) := by
  unfold newR
  rw [exNew0, exNew1]
  rfl
theorem exVal : wvalE exTys exW = 0 := by
  unfold wvalE
  rw [exNew0, exNew1]
  rfl
theorem exFreC : freC exTys exP exH true false = [([0, 0], [0])] := by
  show (List.range 1).flatMap (fun i => (freI exTys exP exH true false i).1) = _
  show (freI exTys exP exH true false 0).1 ++ [] = _
  rw [exFre1]
  rfl
theorem ext_le (t : Tys) (p g : Gr) (a b : List Int) (inj : Bool) : (extR t p g a b inj).1.length ≤ 5000 := by
  unfold extR capR
  repeat' split
  all_goals first | exact Nat.zero_le _ | (simp only; omega)
theorem exFresh : Pure Tryz.prog 66 [tysA exTys, grA exP, grA exH, AB true, AB false] (.tup [mosA [([0, 0], [0])], AI 0]) :=
  fresh_spec exTys exSmall exP exH exPV exHV true false (fun i hi => by
    have : i = 0 := by
      have : i < 1 := hi
      omega
    subst this
    rw [exFre1]) (by rw [exFreC]; decide) (fun i => ext_le _ _ _ _ _ _) [([0, 0], [0])] [([0, 0], [0])] (by rw [exFreC]; exact fun v => sort1_spec v _ _ (by decide)) (fun v => (compact1_spec v _ _ (by decide)).mono fun y M h => ⟨v, h.1, h.2⟩)
theorem exMerged : Gives Tryz.prog 67 [mosA [], mosA [([0, 0], [0])]] 95 2 (([([0, 0], [0])] : List Mo).map cMo) :=
  merged_spec [] [([0, 0], [0])] [([0, 0], [0])] (by decide) (by decide) (fun v => sort1_spec v _ _ (by decide))
theorem exMoB : ∀ x ∈ ([([0, 0], [0])] : List Mo), MoB x := fun x hx => by
  have : x = ([0, 0], [0]) := by simpa using hx
  subst this
  exact ⟨by decide, by decide⟩
theorem exWOk : WatOk exW := ⟨fun p hp => by
  have : p = exP := by simpa using hp
  subst this
  exact ⟨by decide, by decide⟩, by decide, ⟨by decide, by decide⟩, fun l hl => by
  have : l = [] := by simpa using hl
  subst this
  exact ⟨by decide, by simp⟩, by decide⟩
theorem exEd : Pure Tryz.prog 54 [grA exG, .agg [AI 2, AI 0, AI 1, AI 0, AI 0], AI (exTys.nodes.map cNod).length, AI (exTys.edges.map cEdg).length] (AI 0) := by
  have h := iedit_spec exG ⟨by decide, by decide⟩ (by decide) ⟨2, 0, 1, 0, 0⟩ ((exTys.nodes.map cNod).length : Nat) ((exTys.edges.map cEdg).length : Nat)
  have h0 : editE exG ⟨2, 0, 1, 0, 0⟩ ((exTys.nodes.map cNod).length : Nat) ((exTys.edges.map cEdg).length : Nat) = 0 := exEdit
  rw [h0] at h
  exact h
theorem exApply : Pure Tryz.prog 17 [tysA exTys, watA exW, .agg [AI 2, AI 0, AI 1, AI 0, AI 0]] (.tup [watA exV, .im 2 (([[([0, 0], [0])]] : List (List Mo)).map cDelN), AI 0]) :=
  iApply_spec exTys exW exV 2 0 1 0 0 _ (by have h := ivalid_spec exTys exSmall exW exWOk; rw [exVal] at h; exact h)
    (iapplyA_spec exTys exSmall exW 2 0 1 0 0 true (.inr ⟨rfl, rfl⟩) exH [[([0, 0], [0])]] [[([0, 0], [0])]] (by decide) (fun p hp => by
      have : p = exP := by simpa using hp
      subst this
      exact ⟨by decide, by decide⟩) rfl rfl rfl exEd (ieditedE_spec exG (by decide) (by decide) 0 1 0 0) (fun j p hp => by
      have hj : j = 0 := by
        have h1 := (List.getElem?_eq_some_iff.1 hp).1
        have h2 : j < 1 := h1
        omega
      subst hj
      have hp' : p = exP := by
        have h3 : some exP = some p := hp
        cases h3
        rfl
      subst hp'
      exact ⟨[([0, 0], [0])], [], [([0, 0], [0])], rfl, rfl, rfl, by decide, by decide, exMoB, exMoB, exFresh, exMerged⟩))
theorem awakeI_spec : Pure Tryz.prog 10 [] (AB true) := by
  have s0 := Example_spec
  have s1 := Pure.subA (inew_spec exTys exSmall [exP] exG false (fun p hp => by
      have : p = exP := by simpa using hp
      subst this
      exact ⟨by decide, by decide⟩) (by decide) ⟨by decide, by decide⟩) (args' := [tysA exTys, grsA [exP], .agg [ints [1], nilS], AB false]) ⟨Sub.refl _, Sub.refl _, Sub.agg (m := [ints [1], edsA []]) ⟨Sub.refl _, Sub.nil 3, trivial⟩, Sub.refl _, trivial⟩
  rw [exNew] at s1
  have s2 := exApply
  have ka : (([[]] : List (List Mo)).map cMos)[(0 : Int).toNat]? = some [mosA []] := rfl
  have kb : (([[([0, 0], [0])]] : List (List Mo)).map cMos)[(0 : Int).toNat]? = some [mosA [([0, 0], [0])]] := rfl
  have kc : (([[([0, 0], [0])]] : List (List Mo)).map cDelN)[(0 : Int).toNat]? = some [mosA [([0, 0], [0])], mosA []] := rfl
  generalize exTys.nodes = N at *
  generalize exTys.edges = E at *
  refine zen Tryz.func10 (by kernel_rfl) rfl Tryz.ntmps10 rfl (by simp) ?_
  repeat (first | refine gA pk ?_ | (show AL _ _ _ _ _ _ _; first | refine jP s0 ?_ | refine jP s1 ?_ | refine jP s2 ?_ | refine s_frzNow 0 rfl rfl rfl (s_build tok rfl rfl rfl rfl rfl rfl rfl rfl (by decide) (by decide) (fun v => AL.nil ⟨v, rfl, rfl, rfl⟩)) ?_ | refine jL tok (fun u => ?_) | refine jS tok 0 ?_ | refine jO tok 0 ?_ | refine jO tok 1 ?_ | refine jO tok 2 ?_ | refine jO tok 3 ?_ | refine jX tok ka ?_ | refine jX tok kb ?_ | refine jX tok kc ?_))
  refine finQ ?_
  exact ⟨rfl, rfl⟩
end Go.Proofs.YtddohheabpiljaaGreat
end
section
namespace Go.Proofs.YtddohheabpiljaaGreat
open Go.Sj Go.Sj.Typ Go.Sj.Sta Go.Sj.Inc
set_option maxRecDepth 8000
set_option maxHeartbeats 16000000
theorem gSD_spec (D : List Del) (hl : D.length ≤ 1000000) (hb : ∀ d ∈ D, (d.1.length ≤ 1000000 ∧ ∀ m ∈ d.1, MoB m) ∧ d.2.length ≤ 1000000 ∧ ∀ m ∈ d.2, MoB m) : Pure Tryz.prog 21 [.im 2 (D.map cDel), .im 2 (D.map cDel)] (AB true) := by
  have lD : (D.map cDel).length = D.length := by simp
  refine zen Tryz.func21 (by kernel_rfl) rfl Tryz.ntmps21 rfl (by simp) ?_
  repeat (first | refine gA pk ?_)
  refine zlx (fun i : Nat => [(0, .im 2 (D.map cDel)), (1, .im 2 (D.map cDel)), (5, AI i)]) (fun _ => []) (fun i => i ≤ D.length) (fun i => D.length - i) 0 (Nat.zero_le _) ?_ (OSub.none _) ?_
  · exact subQ
  intro i hi
  rcases Nat.lt_or_ge i D.length with h | h
  · have h1 := List.getElem?_eq_getElem h
    obtain ⟨⟨b1, b2⟩, b3, b4⟩ := hb _ (List.getElem_mem h)
    generalize D[i] = d at h1 b1 b2 b3 b4
    have s1 := gSameAll_spec d.1 d.1 b2 b2 b1 b1
    have s2 := gSameAll_spec d.2 d.2 b4 b4 b3 b3
    rw [decide_eq_true rfl] at s1 s2
    have xk0 : (D.map cDel)[(i : Int).toNat]? = some (cDel d) := zmp (f := cDel) h1
    obtain ⟨d1, d2⟩ := d
    have xk : (D.map cDel)[(i : Int).toNat]? = some [mosA d1, mosA d2] := xk0
    repeat (first | refine gN pk ?_)
    refine zrg ((List.range 26).map fun i => if inL [10, 23] i = true then .eff else if inL [2, 4, 7, 9, 15, 17, 20, 22] i = true then .read else .pure) [] [0, 1, 2, 3, 4, 5, 6, 7, 8, 9, 10, 11, 12, 13, 14, 15, 16, 17, 18, 19, 20, 21, 22, 23, 24, 25] .stop mixed rfl rfl (by decide +kernel) ?_
    repeat' (first | (with_reducible show AG _ _ _ _ _ _ _ _ _ _; first | exact zgn | refine zgs ?_ | refine znd ?_ ?_) | (show AMid _ _ _ _; first | refine zmf ?_ | refine zmg (by first | exact OSub.refl _ | exact .drop (OSub.refl _) | exact .drop (.drop (OSub.refl _))) ?_) | refine gY pk ?_ | (show AL _ _ _ _ _ _ _; first | refine jX tok xk ?_ | refine jP s1 ?_ | refine jP s2 ?_) | fail)
    repeat (first | refine gA pk ?_)
    exact ⟨i + 1, by omega, by omega, by exact subQ, OSub.none _⟩
  · repeat (first | refine gA pk ?_)
    refine finQ ?_
    exact ⟨rfl, rfl⟩
end Go.Proofs.YtddohheabpiljaaGreat
end
section
namespace Go.Proofs.YtddohheabpiljaaGreat
open Go.Sj Go.Sj.Typ Go.Sj.Sta Go.Sj.Inc
set_option maxRecDepth 8000
set_option maxHeartbeats 16000000
theorem watOk_valid {t : Tys} {w : Wat} (h : wvalE t w = 0) : WatOk w ∧ GV w.g ∧ w.ps.length ≤ 5 ∧ (∀ p ∈ w.ps, GV p) ∧ w.ms.length = w.ps.length ∧ ∀ l ∈ w.ms, l.length ≤ 5000 := by
  obtain ⟨h1, h2⟩ := wval_zero h
  obtain ⟨hg, h5, hall⟩ := matsE_zero h1
  have hf := allR_facts h1
  have hml : w.ms.length = w.ps.length := by rw [h2]; unfold matsL; rw [List.length_map]
  have hms : ∀ l ∈ w.ms, l.length ≤ 5000 ∧ ∀ m ∈ l, MoB m := fun l hl => by
    rw [h2] at hl
    unfold matsL at hl
    obtain ⟨p, hp, rfl⟩ := List.mem_map.1 hl
    obtain ⟨q1, q2, q3⟩ := hf p hp
    rw [q2]
    exact ⟨q3, fun m hm => mat_mob q1 hm⟩
  exact ⟨⟨fun p hp => (gv_small (hf p hp).1).1, by omega, (gv_small hg).1, fun l hl => ⟨by have := (hms l hl).1; omega, (hms l hl).2⟩, by omega⟩, hg, h5, fun p hp => (hf p hp).1, hml, fun l hl => (hms l hl).1⟩
abbrev watC (w : Wat) : List AV := [grsA w.ps, ints w.g.nodes, edsA w.g.edges, AB w.inj, mssA w.ms]
end Go.Proofs.YtddohheabpiljaaGreat
end
section
namespace Go.Sj.Can
open Go.Sj Go.Sj.Sta Go.Sj.Typ
set_option maxRecDepth 8000
structure Dr5 where
  nodes : List Int
  edges : List (Int × Int × Int)
abbrev RDr5 := List Int × List (List Int) × Unit
def toDr5 (x : RDr5) : Dr5 := ⟨x.1, x.2.1.map toC3⟩
abbrev dr5L (d : Dr5) : List AV := [bytesA d.nodes, .im 3 (d.edges.map c83)]
abbrev dr5A (d : Dr5) : AV := .agg (dr5L d)
def gDr5 (x : RDr5) : List AV := [.im 1 (x.1.map fun n => [.lit (.int .u8 n)])] ++ ([.im 3 (x.2.1.map g8s)] ++ [])
structure OkD5 (d : Dr5) : Prop where
  nodes : ∀ n ∈ d.nodes, 0 ≤ n ∧ n ≤ 255
  edges : ∀ c ∈ d.edges, In3 c
  nl : d.nodes.length ≤ 140737488355328
  gl : d.edges.length ≤ 140737488355328
abbrev okRD5 (x : RDr5) : Prop := ((∀ m ∈ x.1, (Lit.int .u8 m).wf = true) ∧ x.1.length ≤ reachBytes) ∧ ((∀ a ∈ x.2.1, a.length = 3 ∧ ∀ m ∈ a, (Lit.int .u8 m).wf = true) ∧ x.2.1.length ≤ reachBytes) ∧ True
theorem dr5_ok {x : RDr5} (hx : okRD5 x) : OkD5 (toDr5 x) := by
  have r3 := hx.1.2
  have r4 := hx.2.1.2
  unfold reachBytes at r3 r4
  refine ⟨fun n hn => wf_n8 (hx.1.1 n hn), fun c hc => ?_, ?_, ?_⟩
  · obtain ⟨a, ha, rfl⟩ := List.mem_map.1 hc
    exact toC3_ok (hx.2.1.1 a ha)
  · show x.1.length ≤ _
    omega
  · show (x.2.1.map toC3).length ≤ _
    rw [List.length_map]; omega
section
variable {g : Gr} {p q : List Int} (h : GV g) (hp : Prm p g.nodes.length) (hq : Prm q g.edges.length)
include h hp hq
end
end Go.Sj.Can
end
