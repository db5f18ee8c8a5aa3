/- Parts of a proof. -/
import Derived.Test.YtddohheabpiljaaGreatU50
set_option linter.unusedVariables false
set_option linter.unusedSimpArgs false
section
namespace Go.Proofs.YtddohheabpiljaaGreat
open Go.Sj Go.Sj.Typ Go.Sj.Sta Go.Sj.Inc Go.Sj.Can
set_option maxRecDepth 8000
set_option maxHeartbeats 16000000
abbrev Q4 := Int × Int × Int × Int
def cQ4 (x : Q4) : List AV := [A8 x.1, A8 x.2.1, A8 x.2.2.1, A8 x.2.2.2]
def InQ (x : Q4) : Prop := (0 ≤ x.1 ∧ x.1 ≤ 255) ∧ (0 ≤ x.2.1 ∧ x.2.1 ≤ 255) ∧ (0 ≤ x.2.2.1 ∧ x.2.2.1 ≤ 255) ∧ 0 ≤ x.2.2.2 ∧ x.2.2.2 ≤ 255
end Go.Proofs.YtddohheabpiljaaGreat
end
section
namespace Go.Proofs.YtddohheabpiljaaGreat
open Go.Sj Go.Sj.Typ Go.Sj.Sta Go.Sj.Inc Go.Sj.Can
set_option maxRecDepth 8000
set_option maxHeartbeats 16000000
abbrev RDr20 := List (List Int) × List (List Int) × List RDr5 × RDr5 × Bool × Unit
def toDr20 (x : RDr20) : Dr20 := ⟨x.1.map toC2, x.2.1.map toC2, x.2.2.1.map toDr5, toDr5 x.2.2.2.1, x.2.2.2.2.1⟩
def gDr20 (x : RDr20) : List AV := [.im 2 (x.1.map g8s)] ++ ([.im 2 (x.2.1.map g8s)] ++ ([.im 2 (x.2.2.1.map gDr5)] ++ (gDr5 x.2.2.2.1 ++ ([.lit (.bool x.2.2.2.2.1)] ++ []))))
theorem gDr5_eq {x : RDr5} (hx : okRD5 x) : gDr5 x = dr5L (toDr5 x) := by
  have e3 : x.2.1.map g8s = (x.2.1.map toC3).map c83 := by rw [List.map_map]; exact List.map_congr_left fun a ha => toC3_c (hx.2.1.1 a ha).1
  show [AV.im 1 (x.1.map fun n => [.lit (.int .u8 n)]), AV.im 3 (x.2.1.map g8s)] = _
  rw [e3]; rfl
abbrev okRD20 (x : RDr20) : Prop := ((∀ a ∈ x.1, a.length = 2 ∧ ∀ m ∈ a, (Lit.int .u8 m).wf = true) ∧ x.1.length ≤ reachBytes) ∧ ((∀ a ∈ x.2.1, a.length = 2 ∧ ∀ m ∈ a, (Lit.int .u8 m).wf = true) ∧ x.2.1.length ≤ reachBytes) ∧
  ((∀ a ∈ x.2.2.1, okRD5 a) ∧ x.2.2.1.length ≤ reachBytes) ∧ okRD5 x.2.2.2.1 ∧ True ∧ True
theorem dr20_vr {σ : Hp} {v : Value} {x : RDr20} (hx : okRD20 x) (h : VR σ (.agg (gDr20 x)) v) : VR σ (.agg (dr20L (toDr20 x))) v := by
  have e1 : x.1.map g8s = (x.1.map toC2).map c82 := by rw [List.map_map]; exact List.map_congr_left fun a ha => toC2_c (hx.1.1 a ha).1
  have e2 : x.2.1.map g8s = (x.2.1.map toC2).map c82 := by rw [List.map_map]; exact List.map_congr_left fun a ha => toC2_c (hx.2.1.1 a ha).1
  have e3 : x.2.2.1.map gDr5 = (x.2.2.1.map toDr5).map dr5L := by rw [List.map_map]; exact List.map_congr_left fun a ha => gDr5_eq (hx.2.2.1.1 a ha)
  have e : gDr20 x = dr20L (toDr20 x) := by
    unfold gDr20
    rw [e1, e2, e3, gDr5_eq hx.2.2.2.1]
    rfl
  rw [e] at h
  exact h
theorem dr20_ok {x : RDr20} (hx : okRD20 x) : OkD20 (toDr20 x) := by
  have r1 := hx.1.2
  have r2 := hx.2.1.2
  have r3 := hx.2.2.1.2
  unfold reachBytes at r1 r2 r3
  refine ⟨fun c hc => ?_, fun c hc => ?_, ?_, ?_, fun p hp => ?_, ?_, dr5_ok hx.2.2.2.1⟩
  · obtain ⟨a, ha, rfl⟩ := List.mem_map.1 hc
    exact toC2_ok (hx.1.1 a ha)
  · obtain ⟨a, ha, rfl⟩ := List.mem_map.1 hc
    exact toC2_ok (hx.2.1.1 a ha)
  · show (x.1.map toC2).length ≤ _
    rw [List.length_map]; omega
  · show (x.2.1.map toC2).length ≤ _
    rw [List.length_map]; omega
  · obtain ⟨a, ha, rfl⟩ := List.mem_map.1 hp
    exact dr5_ok (hx.2.2.1.1 a ha)
  · show (x.2.2.1.map toDr5).length ≤ _
    rw [List.length_map]; omega
def toQ4 : List Int → Q4
  | [a, b, c, d] => (a, b, c, d)
  | _ => (0, 0, 0, 0)
theorem toQ4_c {l : List Int} (h : l.length = 4) : (l.map fun m => AV.lit (.int .u8 m)) = cQ4 (toQ4 l) := by
  match l, h with
  | [a, b, c, d], _ => rfl
theorem toQ4_in {l : List Int} (h : l.length = 4 ∧ ∀ m ∈ l, (Lit.int .u8 m).wf = true) : InQ (toQ4 l) := by
  obtain ⟨h1, h2⟩ := h
  match l, h1 with
  | [a, b, c, d], _ => exact ⟨wf_n8 (h2 a (by simp)), wf_n8 (h2 b (by simp)), wf_n8 (h2 c (by simp)), wf_n8 (h2 d (by simp))⟩
end Go.Proofs.YtddohheabpiljaaGreat
end
section
namespace Go.Proofs.YtddohheabpiljaaGreat
open Go.Sj Go.Sj.Typ Go.Sj.Sta Go.Sj.Inc Go.Sj.Can
set_option maxRecDepth 8000
set_option maxHeartbeats 16000000
theorem flat_len {A : Type} (f : Nat → List A) (B : Nat) : ∀ k, (∀ i, i < k → (f i).length ≤ B) → ((List.range k).flatMap f).length ≤ k * B
  | 0, _ => by simp
  | k + 1, h => by
    have h1 := flat_len f B k (fun i hi => h i (by omega))
    have h2 := h k (by omega)
    rw [List.range_succ, List.flatMap_append, List.length_append, Nat.add_mul]
    simp only [List.flatMap_cons, List.flatMap_nil, List.append_nil]
    omega
theorem find_len {S : Sea} : ∀ (m : Nat) (ns es : List Int), m = remS S ns es → ns.length ≤ S.p.nodes.length → es.length ≤ S.p.edges.length → (findL S m ns es).length ≤ S.g.nodes.length ^ (S.p.nodes.length - ns.length) * S.g.edges.length ^ (S.p.edges.length - es.length)
  | 0, ns, es, hm, hn, he => by
    unfold remS at hm
    rw [show S.p.nodes.length - ns.length = 0 by omega, show S.p.edges.length - es.length = 0 by omega]
    unfold findL
    simp
  | m + 1, ns, es, hm, hn, he => by
    unfold remS at hm
    unfold findL
    split
    · rename_i hlt
      obtain ⟨k, hk⟩ : ∃ k, S.p.nodes.length - ns.length = k + 1 := ⟨S.p.nodes.length - ns.length - 1, by omega⟩
      rw [hk, Nat.pow_succ, Nat.mul_comm (_ ^ k), Nat.mul_assoc]
      refine flat_len _ _ _ fun i hi => ?_
      split
      · have h := find_len m (ns ++ [(i : Int)]) es (by unfold remS; simp only [List.length_append, List.length_cons, List.length_nil]; omega) (by simp; omega) he
        rw [show S.p.nodes.length - (ns ++ [(i : Int)]).length = k by simp; omega] at h
        exact h
      · exact Nat.zero_le _
    · rename_i hlt
      obtain ⟨k, hk⟩ : ∃ k, S.p.edges.length - es.length = k + 1 := ⟨S.p.edges.length - es.length - 1, by omega⟩
      rw [hk, Nat.pow_succ, Nat.mul_comm (_ ^ k), ← Nat.mul_assoc, Nat.mul_comm (_ ^ _), Nat.mul_assoc]
      refine flat_len _ _ _ fun i hi => ?_
      split
      · have h := find_len m ns (es ++ [(i : Int)]) (by unfold remS; simp only [List.length_append, List.length_cons, List.length_nil]; omega) hn (by simp; omega)
        rw [show S.p.edges.length - (es ++ [(i : Int)]).length = k by simp; omega] at h
        exact h
      · exact Nat.zero_le _
theorem pow_small {n a b : Nat} (hn : n ≤ b) (hb : 1 ≤ b) (ha : a ≤ 2) : n ^ a ≤ b ^ 2 := Nat.le_trans (Nat.pow_le_pow_left hn a) (Nat.pow_le_pow_right hb ha)
theorem mat_few {t : Tys} {p g : Gr} {inj : Bool} (h1 : p.nodes.length ≤ 2) (h2 : p.edges.length ≤ 2) (h3 : g.nodes.length ≤ 7) (h4 : g.edges.length ≤ 9) : (matL (seaA t p g inj)).length ≤ 5000 := by
  have h := find_len (S := seaA t p g inj) _ [] [] rfl (Nat.zero_le _) (Nat.zero_le _)
  have h5 : (matL (seaA t p g inj)).length ≤ g.nodes.length ^ p.nodes.length * g.edges.length ^ p.edges.length := h
  have h6 := Nat.mul_le_mul (pow_small h3 (by decide) h1) (pow_small h4 (by decide) h2)
  exact Nat.le_trans h5 (Nat.le_trans h6 (by decide))
theorem edit_errs {g : Gr} {e : Edt} {nt et : Int} (hk : 1 ≤ e.kind ∧ e.kind ≤ 4) (hn : g.nodes.length ≤ 6) (he : g.edges.length ≤ 8) : editE g e nt et = 0 ∨ editE g e nt et = 6 ∨ editE g e nt et = 14 ∨ editE g e nt et = 13 := by
  unfold editE
  repeat' split
  all_goals first | omega | simp
theorem ediG_len (g : Gr) (e : Edt) : (ediG g e).nodes.length ≤ g.nodes.length + 1 ∧ (ediG g e).edges.length ≤ g.edges.length + 1 := by
  unfold ediG
  split
  · simp
  · split
    · simp
    · split
      · have := List.length_eraseIdx_le g.nodes e.idx.toNat
        simp only [List.length_map]
        omega
      · have := List.length_eraseIdx_le g.edges e.idx.toNat
        simp only
        omega
theorem part_len (q : Mo → Bool) (l : List Mo) : (l.filter q).length + (l.filter fun x => !q x).length = l.length := by
  have := (List.filter_append_perm q l).length_eq
  rw [List.length_append] at this
  exact this
theorem applyB_small {t : Tys} (ht : Small t) {w : Wat} (hv : wvalE t w = 0) (hs : SzW w) {e : Edt} (he : edtE t w.g e = 0) :
    matsE t w.ps (ediG w.g e) w.inj = 0 ∧ applyB t w e = (⟨w.ps, ediG w.g e, w.inj, w.ps.map fun p => matL (seaA t p (ediG w.g e) w.inj)⟩, w.ps.map (delR t w.g e w.inj), 0) ∧
    ∀ p ∈ w.ps, (matL (seaA t p (ediG w.g e) w.inj)).length ≤ 5000 ∧ (matL (seaA t p w.g w.inj)).length ≤ 5000 ∧ (matL (seaA t p (ediG w.g e) w.inj)).length + (delR t w.g e w.inj p).2.length = (matL (seaA t p w.g w.inj)).length + (delR t w.g e w.inj p).1.length := by
  have hE := edOk ht hv he
  have hl := ediG_len w.g e
  have h1 := hs.gn
  have h2 := hs.ge
  have hall : ∀ p ∈ w.ps, validS t p (ediG w.g e) = 0 ∧ (matL (seaA t p (ediG w.g e) w.inj)).length ≤ 5000 := fun p hp => ⟨(hE.hv p hp).2.1, mat_few (hs.ps p hp).1 (hs.ps p hp).2 (by omega) (by omega)⟩
  have hM := matsE_ok hE.hv0 hE.hl hall
  refine ⟨hM, ?_, fun p hp => ⟨(hall p hp).2, (hE.hv p hp).2.2, ?_⟩⟩
  · unfold applyB
    rw [if_neg (Decidable.not_not.2 he), if_neg (Decidable.not_not.2 hM), matsL_ok hall]
  · have hgp := (zvz (hE.hv p hp).1).2.1
    unfold delR
    rcases edit_kind he with ⟨hk, a, b⟩ | ⟨hk, a, b, c, d⟩ | ⟨hk, a, b⟩ | ⟨hk, a⟩
    · rw [if_pos hk]
      have e1 : ediG w.g e = ⟨w.g.nodes ++ [e.ty], w.g.edges⟩ := by unfold ediG; rw [if_pos hk]
      have h3 := mat_restN (t := t) (p := p) (g := w.g) (inj := w.inj) (ty := e.ty)
      rw [← e1] at h3
      have h4 := part_len (hasN w.g.nodes.length) (matL (seaA t p (ediG w.g e) w.inj))
      rw [h3] at h4
      show _ + 0 = _ + (List.filter _ _).length
      omega
    · rw [if_neg (by omega), if_pos hk]
      have e1 : ediG w.g e = ⟨w.g.nodes, w.g.edges ++ [⟨e.ty, e.fr, e.to⟩]⟩ := by unfold ediG; rw [if_neg (by omega), if_pos hk]
      have h3 := mat_restE (t := t) (p := p) (g := w.g) (inj := w.inj) (y := ⟨e.ty, e.fr, e.to⟩)
      rw [← e1] at h3
      have h4 := part_len (hasE w.g.edges.length) (matL (seaA t p (ediG w.g e) w.inj))
      rw [h3] at h4
      show _ + 0 = _ + (List.filter _ _).length
      omega
    · rw [if_neg (by omega), if_neg (by omega), if_pos hk]
      obtain ⟨d, hd⟩ : ∃ d : Nat, e.idx = d := ⟨e.idx.toNat, by omega⟩
      have e1 : ediG w.g e = ⟨w.g.nodes.eraseIdx d, w.g.edges.map (lesE d)⟩ := by unfold ediG; rw [if_neg (by omega), if_neg (by omega), if_pos hk, hd, Int.toNat_natCast]
      have h3 := mat_cutN (t := t) (p := p) (g := w.g) (inj := w.inj) (d := d) hgp (by omega) (fun y hy => by
        have := b y hy
        rw [hd] at this
        exact this)
      rw [← e1] at h3
      have h4 := part_len (hasN d) (matL (seaA t p w.g w.inj))
      have h5 := congrArg List.length h3
      rw [List.length_map] at h5
      rw [hd]
      show _ + (List.filter _ _).length = _ + 0
      omega
    · rw [if_neg (by omega), if_neg (by omega), if_neg (by omega)]
      obtain ⟨d, hd⟩ : ∃ d : Nat, e.idx = d := ⟨e.idx.toNat, by omega⟩
      have e1 : ediG w.g e = ⟨w.g.nodes, w.g.edges.eraseIdx d⟩ := by unfold ediG; rw [if_neg (by omega), if_neg (by omega), if_neg (by omega), hd, Int.toNat_natCast]
      have h3 := mat_cutE (t := t) (p := p) (g := w.g) (inj := w.inj) (d := d) (by omega)
      rw [← e1] at h3
      have h4 := part_len (hasE d) (matL (seaA t p w.g w.inj))
      have h5 := congrArg List.length h3
      rw [List.length_map] at h5
      rw [hd]
      show _ + (List.filter _ _).length = _ + 0
      omega
end Go.Proofs.YtddohheabpiljaaGreat
end
section
namespace Go.Proofs.YtddohheabpiljaaGreat
open Go.Sj Go.Sj.Typ Go.Sj.Sta Go.Sj.Inc Go.Sj.Can
set_option maxRecDepth 8000
set_option maxHeartbeats 16000000
theorem delR_len (t : Tys) (g : Gr) (e : Edt) (inj : Bool) (p : Gr) : (delR t g e inj p).1.length ≤ (matL (seaA t p (ediG g e) inj)).length ∧ (delR t g e inj p).2.length ≤ (matL (seaA t p g inj)).length := by
  unfold delR
  split
  · exact ⟨List.length_filter_le _ _, Nat.zero_le _⟩
  · split
    · exact ⟨List.length_filter_le _ _, Nat.zero_le _⟩
    · split
      · exact ⟨Nat.zero_le _, List.length_filter_le _ _⟩
      · exact ⟨Nat.zero_le _, List.length_filter_le _ _⟩
end Go.Proofs.YtddohheabpiljaaGreat
end
section
namespace Go.Proofs.YtddohheabpiljaaGreat
open Go.Sj Go.Sj.Typ Go.Sj.Sta Go.Sj.Inc
set_option maxRecDepth 8000
set_option maxHeartbeats 16000000
abbrev edt0 : Edt := ⟨0, 0, 0, 0, 0⟩
def oppE (g : Gr) (e : Edt) : Edt × Int :=
  if gvalid g ≠ 0 then (edt0, gvalid g)
  else if editE g e 100 100 ≠ 0 then (edt0, editE g e 100 100)
  else if e.kind = 1 then (⟨3, g.nodes.length, 0, 0, 0⟩, 0)
  else if e.kind = 2 then (⟨4, g.edges.length, 0, 0, 0⟩, 0)
  else if e.kind = 3 then (if e.idx = (g.nodes.length : Int) - 1 then (⟨1, 0, g.nodes[e.idx.toNat]?.getD 0, 0, 0⟩, 0) else (edt0, 8))
  else (if e.idx = (g.edges.length : Int) - 1 then
      (match g.edges[e.idx.toNat]? with
       | some x => (⟨2, 0, x.ty, x.fr, x.to⟩, 0)
       | none => (edt0, 0)) else (edt0, 8))
theorem editE_kind {g : Gr} {e : Edt} {a b : Int} (h : editE g e a b = 0) : (e.kind = 1 ∨ e.kind = 2 ∨ e.kind = 3 ∨ e.kind = 4) ∧ (e.kind = 3 → 0 ≤ e.idx ∧ e.idx < g.nodes.length) ∧ (e.kind = 4 → 0 ≤ e.idx ∧ e.idx < g.edges.length) := by
  unfold editE at h
  by_cases h1 : e.kind = 1
  · exact ⟨by omega, fun h => by omega, fun h => by omega⟩
  · rw [if_neg h1] at h
    by_cases h2 : e.kind = 2
    · exact ⟨by omega, fun h => by omega, fun h => by omega⟩
    · rw [if_neg h2] at h
      by_cases h3 : e.kind = 3
      · rw [if_pos h3] at h
        refine ⟨by omega, fun _ => ?_, fun h => by omega⟩
        by_cases h4 : 0 ≤ e.idx ∧ e.idx < g.nodes.length
        · exact h4
        · rw [if_neg h4] at h; cases h
      · rw [if_neg h3] at h
        by_cases h5 : e.kind = 4
        · rw [if_pos h5] at h
          refine ⟨by omega, fun h => by omega, fun _ => ?_⟩
          by_cases h4 : 0 ≤ e.idx ∧ e.idx < g.edges.length
          · exact h4
          · rw [if_neg h4] at h; cases h
        · rw [if_neg h5] at h; cases h
theorem iopp_spec (g : Gr) (hg : OkG g) (hgl : g.nodes.length ≤ 1000000) (hel : g.edges.length ≤ 1000000) (e : Edt) : Pure Tryz.prog 28 [grA g, .agg (cEt e)] (.tup [.agg (cEt (oppE g e).1), AI (oppE g e).2]) := by
  have s1 := gvalid_spec g hg
  have s2 := iedit_spec g hg hel e 100 100
  obtain ⟨r, hr⟩ : ∃ r, oppE g e = r := ⟨_, rfl⟩
  rw [hr]
  unfold oppE at hr
  have hk := fun h => editE_kind (g := g) (e := e) (a := 100) (b := 100) h
  have ll : (rowI g.nodes).length = g.nodes.length := by simp
  have le : (g.edges.map cEd).length = g.edges.length := by simp
  generalize gvalid g = vv at *
  generalize editE g e 100 100 = ee at *
  obtain ⟨gn, ge⟩ := g
  obtain ⟨k, i, ty, fr, to⟩ := e
  simp only at hr hk hgl hel ll le
  change Pure _ _ [.agg [ints gn, edsA ge], .agg [AI k, AI i, AI ty, AI fr, AI to], AI 100, AI 100] _ at s2
  change Pure _ _ [.agg [ints gn, edsA ge], .agg [AI k, AI i, AI ty, AI fr, AI to]] _
  refine a_enterM (rs := [.cell 4 47, .tmp 5]) tok Tryz.func28 (by kernel_rfl) rfl Tryz.ntmps28 rfl (by decide) (by simp) ?_
  refine a_seq ?_
  refine a_reg ?_
  repeat (first | refine gZ pk ?_ | (show AL _ _ _ _ _ _ _; first | refine jB (fun u => ?_) | refine jL tok (fun U4 => ?_)))
  refine zfb 2 2 rfl rfl ?_
  refine zfb 1 3 rfl rfl ?_
  by_cases hv : vv = 0
  rotate_left
  · rw [if_pos hv] at hr
    subst hr
    repeat (first | refine gV pk ?_ | (show AL _ _ _ _ _ _ _; first | refine jP s1 ?_ | refine jS tok 0 ?_))
    refine zfb 0 4 rfl rfl ?_
    refine a_ret ?_
    exact ⟨.inr rfl, _, _, [], rfl, Turn.of (Sub.refl _) (OSub.none _), rfl, rfl⟩
  subst hv
  rw [if_neg (by decide)] at hr
  by_cases he : ee = 0
  rotate_left
  · rw [if_pos he] at hr
    subst hr
    repeat (first | refine gV pk ?_ | (show AL _ _ _ _ _ _ _; first | refine jP s1 ?_ | refine jP s2 ?_ | refine jS tok 0 ?_))
    refine zfb 0 4 rfl rfl ?_
    refine a_ret ?_
    exact ⟨.inr rfl, _, _, [], rfl, Turn.of (Sub.refl _) (OSub.none _), rfl, rfl⟩
  subst he
  rw [if_neg (by decide)] at hr
  obtain ⟨hk1, hk3, hk4⟩ := hk rfl
  by_cases h1 : k = 1
  · subst h1
    rw [if_pos rfl] at hr
    subst hr
    repeat (first | refine gV pk ?_ | (show AL _ _ _ _ _ _ _; first | refine jP s1 ?_ | refine jP s2 ?_ | refine jS tok 0 ?_))
    refine zfb 0 4 rfl rfl ?_
    refine a_ret ?_
    rw [ll]
    exact ⟨.inr rfl, _, _, [], rfl, Turn.of (Sub.refl _) (OSub.none _), rfl, rfl⟩
  rw [if_neg h1] at hr
  by_cases h2 : k = 2
  · subst h2
    rw [if_pos rfl] at hr
    subst hr
    repeat (first | refine gV pk ?_ | (show AL _ _ _ _ _ _ _; first | refine jP s1 ?_ | refine jP s2 ?_ | refine jS tok 0 ?_))
    refine zfb 0 4 rfl rfl ?_
    refine a_ret ?_
    rw [le]
    exact ⟨.inr rfl, _, _, [], rfl, Turn.of (Sub.refl _) (OSub.none _), rfl, rfl⟩
  rw [if_neg h2] at hr
  by_cases h3 : k = 3
  · subst h3
    rw [if_pos rfl] at hr
    replace hk3 := hk3 rfl
    by_cases h : i = (gn.length : Int) - 1
    · rw [if_pos h] at hr
      have hx := List.getElem?_eq_getElem (l := gn) (i := i.toNat) (by omega)
      generalize gn[i.toNat] = x at hx
      rw [hx, Option.getD_some] at hr
      have xk : (rowI gn)[i.toNat]? = some [AI x] := zmp (f := cI) hx
      subst hr
      repeat (first | refine gV pk ?_ | (show AL _ _ _ _ _ _ _; first | refine jP s1 ?_ | refine jP s2 ?_ | refine jS tok 0 ?_ | refine jX tok xk ?_))
      refine zfb 0 4 rfl rfl ?_
      refine a_ret ?_
      exact ⟨.inr rfl, _, _, [], rfl, Turn.of (Sub.refl _) (OSub.none _), rfl, rfl⟩
    · rw [if_neg h] at hr
      subst hr
      repeat (first | refine gV pk ?_ | (show AL _ _ _ _ _ _ _; first | refine jP s1 ?_ | refine jP s2 ?_ | refine jS tok 0 ?_))
      refine zfb 0 4 rfl rfl ?_
      refine a_ret ?_
      exact ⟨.inr rfl, _, _, [], rfl, Turn.of (Sub.refl _) (OSub.none _), rfl, rfl⟩
  rw [if_neg h3] at hr
  obtain rfl : k = 4 := by omega
  replace hk4 := hk4 rfl
  by_cases h : i = (ge.length : Int) - 1
  · rw [if_pos h] at hr
    have hx := List.getElem?_eq_getElem (l := ge) (i := i.toNat) (by omega)
    generalize ge[i.toNat] = x at hx
    obtain ⟨x1, x2, x3⟩ := x
    rw [hx] at hr
    simp only at hr
    have xk : (ge.map cEd)[i.toNat]? = some [AI x1, AI x2, AI x3] := zmp (f := cEd) hx
    subst hr
    repeat (first | refine gV pk ?_ | (show AL _ _ _ _ _ _ _; first | refine jP s1 ?_ | refine jP s2 ?_ | refine jX tok xk ?_ | refine jL tok (fun U8 => ?_) | refine jO tok 0 ?_ | refine jS tok 0 ?_ | refine jS tok 1 ?_))
    refine zfb 1 4 rfl rfl ?_
    refine a_ret ?_
    exact ⟨.inr rfl, _, _, [], rfl, Turn.of (Sub.refl _) (OSub.none _), rfl, rfl⟩
  · rw [if_neg h] at hr
    subst hr
    repeat (first | refine gV pk ?_ | (show AL _ _ _ _ _ _ _; first | refine jP s1 ?_ | refine jP s2 ?_ | refine jS tok 0 ?_))
    refine zfb 0 4 rfl rfl ?_
    refine a_ret ?_
    exact ⟨.inr rfl, _, _, [], rfl, Turn.of (Sub.refl _) (OSub.none _), rfl, rfl⟩
end Go.Proofs.YtddohheabpiljaaGreat
end
section
namespace Go.Proofs.YtddohheabpiljaaGreat
open Go.Sj Go.Sj.Typ Go.Sj.Sta Go.Sj.Inc Go.Sj.Can
set_option maxRecDepth 8000
set_option maxHeartbeats 4000000
theorem oppE_cases {g : Gr} {e b : Edt} {nt et : Int} (he : editE g e nt et = 0) (hb : oppE g e = (b, 0)) :
    (e.kind = 1 ∧ b = ⟨3, g.nodes.length, 0, 0, 0⟩) ∨ (e.kind = 2 ∧ b = ⟨4, g.edges.length, 0, 0, 0⟩) ∨
    (e.kind = 3 ∧ e.idx = (g.nodes.length : Int) - 1 ∧ b = ⟨1, 0, g.nodes[e.idx.toNat]?.getD 0, 0, 0⟩) ∨
    (e.kind = 4 ∧ e.idx = (g.edges.length : Int) - 1 ∧ ∃ x, g.edges[e.idx.toNat]? = some x ∧ b = ⟨2, 0, x.ty, x.fr, x.to⟩) := by
  have hk := editE_kind he
  unfold oppE at hb
  split at hb
  · rename_i h1; exact absurd (congrArg Prod.snd hb) h1
  · split at hb
    · rename_i h1; exact absurd (congrArg Prod.snd hb) h1
    · split at hb
      · rename_i h1; exact .inl ⟨h1, (congrArg Prod.fst hb).symm⟩
      · split at hb
        · rename_i h1; exact .inr (.inl ⟨h1, (congrArg Prod.fst hb).symm⟩)
        · split at hb
          · rename_i h1
            split at hb
            · rename_i h2; exact .inr (.inr (.inl ⟨h1, h2, (congrArg Prod.fst hb).symm⟩))
            · cases hb
          · have h4 : e.kind = 4 := by omega
            split at hb
            · rename_i h2
              have := hk.2.2 h4
              refine .inr (.inr (.inr ⟨h4, h2, g.edges[e.idx.toNat]'(by omega), List.getElem?_eq_getElem (by omega), ?_⟩))
              rw [List.getElem?_eq_getElem (by omega)] at hb
              exact (congrArg Prod.fst hb).symm
            · cases hb
theorem oppE_err {g : Gr} {e b : Edt} {c : Int} (hg : gvalid g = 0) (he : editE g e 100 100 = 0) (hb : oppE g e = (b, c)) : c = 0 ∨ c = 8 := by
  unfold oppE at hb
  rw [if_neg (Decidable.not_not.2 hg), if_neg (Decidable.not_not.2 he)] at hb
  repeat' split at hb
  all_goals first | exact .inl (congrArg Prod.snd hb).symm | exact .inr (congrArg Prod.snd hb).symm
theorem les_low {d z : Int} (h : z ≤ d) : les d z = z := by unfold les; rw [if_neg (by omega)]
theorem lesE_low {d : Int} {l : List Ed} (h : ∀ y ∈ l, y.fr ≤ d ∧ y.to ≤ d) : l.map (lesE d) = l := by
  conv => rhs; rw [← List.map_id l]
  refine List.map_congr_left fun y hy => ?_
  unfold lesE
  rw [les_low (h y hy).1, les_low (h y hy).2]
  rfl
theorem era_end {A : Type} (l : List A) (x : A) : (l ++ [x]).eraseIdx l.length = l := by
  rw [List.eraseIdx_append_of_length_le (Nat.le_refl _), Nat.sub_self]
  simp
theorem end_era {A : Type} {l : List A} {d : Nat} {x : A} (h : d + 1 = l.length) (hx : l[d]? = some x) : l.eraseIdx d ++ [x] = l := by
  obtain ⟨h1, h2⟩ := List.getElem?_eq_some_iff.1 hx
  have hl : l ≠ [] := fun e => by rw [e] at h1; simp at h1
  have e1 : l = l.dropLast ++ [x] := by
    conv => lhs; rw [← List.dropLast_concat_getLast hl]
    rw [List.getLast_eq_getElem]
    congr 2
    rw [← h2]
    congr 1
    omega
  have e2 : d = l.dropLast.length := by rw [List.length_dropLast]; omega
  conv => lhs; rw [e2, e1]
  rw [← e1]
  conv => lhs; arg 1; rw [e1]
  have := era_end l.dropLast x
  rw [← e1] at this ⊢
  rw [this]
  exact e1.symm
theorem niI {a b : Int} (h : decide (a = b) = false) : ¬ a = b := of_decide_eq_false h
section
variable {t : Tys} {g : Gr} {e : Edt} {inj : Bool} {p : Gr}
theorem dR1 (h : e.kind = 1) : delR t g e inj p = ((matL (seaA t p (ediG g e) inj)).filter (hasN g.nodes.length), []) := by
  unfold delR
  rw [if_pos h]
theorem dR2 (h : e.kind = 2) : delR t g e inj p = ((matL (seaA t p (ediG g e) inj)).filter (hasE g.edges.length), []) := by
  unfold delR
  rw [if_neg (by omega), if_pos h]
theorem dR3 (h : e.kind = 3) : delR t g e inj p = ([], (matL (seaA t p g inj)).filter (hasN e.idx)) := by
  unfold delR
  rw [if_neg (by omega), if_neg (by omega), if_pos h]
theorem dR4 (h : e.kind = 4) : delR t g e inj p = ([], (matL (seaA t p g inj)).filter (hasE e.idx)) := by
  unfold delR
  rw [if_neg (by omega), if_neg (by omega), if_neg (by omega)]
end
theorem opp_edit {t : Tys} {g : Gr} (hg : GV g) (hty : typT t g = true) {e b : Edt} (he : edtE t g e = 0) (hb : oppE g e = (b, 0)) :
    edtE t (ediG g e) b = 0 ∧ ediG (ediG g e) b = g ∧ ∀ inj p, delR t (ediG g e) b inj p = ((delR t g e inj p).2, (delR t g e inj p).1) := by
  have hn := hg.nl
  have hel := hg.el
  have hed := hg.edges
  obtain ⟨ht1, ht2⟩ := typT_iff.1 hty
  have hc := oppE_cases he hb
  rcases edit_kind he with ⟨hk, a, c⟩ | ⟨hk, a, c, d, f⟩ | ⟨hk, a, c⟩ | ⟨hk, a⟩
  · rcases hc with ⟨h1, rfl⟩ | ⟨h1, _⟩ | ⟨h1, _⟩ | ⟨h1, _⟩
    rotate_left
    · omega
    · omega
    · omega
    have e1 : ediG g e = ⟨g.nodes ++ [e.ty], g.edges⟩ := by unfold ediG; rw [if_pos hk]
    have e2 : ediG (⟨g.nodes ++ [e.ty], g.edges⟩ : Gr) ⟨3, g.nodes.length, 0, 0, 0⟩ = g := by
      unfold ediG
      rw [if_neg (by exact niI rfl), if_neg (by exact niI rfl), if_pos rfl]
      show (⟨(g.nodes ++ [e.ty]).eraseIdx (g.nodes.length : Int).toNat, g.edges.map (lesE g.nodes.length)⟩ : Gr) = g
      rw [Int.toNat_natCast, era_end, lesE_low fun y hy => by have := hed y hy; omega]
    refine ⟨?_, by rw [e1, e2], fun inj p => ?_⟩
    · rw [e1]
      show editE _ _ _ _ = 0
      unfold editE
      rw [if_neg (by exact niI rfl), if_neg (by exact niI rfl), if_pos rfl]
      show (if 0 ≤ (g.nodes.length : Int) ∧ (g.nodes.length : Int) < ((g.nodes ++ [e.ty]).length : Nat) then (if g.edges.any (touB g.nodes.length) = true then (14 : Int) else 0) else 6) = 0
      rw [if_pos (by simp; omega), if_neg]
      rw [Bool.not_eq_true, List.any_eq_false]
      intro y hy
      have := hed y hy
      unfold touB
      simp only [Bool.or_eq_true, decide_eq_true_eq]
      omega
    · rw [dR1 hk, dR3 (by rfl)]
  · rcases hc with ⟨h1, _⟩ | ⟨h1, rfl⟩ | ⟨h1, _⟩ | ⟨h1, _⟩
    · omega
    rotate_left
    · omega
    · omega
    have e1 : ediG g e = ⟨g.nodes, g.edges ++ [Ed.mk e.ty e.fr e.to]⟩ := by unfold ediG; rw [if_neg (by omega), if_pos hk]
    have e2 : ediG (⟨g.nodes, g.edges ++ [Ed.mk e.ty e.fr e.to]⟩ : Gr) ⟨4, g.edges.length, 0, 0, 0⟩ = g := by
      unfold ediG
      rw [if_neg (by exact niI rfl), if_neg (by exact niI rfl), if_neg (by exact niI rfl)]
      show (⟨g.nodes, (g.edges ++ [Ed.mk e.ty e.fr e.to]).eraseIdx (g.edges.length : Int).toNat⟩ : Gr) = g
      rw [Int.toNat_natCast, era_end]
    refine ⟨?_, by rw [e1, e2], fun inj p => ?_⟩
    · rw [e1]
      show editE _ _ _ _ = 0
      unfold editE
      rw [if_neg (by exact niI rfl), if_neg (by exact niI rfl), if_neg (by exact niI rfl), if_pos rfl]
      show (if 0 ≤ (g.edges.length : Int) ∧ (g.edges.length : Int) < ((g.edges ++ [(Ed.mk e.ty e.fr e.to)]).length : Nat) then (0 : Int) else 6) = 0
      rw [if_pos (by simp; omega)]
    · rw [dR2 hk, dR4 (by rfl)]
  · rcases hc with ⟨h1, _⟩ | ⟨h1, _⟩ | ⟨h1, hi, rfl⟩ | ⟨h1, _⟩
    · omega
    · omega
    rotate_left
    · omega
    obtain ⟨d, hd⟩ : ∃ d : Nat, e.idx = d := ⟨e.idx.toNat, by omega⟩
    rw [hd] at a c hi ⊢
    have hdl : d < g.nodes.length := by omega
    have hx := List.getElem?_eq_getElem hdl
    generalize g.nodes[d] = x at hx
    have hxm := List.mem_of_getElem? hx
    have hx1 := hg.nodes x hxm
    have hx2 := ht1 x hxm
    rw [Int.toNat_natCast, hx]
    rw [show (some x).getD (0 : Int) = x from rfl]
    have hle : g.edges.map (lesE d) = g.edges := lesE_low fun y hy => by have := hed y hy; omega
    have e1 : ediG g e = ⟨g.nodes.eraseIdx d, g.edges⟩ := by unfold ediG; rw [if_neg (by omega), if_neg (by omega), if_pos hk, hd, Int.toNat_natCast, hle]
    have hl : (g.nodes.eraseIdx d).length = d := by rw [List.length_eraseIdx, if_pos hdl]; omega
    have e2 : ediG (⟨g.nodes.eraseIdx d, g.edges⟩ : Gr) ⟨1, 0, x, 0, 0⟩ = g := by
      unfold ediG
      rw [if_pos rfl]
      show (⟨g.nodes.eraseIdx d ++ [x], g.edges⟩ : Gr) = g
      rw [end_era (by omega) hx]
    refine ⟨?_, by rw [e1]; exact e2, fun inj p => ?_⟩
    · rw [e1]
      show editE _ _ _ _ = 0
      unfold editE
      rw [if_pos rfl]
      show (if 0 ≤ x ∧ x < (t.nodes.length : Int) then (if ((g.nodes.eraseIdx d).length : Int) = 40 then (3 : Int) else 0) else 13) = 0
      rw [if_pos (by omega), if_neg (by omega)]
    · rw [dR3 hk, dR1 (by rfl), e1, e2]
      show (List.filter (hasN ((g.nodes.eraseIdx d).length : Nat)) _, []) = _
      rw [hl, hd]
  · rcases hc with ⟨h1, _⟩ | ⟨h1, _⟩ | ⟨h1, _⟩ | ⟨h1, hi, x, hx, rfl⟩
    · omega
    · omega
    · omega
    obtain ⟨d, hd⟩ : ∃ d : Nat, e.idx = d := ⟨e.idx.toNat, by omega⟩
    rw [hd] at a hi
    rw [hd, Int.toNat_natCast] at hx
    have hdl : d < g.edges.length := by omega
    have hxm := List.mem_of_getElem? hx
    have hx1 := hg.edges x hxm
    have hx2 := ht2 x hxm
    obtain ⟨x1, x2, x3⟩ := x
    simp only at hx1 hx2 ⊢
    have e1 : ediG g e = ⟨g.nodes, g.edges.eraseIdx d⟩ := by unfold ediG; rw [if_neg (by omega), if_neg (by omega), if_neg (by omega), hd, Int.toNat_natCast]
    have hl : (g.edges.eraseIdx d).length = d := by rw [List.length_eraseIdx, if_pos hdl]; omega
    have e2 : ediG (⟨g.nodes, g.edges.eraseIdx d⟩ : Gr) ⟨2, 0, x1, x2, x3⟩ = g := by
      unfold ediG
      rw [if_neg (by exact niI rfl), if_pos rfl]
      show (⟨g.nodes, g.edges.eraseIdx d ++ [⟨x1, x2, x3⟩]⟩ : Gr) = g
      rw [end_era (by omega) hx]
    refine ⟨?_, by rw [e1]; exact e2, fun inj p => ?_⟩
    · rw [e1]
      show editE _ _ _ _ = 0
      unfold editE
      rw [if_neg (by exact niI rfl), if_pos rfl]
      show (if 0 ≤ x1 ∧ x1 < (t.edges.length : Int) then (if (0 ≤ x2 ∧ x2 < (g.nodes.length : Int)) ∧ (0 ≤ x3 ∧ x3 < (g.nodes.length : Int)) then (if ((g.edges.eraseIdx d).length : Int) = 80 then (3 : Int) else 0) else 6) else 13) = 0
      rw [if_pos (by omega), if_pos (by omega), if_neg (by omega)]
    · rw [dR4 hk, dR2 (by rfl), e1, e2]
      show (List.filter (hasE ((g.edges.eraseIdx d).length : Nat)) _, []) = _
      rw [hl, hd]
theorem apply_back {t : Tys} (ht : Small t) {w : Wat} (hv : wvalE t w = 0) {e b : Edt} (he : edtE t w.g e = 0) (hb : oppE w.g e = (b, 0)) (Ms : List (List Mo)) :
    applyB t ⟨w.ps, ediG w.g e, w.inj, Ms⟩ b = (w, w.ps.map (fun p => ((delR t w.g e w.inj p).2, (delR t w.g e w.inj p).1)), 0) := by
  obtain ⟨h1, h2⟩ := wval_zero hv
  have h0 : (allR t ⟨[], []⟩ w.g w.inj).2 = 0 := by
    unfold matsE at h1
    split at h1
    · rename_i h3; exact absurd h1 h3
    · rename_i h3; exact Decidable.not_not.1 h3
  obtain ⟨_, _, v3, _, v5⟩ := zvz (allR_zero h0)
  obtain ⟨o1, o2, o3⟩ := opp_edit v3 v5 he hb
  unfold applyB
  rw [if_neg (Decidable.not_not.2 o1)]
  simp only [o2]
  rw [if_neg (Decidable.not_not.2 h1)]
  have e1 : delR t (ediG w.g e) b w.inj = fun p => ((delR t w.g e w.inj p).2, (delR t w.g e w.inj p).1) := funext fun p => o3 w.inj p
  rw [e1]
  obtain ⟨w1, w2, w3, w4⟩ := w
  simp only at h2 ⊢
  rw [h2]
theorem delR_add {t : Tys} {g : Gr} {e : Edt} {inj : Bool} {p : Gr} (h : e.kind = 1 ∨ e.kind = 2) : (delR t g e inj p).2 = [] := by
  unfold delR
  rcases h with h | h
  · rw [if_pos h]
  · rw [if_neg (by omega), if_pos h]
theorem delR_rem {t : Tys} {g : Gr} {e : Edt} {inj : Bool} {p : Gr} (h : e.kind = 3 ∨ e.kind = 4) : (delR t g e inj p).1 = [] := by
  unfold delR
  rcases h with h | h
  · rw [if_neg (by omega), if_neg (by omega), if_pos h]
  · rw [if_neg (by omega), if_neg (by omega), if_neg (by omega)]
end Go.Proofs.YtddohheabpiljaaGreat
end
