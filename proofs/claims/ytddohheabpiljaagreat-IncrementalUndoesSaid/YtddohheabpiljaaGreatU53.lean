/- Parts of a proof. -/
import Derived.Test.YtddohheabpiljaaGreatU51
import Derived.Test.YtddohheabpiljaaGreatU52
set_option linter.unusedVariables false
set_option linter.unusedSimpArgs false
section
namespace Go.Sj
set_option maxRecDepth 8000
section
variable {P : Program} {N : Nat} {ops : List Oper} {Q : St → Own → Prop} {L : Own} {rest : List (Oper × Kd)} {l : List (Nat × AV)} {k : Kd} {q : Nat}
theorem s_loadR {tt : List (TypeId × TD)} (ok : TOK P tt) (i : Nat) {o : Oper} {T : TypeId} {x : Operand} {d : TD} {v : Value} {E sz j off : Nat} {D : List (List AV)} {e : List AV} {a : AV}
    (ho : o.op = .load T x) (hdst : o.dst = some q) (hd : Nat.blt q N = true) (hg : guardA ops o (lk l) = some true) (hk : k ≠ .pure) (hT : lkT tt T = some d) (hx : ev (lk l) x = .pt v sz j off) (hL : L[i]? = some (v, .row E sz D)) (hj : D[j]? = some e) (hp : partA d (e.drop off) 0 = some a) (hne : e.drop off ≠ [])
    (n : AL P N ops Q rest (lk ((q, a) :: l)) L) : AL P N ops Q ((o, k) :: rest) (lk l) L :=
  s_ownLoad ok i ho hdst hd hg hk hT hx hL (Nat.beq_refl sz) (cells := e.drop off) (by simp only [obAt, hj]) hp hne n
theorem s_storeR {tt : List (TypeId × TD)} (ok : TOK P tt) (i : Nat) {o : Oper} {T : TypeId} {x y : Operand} {d : TD} {v : Value} {E sz j off : Nat} {D : List (List AV)} {e : List AV} {a : AV}
    (ho : o.op = .store T x y) (hdst : o.dst = none) (hg : guardA ops o (lk l) = some true) (hT : lkT tt T = some d) (hx : ev (lk l) x = .pt v sz j off) (hy : ev (lk l) y = a) (ha : a.storable = true) (hal : a.cells.length = d.size) (hd0 : 0 < d.size)
    (hL : L[i]? = some (v, .row E sz D)) (hj : D[j]? = some e) (hle : a.cells.length ≤ (e.drop off).length)
    (n : AL P N ops Q rest (lk l) (L.set i (v, .row E sz (D.set j (setAll e off a.cells))))) : AL P N ops Q ((o, .eff) :: rest) (lk l) L := by
  refine s_store ok i ho hdst hg hT hx hy ha hal hd0 hL (Nat.beq_refl sz) (cells := e.drop off) (by simp only [obAt, hj]) hle ?_
  have : obSet (.row E sz D) j off a.cells = .row E sz (D.set j (setAll e off a.cells)) := by
    simp only [obSet, List.getD_eq_getElem?_getD, hj, Option.getD_some]
  rw [this]
  exact n
end
theorem FV.agg {L : Own} {l m : List AV} (h : FVL L l m) : FV L (.agg l) (.agg m) := fun τ u hf k => by
  obtain ⟨vs, rfl, hv⟩ := k.agg_inv
  exact VR.agg_of (h.vrs hf hv)
end Go.Sj
end
section
namespace Go.Proofs.YtddohheabpiljaaGreat
open Go.Sj Go.Sj.Typ Go.Sj.Sta Go.Sj.Inc Go.Sj.Can
set_option maxRecDepth 8000
set_option maxHeartbeats 16000000
theorem edit_mono {g : Gr} {e : Edt} {nt et : Int} (h : editE g e nt et = 0) (h1 : nt ≤ 100) (h2 : et ≤ 100) : editE g e 100 100 = 0 := by
  unfold editE at h ⊢
  by_cases k1 : e.kind = 1
  · rw [if_pos k1] at h ⊢
    split at h
    · rename_i a; rw [if_pos (by omega)]; exact h
    · cases h
  · rw [if_neg k1] at h ⊢
    by_cases k2 : e.kind = 2
    · rw [if_pos k2] at h ⊢
      split at h
      · rename_i a; rw [if_pos (by omega)]; exact h
      · cases h
    · rw [if_neg k2] at h ⊢
      exact h
theorem delR_mob {t : Tys} {g : Gr} {e : Edt} {inj : Bool} {p : Gr} (hp : GV p) (h1 : (matL (seaA t p (ediG g e) inj)).length ≤ 5000) (h2 : (matL (seaA t p g inj)).length ≤ 5000) :
    ((delR t g e inj p).1.length ≤ 1000000 ∧ ∀ m ∈ (delR t g e inj p).1, MoB m) ∧ (delR t g e inj p).2.length ≤ 1000000 ∧ ∀ m ∈ (delR t g e inj p).2, MoB m := by
  have hl := delR_len t g e inj p
  have hm : ∀ g', ∀ m ∈ matL (seaA t p g' inj), MoB m := fun g' m hm => find_le (S := seaA t p g' inj) hp (m := p.nodes.length + p.edges.length) (by unfold remS; simp; rfl) hm
  refine ⟨⟨by omega, fun m h => ?_⟩, by omega, fun m h => ?_⟩
  · unfold delR at h
    repeat' split at h
    all_goals first | exact hm _ m (List.mem_filter.1 h).1 | cases h
  · unfold delR at h
    repeat' split at h
    all_goals first | exact hm _ m (List.mem_filter.1 h).1 | cases h
def swU (D : List Del) (j : Nat) : List Del := (D.take j).map (fun d => (d.2, d.1)) ++ D.drop j
theorem swU_0 (D : List Del) : swU D 0 = D := by simp [swU]
theorem swU_all (D : List Del) : swU D D.length = D.map fun d => (d.2, d.1) := by simp [swU]
theorem swU_len (D : List Del) (j : Nat) : (swU D j).length = D.length := by unfold swU; simp; omega
theorem swU_get {D : List Del} {j : Nat} {d : Del} (h : D[j]? = some d) : (swU D j)[j]? = some d := by
  have hj := (List.getElem?_eq_some_iff.1 h).1
  have hl : ((D.take j).map fun d : Del => (d.2, d.1)).length = j := by simp; omega
  unfold swU
  rw [List.getElem?_append_right (by omega), hl, Nat.sub_self, List.getElem?_drop, Nat.add_zero, h]
theorem swU_set {D : List Del} {j : Nat} {d : Del} (h : D[j]? = some d) : (swU D j).set j (d.2, d.1) = swU D (j + 1) := by
  have hj := (List.getElem?_eq_some_iff.1 h).1
  have hl : ((D.take j).map fun d : Del => (d.2, d.1)).length = j := by simp; omega
  unfold swU
  rw [List.set_append_right _ _ (by omega), hl, Nat.sub_self, List.drop_eq_getElem_cons hj, List.set_cons_zero, List.take_add_one, h]
  simp
theorem IncrementalUndoes_spec (d : Dr20) (hd : OkD20 d) (q : Q4) (hq : InQ q) : Pure Tryz.prog 9 [.agg (dr20L d), .agg (cQ4 q)] (AB true) := by
  have sa := awakeI_spec
  have sm := made20_spec d hd
  have hT := tyG_made d.nodes d.edges
  generalize madeT d.nodes d.edges = t at *
  have ht := hT.sm
  have hne := hT.ne
  have hA := fun w h e => iApplyF_spec t ht w h e
  have hAO := fun w h1 h2 e h3 h4 => iApplyFO_spec t ht w h1 h2 e h3 h4
  have hEd := fun g a x0 x1 x2 x3 b0 b1 b2 b3 => edit20_spec t ht hne g a x0 x1 x2 x3 b0 b1 b2 b3
  have hsm := fun w h1 h2 e h3 => applyB_small ht (w := w) h1 h2 (e := e) h3
  have hok := fun w h => watOk_valid (t := t) (w := w) h
  have hwz := fun w h => wval_zero (t := t) (w := w) h
  have hback := fun (w : Wat) h1 (e b : Edt) h2 h3 Ms => apply_back ht (w := w) h1 (e := e) (b := b) h2 h3 Ms
  obtain ⟨dn, de, dp, ⟨dgn, dge⟩, inj⟩ := d
  obtain ⟨x0, x1, x2, x3⟩ := q
  obtain ⟨b0, b1, b2, b3, b4⟩ := hq
  simp only at b0 b1 b2 b3 b4
  change Pure _ _ [.agg [.im 2 (dn.map c82), .im 2 (de.map c82), .im 2 (dp.map dr5L), bytesA dgn, .im 3 (dge.map c83), AB inj], .agg [A8 x0, A8 x1, A8 x2, A8 x3]] _
  change Go.Sj.ACalls _ _ [.agg [.im 2 (dn.map c82), .im 2 (de.map c82), .im 2 (dp.map dr5L), bytesA dgn, .im 3 (dge.map c83), AB inj]] _ _ at sm
  refine zen Tryz.func9 (by kernel_rfl) rfl Tryz.ntmps9 rfl (by simp) ?_
  refine a_seq ?_
  refine a_reg ?_
  repeat (first | refine gZ pk ?_ | (show AL _ _ _ _ _ _ _; first | refine jB (fun u => ?_)))
  refine zfb 1 2 rfl rfl ?_
  refine zfb 0 3 rfl rfl ?_
  repeat (first | refine gZ pk ?_)
  refine a_reg ?_
  repeat (first | refine gZ pk ?_ | (show AL _ _ _ _ _ _ _; first | refine jP sa ?_))
  refine a_reg ?_
  repeat (first | refine gZ pk ?_ | (show AL _ _ _ _ _ _ _; first | refine zsc (Lc := []) (Lr := []) rfl rfl rfl rfl rfl sm (SubL.of_eq rfl) (List.Perm.refl _) ?_; rintro _ _ ⟨⟨w, rfl, hw1, hw2⟩, rfl⟩ | refine jL tok (fun ux => ?_) | refine jS tok 0 ?_ | refine jS tok 1 ?_))
  refine zfb 1 5 rfl rfl ?_
  refine zfb 0 6 rfl rfl ?_
  obtain ⟨ok, okg, ok5, okp, okm, okl⟩ := hok w hw1
  obtain ⟨e, hke, sE⟩ := hEd w.g ok.g x0 x1 x2 x3 b0 b1 b2 ⟨b3, b4⟩
  have her := edit_errs (g := w.g) (e := e) (nt := (t.nodes.length : Nat)) (et := (t.edges.length : Nat)) hke hw2.gn hw2.ge
  have hsm2 := hsm w hw1 hw2 e
  have hE := fun h => edOk (e := e) ht hw1 h
  have sOp := iopp_spec w.g ok.g (by have := okg.nl; omega) (by have := okg.el; omega) e
  obtain ⟨⟨bk, ec⟩, hoc⟩ : ∃ r, oppE w.g e = r := ⟨_, rfl⟩
  rw [hoc] at sOp
  have sS := gSameW_spec w (fun l hl => ⟨by have := okl l hl; omega, (ok.ms l hl).2⟩) (by omega) (fun p hp => by have h1 := (okp p hp).nl; have h2 := (okp p hp).el; omega) (by omega) ⟨by have := okg.nl; omega, by have := okg.el; omega⟩
  by_cases he : edtE t w.g e = 0
  rotate_left
  · have sA := hA w ok e
    rw [applyR_eq, if_neg (Decidable.not_not.2 hw1)] at sA
    have hbe : applyB t w e = (zeroW, [], edtE t w.g e) := by unfold applyB; rw [if_pos he]
    rw [hbe] at sA
    change editE w.g e (t.nodes.length : Nat) (t.edges.length : Nat) ≠ 0 at he
    have her2 : edtE t w.g e = 6 ∨ edtE t w.g e = 14 ∨ edtE t w.g e = 13 := by
      rcases her with h | h | h | h
      · exact absurd h he
      · exact .inl h
      · exact .inr (.inl h)
      · exact .inr (.inr h)
    obtain ⟨wp, ⟨wn, we⟩, wi, wm⟩ := w
    obtain ⟨ek, ei, et, ef, eo⟩ := e
    change Pure _ _ [tysA t, .agg [ints wn, edsA we], .agg [A8 x0, A8 x1, A8 x2, A8 x3]] (.agg [AI ek, AI ei, AI et, AI ef, AI eo]) at sE
    change Pure _ _ [tysA t, .agg [grsA wp, ints wn, edsA we, AB wi, mssA wm], .agg [AI ek, AI ei, AI et, AI ef, AI eo]] _ at sA
    rcases her2 with h | h | h
    all_goals
      rw [h] at sA
      repeat (first | refine gA pk ?_ | (show AL _ _ _ _ _ _ _; first | refine jP sE ?_ | refine jP sA ?_ | refine jL tok (fun uy => ?_) | refine jO tok 0 ?_ | refine jS tok 0 ?_))
      refine finQ ?_
      exact ⟨rfl, rfl⟩
  obtain ⟨q1, q2, q3⟩ := hsm2 he
  have hml := (hE he).ml
  have hv' : ∀ p ∈ w.ps, validS t p (ediG w.g e) = 0 := fun p hp => ((hE he).hv p hp).2.1
  have sA := hAO w ok hw1 e he (fun p hp => (q3 p hp).1)
  have hwz' : wvalE t ⟨w.ps, ediG w.g e, w.inj, w.ps.map fun p => matL (seaA t p (ediG w.g e) w.inj)⟩ = 0 := by
    unfold wvalE
    rw [if_neg (Decidable.not_not.2 q1), if_pos (matsL_ok fun p hp => ⟨hv' p hp, (q3 p hp).1⟩)]
  obtain ⟨ok', okg', -, -, -, -⟩ := hok _ hwz'
  have sB := hA _ ok' bk
  rw [applyR_eq, if_neg (Decidable.not_not.2 hwz')] at sB
  have hbk := fun h => hback w hw1 e bk he h (w.ps.map fun p => matL (seaA t p (ediG w.g e) w.inj))
  rw [q2] at sA
  have hcc := fun h => oppE_err (gvalid_zero.2 okg) (e := e) (b := bk) (c := ec) h hoc
  replace hcc := hcc (edit_mono he (by have := ht.nodes; omega) (by have := ht.edges; omega))
  have hdel : ∀ p ∈ w.ps, (e.kind ≤ 2 ∧ (delR t w.g e w.inj p).2 = []) ∨ (3 ≤ e.kind ∧ (delR t w.g e w.inj p).1 = []) := fun p hp => by
    have : e.kind = 1 ∨ e.kind = 2 ∨ e.kind = 3 ∨ e.kind = 4 := by omega
    rcases this with h | h | h | h
    · exact .inl ⟨by omega, delR_add (.inl h)⟩
    · exact .inl ⟨by omega, delR_add (.inr h)⟩
    · exact .inr ⟨by omega, delR_rem (.inl h)⟩
    · exact .inr ⟨by omega, delR_rem (.inr h)⟩
  have hmob := fun p hp => delR_mob (t := t) (g := w.g) (e := e) (inj := w.inj) (p := p) (okp p hp) (q3 p hp).1 (q3 p hp).2.1
  rw [hoc] at hbk
  try simp only at sB
  have hsw : (w.ps.map fun p => ((delR t w.g e w.inj p).2, (delR t w.g e w.inj p).1)) = (w.ps.map (delR t w.g e w.inj)).map fun d => (d.2, d.1) := by rw [List.map_map]; rfl
  rw [hsw] at hbk
  generalize hW : (⟨w.ps, ediG w.g e, w.inj, w.ps.map fun p => matL (seaA t p (ediG w.g e) w.inj)⟩ : Wat) = w' at *
  have hDp : ∀ d ∈ w.ps.map (delR t w.g e w.inj), ((e.kind ≤ 2 ∧ d.2 = []) ∨ (3 ≤ e.kind ∧ d.1 = [])) ∧ (d.1.length ≤ 1000000 ∧ ∀ m ∈ d.1, MoB m) ∧ d.2.length ≤ 1000000 ∧ ∀ m ∈ d.2, MoB m := fun d hd => by
    obtain ⟨p, hp, rfl⟩ := List.mem_map.1 hd
    exact ⟨hdel p hp, hmob p hp⟩
  have hDl : (w.ps.map (delR t w.g e w.inj)).length ≤ 5 := by rw [List.length_map]; exact ok5
  generalize w.ps.map (delR t w.g e w.inj) = D at *
  have sD := gSD_spec (D.map fun d => (d.2, d.1)) (by rw [List.length_map]; omega) (fun d hd => by
    obtain ⟨d', hd', rfl⟩ := List.mem_map.1 hd
    have := (hDp d' hd').2
    exact ⟨this.2, this.1⟩)
  have lD : (D.map cDel).length = D.length := by simp
  have lD2 : ((D.map fun d : Del => (d.2, d.1)).map cDel).length = D.length := by simp
  clear q2 q3 hv' hE hsm2 her hA hAO hEd hsm hok hwz hback hdel hmob hsw
  unfold AppO at sA
  try simp only at sA
  obtain ⟨wp, ⟨wn, we⟩, wi, wm⟩ := w
  obtain ⟨np, ⟨nn, nE⟩, ni, nm⟩ := w'
  obtain ⟨ek, ei, et, ef, eo⟩ := e
  obtain ⟨bk1, bk2, bk3, bk4, bk5⟩ := bk
  simp only at hDp
  change Pure _ _ [tysA t, .agg [ints wn, edsA we], .agg [A8 x0, A8 x1, A8 x2, A8 x3]] (.agg [AI ek, AI ei, AI et, AI ef, AI eo]) at sE
  change Go.Sj.ACalls _ _ [tysA t, .agg [grsA wp, ints wn, edsA we, AB wi, mssA wm], .agg [AI ek, AI ei, AI et, AI ef, AI eo]] [] (fun y L => ∃ lv : Value, y = .tup [.agg [grsA np, ints nn, edsA nE, AB ni, mssA nm], .lit lv, AI 0] ∧ L = [(lv, OB.row 72 2 (D.map cDel))]) at sA
  change Pure _ _ [.agg [ints wn, edsA we], .agg [AI ek, AI ei, AI et, AI ef, AI eo]] (.tup [.agg [AI bk1, AI bk2, AI bk3, AI bk4, AI bk5], AI ec]) at sOp
  change Pure _ _ [tysA t, .agg [grsA np, ints nn, edsA nE, AB ni, mssA nm], .agg [AI bk1, AI bk2, AI bk3, AI bk4, AI bk5]] _ at sB
  change Pure _ _ [.agg [grsA wp, ints wn, edsA we, AB wi, mssA wm], .agg [grsA wp, ints wn, edsA we, AB wi, mssA wm]] _ at sS
  repeat (first | refine gZ pk ?_)
  refine a_reg ?_
  repeat (first | refine gZ pk ?_ | (show AL _ _ _ _ _ _ _; first | refine jP sE ?_ | refine jL tok (fun uc => ?_) | refine jS tok 0 ?_))
  refine zfb 0 7 rfl rfl ?_
  refine a_reg ?_
  repeat (first | refine gZ pk ?_ | (show AL _ _ _ _ _ _ _; first | refine zsc (Lc := []) (Lr := []) rfl rfl rfl rfl rfl sA (SubL.of_eq rfl) (List.Perm.refl _) ?_; rintro _ _ ⟨lv, rfl, rfl⟩ | refine jL tok (fun un => ?_) | refine jS tok 0 ?_))
  refine zfb 0 8 rfl rfl ?_
  repeat (first | refine gA pk ?_ | (show AL _ _ _ _ _ _ _; first | refine zol tok 0 rfl rfl rfl rfl (by decide) rfl rfl rfl ?_))
  rw [lD]
  refine zlx (fun i : Nat => [(5, tysP t), (6, .ip [grsA wp, ints wn, edsA we, AB wi, mssA wm]), (7, .ip [AI ek, AI ei, AI et, AI ef, AI eo]), (8, .ip [grsA np, ints nn, edsA nE, AB ni, mssA nm]), (9, .lit lv), (51, .lit lv), (52, AI D.length), (53, AI i)]) (fun _ => [(lv, OB.row 72 2 (D.map cDel))]) (fun i => i ≤ D.length) (fun i => D.length - i) 0 (Nat.zero_le _) ?_ (OSub.refl _) ?_
  · exact subQ
  intro i hi
  rcases Nat.lt_or_ge i D.length with h | h
  · have h1 := List.getElem?_eq_getElem h
    have hd1 := (hDp _ (List.getElem_mem h)).1
    generalize D[i] = dd at h1 hd1
    obtain ⟨d1, d2⟩ := dd
    have gk : (D.map cDel)[(i : Int).toNat]? = some [mosA d1, mosA d2] := by rw [Int.toNat_natCast]; exact zmp (f := cDel) h1
    simp only at hd1
    have m1 : (d1.map cMo).length = d1.length := by simp
    have m2 : (d2.map cMo).length = d2.length := by simp
    rcases hd1 with ⟨k1, k2⟩ | ⟨k1, k2⟩
    all_goals
      have k3 := congrArg List.length k2
      simp only [List.length_nil] at k3
      repeat (first | refine gA pk ?_ | (show AL _ _ _ _ _ _ _; first | refine zoi tok 0 rfl rfl rfl rfl (by decide) rfl rfl rfl rfl rfl rfl (by omega) (by omega) ?_ | refine zoi tok 1 rfl rfl rfl rfl (by decide) rfl rfl rfl rfl rfl rfl (by omega) (by omega) ?_ | refine s_loadR tok 0 rfl rfl rfl rfl (by decide) rfl rfl rfl gk rfl (by simp) ?_ | refine s_loadR tok 1 rfl rfl rfl rfl (by decide) rfl rfl rfl gk rfl (by simp) ?_ | refine jL tok (fun uy => ?_) | refine jS tok 0 ?_ | refine jO tok 0 ?_))
      exact ⟨i + 1, by omega, by omega, by exact subQ, .drop (OSub.refl _)⟩
  obtain rfl : i = D.length := by omega
  rcases hcc with rfl | rfl
  rotate_left
  · repeat (first | refine gA pk ?_ | (show AL _ _ _ _ _ _ _; first | refine jP sOp ?_ | refine jL tok (fun ub => ?_) | refine jS tok 0 ?_))
    refine finQ ?_
    exact ⟨rfl, rfl⟩
  have hb := hbk rfl
  rw [hb] at sB
  change Pure _ _ [tysA t, .agg [grsA np, ints nn, edsA nE, AB ni, mssA nm], .agg [AI bk1, AI bk2, AI bk3, AI bk4, AI bk5]] (.tup [.agg [grsA wp, ints wn, edsA we, AB wi, mssA wm], .im 2 ((D.map fun d : Del => (d.2, d.1)).map cDel), AI 0]) at sB
  repeat (first | refine gZ pk ?_)
  refine a_reg ?_
  repeat (first | refine gZ pk ?_)
  refine a_reg ?_
  repeat (first | refine gZ pk ?_ | (show AL _ _ _ _ _ _ _; first | refine jP sOp ?_ | refine jL tok (fun ub => ?_) | refine jS tok 0 ?_))
  refine zfb 0 13 rfl rfl ?_
  repeat (first | refine gN pk ?_ | (show AL _ _ _ _ _ _ _; first | refine jP sB ?_ | refine jL tok (fun ug => ?_) | refine jS tok 0 ?_ | refine jO tok 0 ?_ | refine jP sS ?_ | refine zol tok 1 rfl rfl rfl rfl (by decide) rfl rfl rfl ?_))
  rw [lD]
  refine zlx (fun i : Nat => [(9, .lit lv), (16, .im 2 ((D.map fun d : Del => (d.2, d.1)).map cDel)), (113, AI D.length), (114, AI i)]) (fun i => [(lv, OB.row 72 2 ((swU D i).map cDel))]) (fun i => i ≤ D.length) (fun i => D.length - i) 0 (Nat.zero_le _) ?_ (by rw [swU_0]; exact .drop (OSub.refl _)) ?_
  · exact subQ
  intro i hi
  have lS : ((swU D i).map cDel).length = D.length := by rw [List.length_map, swU_len]
  rcases Nat.lt_or_ge i D.length with h | h
  · have h1 := List.getElem?_eq_getElem h
    generalize D[i] = dd at h1
    have gk : ((swU D i).map cDel)[(i : Int).toNat]? = some [mosA dd.1, mosA dd.2] := by rw [Int.toNat_natCast]; exact zmp (f := cDel) (swU_get h1)
    have gk2 : ∀ y, (((swU D i).map cDel).set (i : Int).toNat y)[(i : Int).toNat]? = some y := fun y => List.getElem?_set_self (by omega)
    have hset : ∀ y, (((swU D i).map cDel).set (i : Int).toNat y).set (i : Int).toNat [mosA dd.2, mosA dd.1] = (swU D (i + 1)).map cDel := fun y => by
      rw [List.set_set, Int.toNat_natCast, ← swU_set h1, List.map_set]
      rfl
    repeat (first | refine gN pk ?_)
    refine zrg ((List.range 20).map fun i => if inL [16, 19] i = true then .eff else if inL [6, 8, 11, 13, 14, 17] i = true then .read else .pure) [] [0, 1, 2, 3, 4, 5, 6, 7, 8, 9, 10, 11, 12, 13, 14, 15, 16, 17, 18, 19] .stop mixed rfl rfl (by decide +kernel) ?_
    repeat' (first | (with_reducible show AG _ _ _ _ _ _ _ _ _ _; first | exact zgn | refine zgs ?_ | refine znd ?_ ?_) | (show AMid _ _ _ _; first | refine zmf ?_ | refine zmg (by first | exact OSub.refl _ | exact .drop (OSub.refl _) | exact .drop (.drop (OSub.refl _))) ?_) | refine gY pk ?_ | (show AL _ _ _ _ _ _ _; first | refine zoi tok 0 rfl rfl rfl rfl (by decide) rfl rfl rfl rfl rfl rfl (by omega) (by first | omega | (simp only [List.length_set]; omega)) ?_ | refine s_loadR tok 0 rfl rfl rfl rfl (by decide) rfl rfl rfl gk rfl (by simp) ?_ | refine s_storeR tok 0 rfl rfl rfl rfl rfl rfl rfl rfl (by decide) rfl gk (Nat.le_of_ble_eq_true rfl) ?_ | refine s_storeR tok 0 rfl rfl rfl rfl rfl rfl rfl rfl (by decide) rfl (gk2 _) (Nat.le_of_ble_eq_true rfl) ?_) | fail)
    repeat (first | refine gA pk ?_)
    exact ⟨i + 1, by omega, by omega, by exact subQ, by rw [← hset]; exact OSub.refl _⟩
  obtain rfl : i = D.length := by omega
  rw [swU_all]
  refine a_frz 0 9 rfl rfl ?_
  repeat (first | refine gA pk ?_ | (show AL _ _ _ _ _ _ _; first | refine jP sD ?_))
  refine finQ ?_
  exact ⟨rfl, rfl⟩
end Go.Proofs.YtddohheabpiljaaGreat
end
section
namespace Go.Proofs.YtddohheabpiljaaGreat
open Go.Sj Go.Sj.Typ Go.Sj.Sta Go.Sj.Inc Go.Sj.Can
set_option maxRecDepth 8000
theorem q4_vr {σ : Hp} {v : Value} {x : List Int} {p : Prop} (h : x.length = 4 ∧ p) (hv : VR σ (.agg (x.map fun m => AV.lit (.int .u8 m))) v) : VR σ (.agg (cQ4 (toQ4 x))) v := by
  rw [toQ4_c h.1] at hv
  exact hv
end Go.Proofs.YtddohheabpiljaaGreat
end
