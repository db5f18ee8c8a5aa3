/- Parts of a proof. -/
import Derived.Test.YtddohheabpiljaaGreatS51
set_option linter.unusedVariables false
set_option linter.unusedSimpArgs false
section
namespace Go.Proofs.YtddohheabpiljaaGreat
open Go.Sj Go.Sj.Typ Go.Sj.Sta Go.Sj.Inc Go.Sj.Can
set_option maxRecDepth 8000
set_option maxHeartbeats 16000000
theorem flat_len {A : Type} (f : Nat → List A) (B : Nat) : ∀ k, (∀ i, i < k → (f i).length ≤ B) → ((List.range k).flatMap f).length ≤ k * B
  | 0, _ => by simp
  | k + 1, h => by
    have h1 := flat_len f B k (fun i hi => h i (by omega))
    have h2 := h k (by omega)
    rw [List.range_succ, List.flatMap_append, List.length_append, Nat.add_mul]
    simp only [List.flatMap_cons, List.flatMap_nil, List.append_nil]
    omega
theorem find_len {S : Sea} : ∀ (m : Nat) (ns es : List Int), m = remS S ns es → ns.length ≤ S.p.nodes.length → es.length ≤ S.p.edges.length → (findL S m ns es).length ≤ S.g.nodes.length ^ (S.p.nodes.length - ns.length) * S.g.edges.length ^ (S.p.edges.length - es.length)
  | 0, ns, es, hm, hn, he => by
    unfold remS at hm
    rw [show S.p.nodes.length - ns.length = 0 by omega, show S.p.edges.length - es.length = 0 by omega]
    unfold findL
    simp
  | m + 1, ns, es, hm, hn, he => by
    unfold remS at hm
    unfold findL
    split
    · rename_i hlt
      obtain ⟨k, hk⟩ : ∃ k, S.p.nodes.length - ns.length = k + 1 := ⟨S.p.nodes.length - ns.length - 1, by omega⟩
      rw [hk, Nat.pow_succ, Nat.mul_comm (_ ^ k), Nat.mul_assoc]
      refine flat_len _ _ _ fun i hi => ?_
      split
      · have h := find_len m (ns ++ [(i : Int)]) es (by unfold remS; simp only [List.length_append, List.length_cons, List.length_nil]; omega) (by simp; omega) he
        rw [show S.p.nodes.length - (ns ++ [(i : Int)]).length = k by simp; omega] at h
        exact h
      · exact Nat.zero_le _
    · rename_i hlt
      obtain ⟨k, hk⟩ : ∃ k, S.p.edges.length - es.length = k + 1 := ⟨S.p.edges.length - es.length - 1, by omega⟩
      rw [hk, Nat.pow_succ, Nat.mul_comm (_ ^ k), ← Nat.mul_assoc, Nat.mul_comm (_ ^ _), Nat.mul_assoc]
      refine flat_len _ _ _ fun i hi => ?_
      split
      · have h := find_len m ns (es ++ [(i : Int)]) (by unfold remS; simp only [List.length_append, List.length_cons, List.length_nil]; omega) hn (by simp; omega)
        rw [show S.p.edges.length - (es ++ [(i : Int)]).length = k by simp; omega] at h
        exact h
      · exact Nat.zero_le _
theorem pow_small {n a b : Nat} (hn : n ≤ b) (hb : 1 ≤ b) (ha : a ≤ 2) : n ^ a ≤ b ^ 2 := Nat.le_trans (Nat.pow_le_pow_left hn a) (Nat.pow_le_pow_right hb ha)
theorem mat_few {t : Tys} {p g : Gr} {inj : Bool} (h1 : p.nodes.length ≤ 2) (h2 : p.edges.length ≤ 2) (h3 : g.nodes.length ≤ 7) (h4 : g.edges.length ≤ 9) : (matL (seaA t p g inj)).length ≤ 5000 := by
  have h := find_len (S := seaA t p g inj) _ [] [] rfl (Nat.zero_le _) (Nat.zero_le _)
  have h5 : (matL (seaA t p g inj)).length ≤ g.nodes.length ^ p.nodes.length * g.edges.length ^ p.edges.length := h
  have h6 := Nat.mul_le_mul (pow_small h3 (by decide) h1) (pow_small h4 (by decide) h2)
  exact Nat.le_trans h5 (Nat.le_trans h6 (by decide))
theorem edit_errs {g : Gr} {e : Edt} {nt et : Int} (hk : 1 ≤ e.kind ∧ e.kind ≤ 4) (hn : g.nodes.length ≤ 6) (he : g.edges.length ≤ 8) : editE g e nt et = 0 ∨ editE g e nt et = 6 ∨ editE g e nt et = 14 ∨ editE g e nt et = 13 := by
  unfold editE
  repeat' split
  all_goals first | omega | simp
theorem ediG_len (g : Gr) (e : Edt) : (ediG g e).nodes.length ≤ g.nodes.length + 1 ∧ (ediG g e).edges.length ≤ g.edges.length + 1 := by
  unfold ediG
  split
  · simp
  · split
    · simp
    · split
      · have := List.length_eraseIdx_le g.nodes e.idx.toNat
        simp only [List.length_map]
        omega
      · have := List.length_eraseIdx_le g.edges e.idx.toNat
        simp only
        omega
theorem part_len (q : Mo → Bool) (l : List Mo) : (l.filter q).length + (l.filter fun x => !q x).length = l.length := by
  have := (List.filter_append_perm q l).length_eq
  rw [List.length_append] at this
  exact this
theorem applyB_small {t : Tys} (ht : Small t) {w : Wat} (hv : wvalE t w = 0) (hs : SzW w) {e : Edt} (he : edtE t w.g e = 0) :
    matsE t w.ps (ediG w.g e) w.inj = 0 ∧ applyB t w e = (⟨w.ps, ediG w.g e, w.inj, w.ps.map fun p => matL (seaA t p (ediG w.g e) w.inj)⟩, w.ps.map (delR t w.g e w.inj), 0) ∧
    ∀ p ∈ w.ps, (matL (seaA t p (ediG w.g e) w.inj)).length ≤ 5000 ∧ (matL (seaA t p w.g w.inj)).length ≤ 5000 ∧ (matL (seaA t p (ediG w.g e) w.inj)).length + (delR t w.g e w.inj p).2.length = (matL (seaA t p w.g w.inj)).length + (delR t w.g e w.inj p).1.length := by
  have hE := edOk ht hv he
  have hl := ediG_len w.g e
  have h1 := hs.gn
  have h2 := hs.ge
  have hall : ∀ p ∈ w.ps, validS t p (ediG w.g e) = 0 ∧ (matL (seaA t p (ediG w.g e) w.inj)).length ≤ 5000 := fun p hp => ⟨(hE.hv p hp).2.1, mat_few (hs.ps p hp).1 (hs.ps p hp).2 (by omega) (by omega)⟩
  have hM := matsE_ok hE.hv0 hE.hl hall
  refine ⟨hM, ?_, fun p hp => ⟨(hall p hp).2, (hE.hv p hp).2.2, ?_⟩⟩
  · unfold applyB
    rw [if_neg (Decidable.not_not.2 he), if_neg (Decidable.not_not.2 hM), matsL_ok hall]
  · have hgp := (validS_zero (hE.hv p hp).1).2.1
    unfold delR
    rcases edit_kind he with ⟨hk, a, b⟩ | ⟨hk, a, b, c, d⟩ | ⟨hk, a, b⟩ | ⟨hk, a⟩
    · rw [if_pos hk]
      have e1 : ediG w.g e = ⟨w.g.nodes ++ [e.ty], w.g.edges⟩ := by unfold ediG; rw [if_pos hk]
      have h3 := mat_restN (t := t) (p := p) (g := w.g) (inj := w.inj) (ty := e.ty)
      rw [← e1] at h3
      have h4 := part_len (hasN w.g.nodes.length) (matL (seaA t p (ediG w.g e) w.inj))
      rw [h3] at h4
      show _ + 0 = _ + (List.filter _ _).length
      omega
    · rw [if_neg (by omega), if_pos hk]
      have e1 : ediG w.g e = ⟨w.g.nodes, w.g.edges ++ [⟨e.ty, e.fr, e.to⟩]⟩ := by unfold ediG; rw [if_neg (by omega), if_pos hk]
      have h3 := mat_restE (t := t) (p := p) (g := w.g) (inj := w.inj) (y := ⟨e.ty, e.fr, e.to⟩)
      rw [← e1] at h3
      have h4 := part_len (hasE w.g.edges.length) (matL (seaA t p (ediG w.g e) w.inj))
      rw [h3] at h4
      show _ + 0 = _ + (List.filter _ _).length
      omega
    · rw [if_neg (by omega), if_neg (by omega), if_pos hk]
      obtain ⟨d, hd⟩ : ∃ d : Nat, e.idx = d := ⟨e.idx.toNat, by omega⟩
      have e1 : ediG w.g e = ⟨w.g.nodes.eraseIdx d, w.g.edges.map (lesE d)⟩ := by unfold ediG; rw [if_neg (by omega), if_neg (by omega), if_pos hk, hd, Int.toNat_natCast]
      have h3 := mat_cutN (t := t) (p := p) (g := w.g) (inj := w.inj) (d := d) hgp (by omega) (fun y hy => by
        have := b y hy
        rw [hd] at this
        exact this)
      rw [← e1] at h3
      have h4 := part_len (hasN d) (matL (seaA t p w.g w.inj))
      have h5 := congrArg List.length h3
      rw [List.length_map] at h5
      rw [hd]
      show _ + (List.filter _ _).length = _ + 0
      omega
    · rw [if_neg (by omega), if_neg (by omega), if_neg (by omega)]
      obtain ⟨d, hd⟩ : ∃ d : Nat, e.idx = d := ⟨e.idx.toNat, by omega⟩
      have e1 : ediG w.g e = ⟨w.g.nodes, w.g.edges.eraseIdx d⟩ := by unfold ediG; rw [if_neg (by omega), if_neg (by omega), if_neg (by omega), hd, Int.toNat_natCast]
      have h3 := mat_cutE (t := t) (p := p) (g := w.g) (inj := w.inj) (d := d) (by omega)
      rw [← e1] at h3
      have h4 := part_len (hasE d) (matL (seaA t p w.g w.inj))
      have h5 := congrArg List.length h3
      rw [List.length_map] at h5
      rw [hd]
      show _ + (List.filter _ _).length = _ + 0
      omega
end Go.Proofs.YtddohheabpiljaaGreat
end
section
namespace Go.Proofs.YtddohheabpiljaaGreat
open Go.Sj Go.Sj.Typ Go.Sj.Sta Go.Sj.Inc Go.Sj.Can
set_option maxRecDepth 8000
set_option maxHeartbeats 16000000
theorem delR_len (t : Tys) (g : Gr) (e : Edt) (inj : Bool) (p : Gr) : (delR t g e inj p).1.length ≤ (matL (seaA t p (ediG g e) inj)).length ∧ (delR t g e inj p).2.length ≤ (matL (seaA t p g inj)).length := by
  unfold delR
  split
  · exact ⟨List.length_filter_le _ _, Nat.zero_le _⟩
  · split
    · exact ⟨List.length_filter_le _ _, Nat.zero_le _⟩
    · split
      · exact ⟨Nat.zero_le _, List.length_filter_le _ _⟩
      · exact ⟨Nat.zero_le _, List.length_filter_le _ _⟩
theorem IncrementalCounts_spec (d : Dr20) (hd : OkD20 d) (q : Q4) (hq : InQ q) : Pure Tryz.prog 6 [.agg (dr20L d), .agg (cQ4 q)] (AB true) := by
  have sa := awakeI_spec
  have sm := made20_spec d hd
  have hT := tyG_made d.nodes d.edges
  generalize madeT d.nodes d.edges = t at *
  have ht := hT.sm
  have hne := hT.ne
  have hA := fun w h e => iApplyF_spec t ht w h e
  have hEd := fun g a x0 x1 x2 x3 b0 b1 b2 b3 => edit20_spec t ht hne g a x0 x1 x2 x3 b0 b1 b2 b3
  have hsm := fun w h1 h2 e h3 => applyB_small ht (w := w) h1 h2 (e := e) h3
  have hok := fun w h => watOk_valid (t := t) (w := w) h
  have hwz := fun w h => wval_zero (t := t) (w := w) h
  obtain ⟨dn, de, dp, ⟨dgn, dge⟩, inj⟩ := d
  obtain ⟨x0, x1, x2, x3⟩ := q
  obtain ⟨b0, b1, b2, b3, b4⟩ := hq
  simp only at b0 b1 b2 b3 b4
  change Pure _ _ [.agg [.im 2 (dn.map c82), .im 2 (de.map c82), .im 2 (dp.map dr5L), bytesA dgn, .im 3 (dge.map c83), AB inj], .agg [A8 x0, A8 x1, A8 x2, A8 x3]] _
  change Go.Sj.ACalls _ _ [.agg [.im 2 (dn.map c82), .im 2 (de.map c82), .im 2 (dp.map dr5L), bytesA dgn, .im 3 (dge.map c83), AB inj]] _ _ at sm
  refine a_enter Tryz.func6 (by kernel_rfl) rfl Tryz.ntmps6 rfl (by simp) ?_
  refine a_seq ?_
  refine a_reg ?_
  repeat (first | refine gZ pk ?_ | (show AL _ _ _ _ _ _ _; first | refine jB (fun u => ?_)))
  refine a_frzBox 1 2 rfl rfl ?_
  refine a_frzBox 0 3 rfl rfl ?_
  repeat (first | refine gN pk ?_ | (show AL _ _ _ _ _ _ _; first | refine jP sa ?_ | refine s_call (Lc := []) (Lr := []) rfl rfl rfl rfl rfl sm (SubL.of_eq rfl) (List.Perm.refl _) ?_; rintro _ _ ⟨⟨w, rfl, hw1, hw2⟩, rfl⟩ | refine jL tok (fun ux => ?_) | refine jS tok 0 ?_ | refine jS tok 1 ?_))
  refine a_frzBox 1 5 rfl rfl ?_
  refine a_frzBox 0 6 rfl rfl ?_
  obtain ⟨ok, okg, ok5, okp, okm, okl⟩ := hok w hw1
  obtain ⟨e, hke, sE⟩ := hEd w.g ok.g x0 x1 x2 x3 b0 b1 b2 ⟨b3, b4⟩
  have sA := hA w ok e
  rw [applyR_eq, if_neg (Decidable.not_not.2 hw1)] at sA
  have hbe : edtE t w.g e ≠ 0 → applyB t w e = (zeroW, [], edtE t w.g e) := fun h => by unfold applyB; rw [if_pos h]
  have her := edit_errs (g := w.g) (e := e) (nt := (t.nodes.length : Nat)) (et := (t.edges.length : Nat)) hke hw2.gn hw2.ge
  have hsm2 := hsm w hw1 hw2 e
  have hwm := (hwz w hw1).2
  have hE := fun h => edOk (e := e) ht hw1 h
  refine AWp.mono (Q := fun e' st L => e' = .normal ∧ ∃ un, GoTo 90 st L (lk [(6, .ip (watC w)), (7, .pt un 0 0 0), (8, .im 2 ((applyB t w e).2.1.map cDel)), (9, AI (applyB t w e).2.2)]) [(un, .box (watC (applyB t w e).1))]) ?_ (fun e' st L h => ?_)
  · obtain ⟨wp, ⟨wn, we⟩, wi, wm⟩ := w
    obtain ⟨ek, ei, et, ef, eo⟩ := e
    change Pure _ _ [tysA t, .agg [ints wn, edsA we], .agg [A8 x0, A8 x1, A8 x2, A8 x3]] (.agg [AI ek, AI ei, AI et, AI ef, AI eo]) at sE
    change Pure _ _ [tysA t, .agg [grsA wp, ints wn, edsA we, AB wi, mssA wm], .agg [AI ek, AI ei, AI et, AI ef, AI eo]] _ at sA
    refine a_regG ((List.range 16).map fun i => if inL [6, 7, 12, 13] i = true then .eff else if inL [0, 1, 2, 4, 5] i = true then .read else .pure) [6, 12] [0, 1, 2, 3, 4, 5] (.nd 6 [] (.nd 7 [8, 9, 10, 11] (.nd 12 [13, 14, 15] .stop .stop) (.nd 12 [7, 8, 9, 10, 11, 13, 14, 15] .stop .stop)) (.nd 12 [] (.nd 6 [7, 8, 9, 10, 11, 13, 14, 15] .stop .stop) .stop)) mixed rfl rfl (by decide +kernel) ?_
    repeat' (first | (with_reducible show AG _ _ _ _ _ _ _ _ _ _; first | exact ag_none | refine ag_stop ?_ | refine ag_nd ?_ ?_) | (show AMid _ _ _ _; first | refine amid_f ?_ | refine amid_g (by first | exact OSub.refl _ | exact .drop (OSub.refl _) | exact .drop (.drop (OSub.refl _))) ?_) | refine gY pk ?_ | (show AL _ _ _ _ _ _ _; first | refine jP sE ?_ | refine jP sA ?_ | refine jL tok (fun un => ?_) | refine jS tok 0 ?_) | fail)
    all_goals exact ⟨rfl, _, .sub (by exact subQ) (OSub.refl _)⟩
  obtain ⟨rfl, un, h⟩ := h
  refine a_goto h ?_
  clear h
  refine a_frzBox 0 7 rfl rfl ?_
  by_cases he : edtE t w.g e = 0
  rotate_left
  · rw [hbe he]
    change editE w.g e (t.nodes.length : Nat) (t.edges.length : Nat) ≠ 0 at he
    have her2 : edtE t w.g e = 6 ∨ edtE t w.g e = 14 ∨ edtE t w.g e = 13 := by
      rcases her with h | h | h | h
      · exact absurd h he
      · exact .inl h
      · exact .inr (.inl h)
      · exact .inr (.inr h)
    rcases her2 with h | h | h
    all_goals
      rw [h]
      repeat (first | refine gA pk ?_)
      refine finQ ?_
      exact ⟨rfl, rfl⟩
  obtain ⟨q1, q2, q3⟩ := hsm2 he
  have hms := (hE he).ms
  rw [q2]
  have hdl := fun p => delR_len t w.g e w.inj p
  have hml := (hE he).ml
  generalize hF : (fun p => matL (seaA t p (ediG w.g e) w.inj)) = F
  have hFp := fun p => congrFun hF p
  try simp only at hFp
  simp only [hFp] at q3 hdl
  generalize delR t w.g e w.inj = D at *
  have l1 : ((w.ps.map F).map cMos).length = w.ps.length := by simp
  have l2 : (w.ms.map cMos).length = w.ps.length := by rw [List.length_map, hml]
  have l3 : ((w.ps.map D).map cDel).length = w.ps.length := by simp
  dsimp only
  repeat (first | refine gA pk ?_)
  refine a_loopX (fun i : Nat => [(6, .ip (watC w)), (7, .ip (watC ⟨w.ps, ediG w.g e, w.inj, w.ps.map F⟩)), (8, .im 2 ((w.ps.map D).map cDel)), (58, AI ((w.ps.map D).map cDel).length), (59, AI i)]) (fun _ => []) (fun i => i ≤ w.ps.length) (fun i => w.ps.length - i) 0 (Nat.zero_le _) ?_ (OSub.none _) ?_
  · exact subQ
  intro i hi
  rcases Nat.lt_or_ge i w.ps.length with h | h
  · have h1 := List.getElem?_eq_getElem h
    obtain ⟨c1, c2, c3⟩ := q3 _ (List.getElem_mem h)
    have hm := hms i
    generalize w.ps[i] = p at h1 c1 c2 c3
    replace hm := hm p h1
    obtain ⟨d1, d2⟩ := hdl p
    have g1 : ((w.ps.map F).map cMos)[(i : Int).toNat]? = some [mosA (F p)] := map_get (f := cMos) (by rw [List.getElem?_map, Int.toNat_natCast, h1]; rfl)
    have g2 : (w.ms.map cMos)[(i : Int).toNat]? = some [mosA (matL (seaA t p w.g w.inj))] := map_get (f := cMos) hm
    have g3 : ((w.ps.map D).map cDel)[(i : Int).toNat]? = some [mosA (D p).1, mosA (D p).2] := map_get (f := cDel) (by rw [List.getElem?_map, Int.toNat_natCast, h1]; rfl)
    have m1 : ((F p).map cMo).length = (F p).length := by simp
    have m2 : ((matL (seaA t p w.g w.inj)).map cMo).length = (matL (seaA t p w.g w.inj)).length := by simp
    have m3 : ((D p).1.map cMo).length = (D p).1.length := by simp
    have m4 : ((D p).2.map cMo).length = (D p).2.length := by simp
    repeat (first | refine gN pk ?_)
    refine a_regG ((List.range 27).map fun i => if inL [1, 3, 4, 5, 7, 9, 10, 11, 14, 16, 17, 21, 23, 24] i = true then .read else .pure) [] [0, 1, 2, 3, 4, 5, 6, 7, 8, 9, 10, 11, 12, 13, 14, 15, 16, 17, 18, 19, 20, 21, 22, 23, 24, 25, 26] .stop mixed rfl rfl (by decide +kernel) ?_
    repeat' (first | (with_reducible show AG _ _ _ _ _ _ _ _ _ _; first | exact ag_none | refine ag_stop ?_ | refine ag_nd ?_ ?_) | (show AMid _ _ _ _; first | refine amid_f ?_ | refine amid_g (by first | exact OSub.refl _ | exact .drop (OSub.refl _) | exact .drop (.drop (OSub.refl _))) ?_) | refine gY pk ?_ | (show AL _ _ _ _ _ _ _; first | refine jX tok g1 ?_ | refine jX tok g2 ?_ | refine jX tok g3 ?_) | fail)
    repeat (first | refine gA pk ?_)
    exact ⟨i + 1, by omega, by omega, by exact subQ, OSub.none _⟩
  · obtain rfl : i = w.ps.length := by omega
    repeat (first | refine gA pk ?_)
    refine finQ ?_
    exact ⟨rfl, rfl⟩
end Go.Proofs.YtddohheabpiljaaGreat
end
section
namespace Go.Proofs.YtddohheabpiljaaGreat
open Go.Sj Go.Sj.Typ Go.Sj.Sta Go.Sj.Inc Go.Sj.Can
set_option maxRecDepth 8000
theorem q4_vr {σ : Hp} {v : Value} {x : List Int} {p : Prop} (h : x.length = 4 ∧ p) (hv : VR σ (.agg (x.map fun m => AV.lit (.int .u8 m))) v) : VR σ (.agg (cQ4 (toQ4 x))) v := by
  rw [toQ4_c h.1] at hv
  exact hv
end Go.Proofs.YtddohheabpiljaaGreat
end
