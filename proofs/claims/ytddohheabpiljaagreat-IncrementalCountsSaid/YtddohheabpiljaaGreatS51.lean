/- Parts of a proof. -/
import Derived.Test.YtddohheabpiljaaGreatS50
set_option linter.unusedVariables false
set_option linter.unusedSimpArgs false
section
namespace Go.Proofs.YtddohheabpiljaaGreat
open Go.Sj Go.Sj.Typ Go.Sj.Sta Go.Sj.Inc Go.Sj.Can
set_option maxRecDepth 8000
set_option maxHeartbeats 16000000
abbrev Q4 := Int × Int × Int × Int
def cQ4 (x : Q4) : List AV := [A8 x.1, A8 x.2.1, A8 x.2.2.1, A8 x.2.2.2]
def InQ (x : Q4) : Prop := (0 ≤ x.1 ∧ x.1 ≤ 255) ∧ (0 ≤ x.2.1 ∧ x.2.1 ≤ 255) ∧ (0 ≤ x.2.2.1 ∧ x.2.2.1 ≤ 255) ∧ 0 ≤ x.2.2.2 ∧ x.2.2.2 ≤ 255
theorem applyB_ok {t : Tys} {w : Wat} {e : Edt} (h : (applyB t w e).2.2 = 0) : edtE t w.g e = 0 ∧ matsE t w.ps (ediG w.g e) w.inj = 0 ∧ (applyB t w e).1 = ⟨w.ps, ediG w.g e, w.inj, matsL t w.ps (ediG w.g e) w.inj⟩ := by
  unfold applyB at h ⊢
  split at h
  · rename_i h1; exact absurd h h1
  · rename_i h1
    rw [if_neg h1]
    split at h
    · rename_i h2; exact absurd h h2
    · rename_i h2
      rw [if_neg h2]
      exact ⟨Decidable.not_not.1 h1, Decidable.not_not.1 h2, rfl⟩
theorem IncrementalScratch_spec (d : Dr20) (hd : OkD20 d) (l : List Q4) (hl : l.length ≤ 140737488355328) (hq : ∀ x ∈ l, InQ x) : Pure Tryz.prog 5 [.agg (dr20L d), .im 4 (l.map cQ4)] (AB true) := by
  have sa := awakeI_spec
  have sm := made20_spec d hd
  have hT := tyG_made d.nodes d.edges
  have ll : (l.map cQ4).length = l.length := by simp
  generalize madeT d.nodes d.edges = t at *
  have ht := hT.sm
  have hne := hT.ne
  have hA := fun w h e => iApplyF_spec t ht w h e
  have hVa := fun w h => ivalid_spec t ht w h
  have hNw := fun ps g i a b c => inew_spec t ht ps g i a b c
  have hGr := fun g a e b => gGraph_spec t g a e b
  have hEd := fun g a x0 x1 x2 x3 b0 b1 b2 b3 => edit20_spec t ht hne g a x0 x1 x2 x3 b0 b1 b2 b3
  obtain ⟨dn, de, dp, ⟨dgn, dge⟩, inj⟩ := d
  change Pure _ _ [.agg [.im 2 (dn.map c82), .im 2 (de.map c82), .im 2 (dp.map dr5L), bytesA dgn, .im 3 (dge.map c83), AB inj], .im 4 (l.map cQ4)] _
  change Go.Sj.ACalls _ _ [.agg [.im 2 (dn.map c82), .im 2 (de.map c82), .im 2 (dp.map dr5L), bytesA dgn, .im 3 (dge.map c83), AB inj]] _ _ at sm
  refine a_enter Tryz.func5 (by kernel_rfl) rfl Tryz.ntmps5 rfl (by simp) ?_
  refine a_seq ?_
  refine a_reg ?_
  repeat (first | refine gZ pk ?_ | (show AL _ _ _ _ _ _ _; first | refine jB (fun u => ?_)))
  refine a_frzBox 0 2 rfl rfl ?_
  by_cases h8 : 8 < l.length
  · repeat (first | refine gA pk ?_ | (show AL _ _ _ _ _ _ _; first | refine jP sa ?_))
    refine finQ ?_
    exact ⟨rfl, rfl⟩
  repeat (first | refine gA pk ?_ | (show AL _ _ _ _ _ _ _; first | refine jP sa ?_ | refine s_call (Lc := []) (Lr := []) rfl rfl rfl rfl rfl sm (SubL.of_eq rfl) (List.Perm.refl _) ?_; rintro _ _ ⟨⟨w, rfl, hw1, hw2⟩, rfl⟩ | refine jL tok (fun ux => ?_) | refine jS tok 0 ?_ | refine jS tok 1 ?_))
  refine a_frzBox 1 5 rfl rfl ?_
  rw [ll]
  refine a_loopX (fun x : Nat × Wat => [(5, tysP t), (6, .pt ux 0 0 0), (27, .im 4 (l.map cQ4)), (28, AI l.length), (29, AI x.1)]) (fun x => [(ux, .box (watC x.2))]) (fun x => x.1 ≤ l.length ∧ wvalE t x.2 = 0) (fun x => l.length - x.1) (0, w) ⟨Nat.zero_le _, hw1⟩ ?_ (OSub.refl _) ?_
  · exact subQ
  clear hw1 hw2 sm
  rintro ⟨i, wc⟩ ⟨k1, k2⟩
  simp only at k1 k2
  dsimp only
  obtain ⟨ok, okg, ok5, okp, okm, okl⟩ := watOk_valid k2
  rcases Nat.lt_or_ge i l.length with h | h
  · have h1 := List.getElem?_eq_getElem h
    have hx := hq _ (List.getElem_mem h)
    generalize l[i] = q at h1 hx
    obtain ⟨x0, x1, x2, x3⟩ := q
    obtain ⟨b0, b1, b2, b3, b4⟩ := hx
    simp only at b0 b1 b2 b3 b4
    have xk : (l.map cQ4)[(i : Int).toNat]? = some [A8 x0, A8 x1, A8 x2, A8 x3] := map_get (f := cQ4) h1
    obtain ⟨e, -, sE⟩ := hEd wc.g ok.g x0 x1 x2 x3 b0 b1 b2 ⟨b3, b4⟩
    have sA := hA wc ok e
    rw [applyR_eq, if_neg (Decidable.not_not.2 k2)] at sA
    have hok := applyB_ok (t := t) (w := wc) (e := e)
    have hnv := applyB_valid (t := t) (w := wc) (e := e)
    have sG := hGr wc.g okg e
    have sN := fun hg => hNw wc.ps (ediG wc.g e) wc.inj ok.ps ok.pl hg
    have hE := fun he => edOk (e := e) ht k2 he
    have hsm := fun hz => same_valid (t := t) (w := (applyB t wc e).1) hz
    obtain ⟨wp, ⟨wn, we⟩, wi, wm⟩ := wc
    obtain ⟨ek, ei, et, ef, eo⟩ := e
    simp only at hok hnv sG sN hE hsm sE sA
    generalize hr : applyB t ⟨wp, ⟨wn, we⟩, wi, wm⟩ ⟨ek, ei, et, ef, eo⟩ = r at *
    obtain ⟨⟨rp, ⟨rn, re⟩, ri, rm⟩, rd, rc⟩ := r
    simp only at hok hnv hsm sA
    change Pure _ _ [tysA t, .agg [ints wn, edsA we], .agg [A8 x0, A8 x1, A8 x2, A8 x3]] (.agg [AI ek, AI ei, AI et, AI ef, AI eo]) at sE
    change Pure _ _ [tysA t, .agg [grsA wp, ints wn, edsA we, AB wi, mssA wm], .agg [AI ek, AI ei, AI et, AI ef, AI eo]] (.tup [.agg [grsA rp, ints rn, edsA re, AB ri, mssA rm], .im 2 (rd.map cDel), AI rc]) at sA
    show AWp _ _ _ _ _ [(ux, .box [grsA wp, ints wn, edsA we, AB wi, mssA wm])]
    repeat (first | refine gN pk ?_ | (show AL _ _ _ _ _ _ _; first | refine jX tok xk ?_ | refine jL tok (fun uq => ?_) | refine jS tok 0 ?_))
    refine a_frzBox 0 8 rfl rfl ?_
    refine AWp.mono (Q := fun e' st L => e' = .normal ∧ ∃ un, GoTo 78 st L (lk [(5, tysP t), (6, .pt ux 0 0 0), (8, .ip [A8 x0, A8 x1, A8 x2, A8 x3]), (9, .pt un 0 0 0), (11, AI rc), (27, .im 4 (l.map cQ4)), (28, AI l.length), (29, AI i)]) [(un, .box [grsA rp, ints rn, edsA re, AB ri, mssA rm]), (ux, .box [grsA wp, ints wn, edsA we, AB wi, mssA wm])]) ?_ (fun e' st L h => ?_)
    · refine a_regG ((List.range 16).map fun i => if inL [6, 7, 12, 13] i = true then .eff else if inL [0, 1, 2, 4, 5] i = true then .read else .pure) [6, 12] [0, 1, 2, 3, 4, 5] (.nd 6 [] (.nd 7 [8, 9, 10, 11] (.nd 12 [13, 14, 15] .stop .stop) (.nd 12 [7, 8, 9, 10, 11, 13, 14, 15] .stop .stop)) (.nd 12 [] (.nd 6 [7, 8, 9, 10, 11, 13, 14, 15] .stop .stop) .stop)) mixed rfl rfl (by decide +kernel) ?_
      repeat' (first | (with_reducible show AG _ _ _ _ _ _ _ _ _ _; first | exact ag_none | refine ag_stop ?_ | refine ag_nd ?_ ?_) | (show AMid _ _ _ _; first | refine amid_f ?_ | refine amid_g (by first | exact OSub.refl _ | exact .drop (OSub.refl _) | exact .drop (.drop (OSub.refl _))) ?_) | refine gY pk ?_ | (show AL _ _ _ _ _ _ _; first | refine jO tok 0 ?_ | refine jO tok 1 ?_ | refine jP sE ?_ | refine jP sA ?_ | refine jL tok (fun un => ?_) | refine jS tok 0 ?_) | fail)
      all_goals exact ⟨rfl, _, .sub (by exact subQ) (OSub.refl _)⟩
    obtain ⟨rfl, un, h⟩ := h
    refine a_goto h ?_
    clear h
    by_cases hc : rc = 0
    rotate_left
    · repeat (first | refine gA pk ?_)
      exact ⟨(i + 1, ⟨wp, ⟨wn, we⟩, wi, wm⟩), ⟨by show i + 1 ≤ l.length; omega, k2⟩, by show l.length - (i + 1) < l.length - i; omega, by exact subQ, .drop (OSub.refl _)⟩
    subst hc
    obtain ⟨o1, o2, o3⟩ := hok rfl
    have hgv' : GV (ediG ⟨wn, we⟩ ⟨ek, ei, et, ef, eo⟩) := (validS_zero (hE o1).hv0).2.2.1
    replace sG := sG o1
    replace sN := sN (gv_small hgv').1
    unfold newR at sN
    rw [if_neg (Decidable.not_not.2 o2)] at sN
    replace hsm := hsm (hnv rfl)
    generalize ediG ⟨wn, we⟩ ⟨ek, ei, et, ef, eo⟩ = g' at *
    obtain ⟨gn', ge'⟩ := g'
    generalize matsL t wp ⟨gn', ge'⟩ wi = ml at *
    cases o3
    change Pure _ _ [.agg [ints wn, edsA we], .agg [AI ek, AI ei, AI et, AI ef, AI eo]] (.agg [ints rn, edsA re]) at sG
    change Pure _ _ [tysA t, grsA wp, .agg [ints rn, edsA re], AB wi] (.tup [.agg [grsA wp, ints rn, edsA re, AB wi, mssA rm], AI 0]) at sN
    change Pure _ _ [.agg [grsA wp, ints rn, edsA re, AB wi, mssA rm], .agg [grsA wp, ints rn, edsA re, AB wi, mssA rm]] _ at hsm
    repeat (first | refine gN pk ?_)
    refine AWp.mono (Q := fun e' st L => e' = .normal ∧ ∃ ua, GoTo 78 st L (lk [(5, tysP t), (6, .pt ux 0 0 0), (9, .pt un 0 0 0), (12, .pt ua 0 0 0), (13, AI 0), (27, .im 4 (l.map cQ4)), (28, AI l.length), (29, AI i)]) [(ua, .box [grsA wp, ints rn, edsA re, AB wi, mssA rm]), (un, .box [grsA wp, ints rn, edsA re, AB wi, mssA rm]), (ux, .box [grsA wp, ints wn, edsA we, AB wi, mssA wm])]) ?_ (fun e' st L h => ?_)
    · refine a_regG ((List.range 20).map fun i => if inL [9, 10, 13, 17, 18] i = true then .eff else if inL [0, 2, 4, 5, 7, 8, 12] i = true then .read else .pure) [9, 10, 17] [0, 1, 2, 3, 4, 5, 6, 7, 8, 11, 12] (.nd 9 [] (.nd 10 [] (.nd 13 [14, 15, 16] (.nd 17 [18, 19] .stop .stop) (.nd 17 [13, 14, 15, 16, 18, 19] .stop .stop)) (.nd 17 [] (.nd 10 [13, 14, 15, 16, 18, 19] .stop .stop) .stop)) (.nd 17 [] (.nd 9 [] (.nd 10 [13, 14, 15, 16, 18, 19] .stop .stop) .stop) .stop)) mixed rfl rfl (by decide +kernel) ?_
      repeat' (first | (with_reducible show AG _ _ _ _ _ _ _ _ _ _; first | exact ag_none | refine ag_stop ?_ | refine ag_nd ?_ ?_) | (show AMid _ _ _ _; first | refine amid_f ?_ | refine amid_g (by first | exact OSub.refl _ | exact .drop (OSub.refl _) | exact .drop (.drop (OSub.refl _))) ?_) | refine gY pk ?_ | (show AL _ _ _ _ _ _ _; first | refine jO tok 1 ?_ | refine jO tok 2 ?_ | refine jP sE ?_ | refine jP sG ?_ | refine jP sN ?_ | refine jL tok (fun ua => ?_) | refine jS tok 0 ?_) | fail)
      all_goals exact ⟨rfl, _, .sub (by exact subQ) (OSub.refl _)⟩
    obtain ⟨rfl, ua, h⟩ := h
    refine a_goto h ?_
    clear h
    repeat (first | refine gA pk ?_ | (show AL _ _ _ _ _ _ _; first | refine jO tok 0 ?_ | refine jO tok 1 ?_ | refine jP hsm ?_ | refine jS tok 2 ?_))
    exact ⟨(i + 1, ⟨wp, ⟨rn, re⟩, wi, rm⟩), ⟨by show i + 1 ≤ l.length; omega, hnv rfl⟩, by show l.length - (i + 1) < l.length - i; omega, by exact subQ, .drop (.drop (OSub.refl _))⟩
  · obtain rfl : i = l.length := by omega
    have sV := hVa wc ok
    rw [k2] at sV
    obtain ⟨wp, ⟨wn, we⟩, wi, wm⟩ := wc
    change Pure _ _ [tysA t, .agg [grsA wp, ints wn, edsA we, AB wi, mssA wm]] _ at sV
    show AWp _ _ _ _ _ [(ux, .box [grsA wp, ints wn, edsA we, AB wi, mssA wm])]
    repeat (first | refine gA pk ?_ | (show AL _ _ _ _ _ _ _; first | refine jO tok 0 ?_ | refine jP sV ?_))
    refine finQ ?_
    exact ⟨rfl, rfl⟩
end Go.Proofs.YtddohheabpiljaaGreat
end
section
namespace Go.Proofs.YtddohheabpiljaaGreat
open Go.Sj Go.Sj.Typ Go.Sj.Sta Go.Sj.Inc Go.Sj.Can
set_option maxRecDepth 8000
set_option maxHeartbeats 16000000
abbrev RDr20 := List (List Int) × List (List Int) × List RDr5 × RDr5 × Bool × Unit
def toDr20 (x : RDr20) : Dr20 := ⟨x.1.map toC2, x.2.1.map toC2, x.2.2.1.map toDr5, toDr5 x.2.2.2.1, x.2.2.2.2.1⟩
def gDr20 (x : RDr20) : List AV := [.im 2 (x.1.map g8s)] ++ ([.im 2 (x.2.1.map g8s)] ++ ([.im 2 (x.2.2.1.map gDr5)] ++ (gDr5 x.2.2.2.1 ++ ([.lit (.bool x.2.2.2.2.1)] ++ []))))
theorem gDr5_eq {x : RDr5} (hx : okRD5 x) : gDr5 x = dr5L (toDr5 x) := by
  have e3 : x.2.1.map g8s = (x.2.1.map toC3).map c83 := by rw [List.map_map]; exact List.map_congr_left fun a ha => toC3_c (hx.2.1.1 a ha).1
  show [AV.im 1 (x.1.map fun n => [.lit (.int .u8 n)]), AV.im 3 (x.2.1.map g8s)] = _
  rw [e3]; rfl
abbrev okRD20 (x : RDr20) : Prop := ((∀ a ∈ x.1, a.length = 2 ∧ ∀ m ∈ a, (Lit.int .u8 m).wf = true) ∧ x.1.length ≤ reachBytes) ∧ ((∀ a ∈ x.2.1, a.length = 2 ∧ ∀ m ∈ a, (Lit.int .u8 m).wf = true) ∧ x.2.1.length ≤ reachBytes) ∧
  ((∀ a ∈ x.2.2.1, okRD5 a) ∧ x.2.2.1.length ≤ reachBytes) ∧ okRD5 x.2.2.2.1 ∧ True ∧ True
theorem dr20_vr {σ : Hp} {v : Value} {x : RDr20} (hx : okRD20 x) (h : VR σ (.agg (gDr20 x)) v) : VR σ (.agg (dr20L (toDr20 x))) v := by
  have e1 : x.1.map g8s = (x.1.map toC2).map c82 := by rw [List.map_map]; exact List.map_congr_left fun a ha => toC2_c (hx.1.1 a ha).1
  have e2 : x.2.1.map g8s = (x.2.1.map toC2).map c82 := by rw [List.map_map]; exact List.map_congr_left fun a ha => toC2_c (hx.2.1.1 a ha).1
  have e3 : x.2.2.1.map gDr5 = (x.2.2.1.map toDr5).map dr5L := by rw [List.map_map]; exact List.map_congr_left fun a ha => gDr5_eq (hx.2.2.1.1 a ha)
  have e : gDr20 x = dr20L (toDr20 x) := by
    unfold gDr20
    rw [e1, e2, e3, gDr5_eq hx.2.2.2.1]
    rfl
  rw [e] at h
  exact h
theorem dr20_ok {x : RDr20} (hx : okRD20 x) : OkD20 (toDr20 x) := by
  have r1 := hx.1.2
  have r2 := hx.2.1.2
  have r3 := hx.2.2.1.2
  unfold reachBytes at r1 r2 r3
  refine ⟨fun c hc => ?_, fun c hc => ?_, ?_, ?_, fun p hp => ?_, ?_, dr5_ok hx.2.2.2.1⟩
  · obtain ⟨a, ha, rfl⟩ := List.mem_map.1 hc
    exact toC2_ok (hx.1.1 a ha)
  · obtain ⟨a, ha, rfl⟩ := List.mem_map.1 hc
    exact toC2_ok (hx.2.1.1 a ha)
  · show (x.1.map toC2).length ≤ _
    rw [List.length_map]; omega
  · show (x.2.1.map toC2).length ≤ _
    rw [List.length_map]; omega
  · obtain ⟨a, ha, rfl⟩ := List.mem_map.1 hp
    exact dr5_ok (hx.2.2.1.1 a ha)
  · show (x.2.2.1.map toDr5).length ≤ _
    rw [List.length_map]; omega
def toQ4 : List Int → Q4
  | [a, b, c, d] => (a, b, c, d)
  | _ => (0, 0, 0, 0)
theorem toQ4_c {l : List Int} (h : l.length = 4) : (l.map fun m => AV.lit (.int .u8 m)) = cQ4 (toQ4 l) := by
  match l, h with
  | [a, b, c, d], _ => rfl
theorem toQ4_in {l : List Int} (h : l.length = 4 ∧ ∀ m ∈ l, (Lit.int .u8 m).wf = true) : InQ (toQ4 l) := by
  obtain ⟨h1, h2⟩ := h
  match l, h1 with
  | [a, b, c, d], _ => exact ⟨wf_n8 (h2 a (by simp)), wf_n8 (h2 b (by simp)), wf_n8 (h2 c (by simp)), wf_n8 (h2 d (by simp))⟩
theorem q4s_vr {σ : Hp} {v : Value} {x : List (List Int)} {p : Prop} (h : (∀ a ∈ x, a.length = 4 ∧ ∀ m ∈ a, (Lit.int .u8 m).wf = true) ∧ p) (hv : VR σ (.im 4 (x.map fun l => l.map fun m => AV.lit (.int .u8 m))) v) : VR σ (.im 4 ((x.map toQ4).map cQ4)) v := by
  have e : (x.map fun l => l.map fun m => AV.lit (.int .u8 m)) = (x.map toQ4).map cQ4 := by
    rw [List.map_map]
    exact List.map_congr_left fun a ha => toQ4_c (h.1 a ha).1
  rw [e] at hv
  exact hv
theorem q4s_len {x : List (List Int)} {p : Prop} (h : p ∧ x.length ≤ reachBytes) : (x.map toQ4).length ≤ 140737488355328 := by
  have h2 := h.2
  unfold reachBytes at h2
  rw [List.length_map]
  omega
theorem q4s_in {x : List (List Int)} {p : Prop} (h : (∀ a ∈ x, a.length = 4 ∧ ∀ m ∈ a, (Lit.int .u8 m).wf = true) ∧ p) : ∀ q ∈ x.map toQ4, InQ q := fun q hq => by
  obtain ⟨a, ha, rfl⟩ := List.mem_map.1 hq
  exact toQ4_in (h.1 a ha)
end Go.Proofs.YtddohheabpiljaaGreat
end
