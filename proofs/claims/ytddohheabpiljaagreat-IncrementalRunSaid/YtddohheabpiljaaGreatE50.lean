/- Parts of a proof. -/
import Derived.Test.YtddohheabpiljaaGreatE49
set_option linter.unusedVariables false
set_option linter.unusedSimpArgs false
section
namespace Go.Proofs.YtddohheabpiljaaGreat
open Go.Sj Go.Sj.Typ Go.Sj.Sta Go.Sj.Inc
set_option maxRecDepth 8000
set_option maxHeartbeats 16000000
theorem copiedW_spec (w : Wat) (hpl : w.ps.length ≤ 1000) (hp : ∀ p ∈ w.ps, p.nodes.length ≤ 1000 ∧ p.edges.length ≤ 1000) (hg : w.g.nodes.length ≤ 1000 ∧ w.g.edges.length ≤ 1000) (hml : w.ms.length ≤ 1000) (hm : ∀ l ∈ w.ms, l.length ≤ 1000 ∧ ∀ m ∈ l, m.1.length ≤ 1000 ∧ m.2.length ≤ 1000) :
    Pure Tryz.prog 18 [watA w] (watA w) := by
  have s1 := gCopied_spec w.g hg.1 hg.2
  obtain ⟨ps, g, inj, ms⟩ := w
  obtain ⟨gn, ge⟩ := g
  simp only at hpl hp hml hm s1
  change Pure _ _ [.agg [ints gn, edsA ge]] (.agg [ints gn, edsA ge]) at s1
  have lps : (ps.map cGr).length = ps.length := by simp
  have lms : (ms.map cMos).length = ms.length := by simp
  refine a_enterC Tryz.func18 (by kernel_rfl) rfl Tryz.ntmps18 rfl (tok _ _ rfl) (by simp) ?_
  refine a_seq ?_
  refine a_reg ?_
  repeat (first | refine gZ pk ?_ | (show AL _ _ _ _ _ _ _; first | refine jB (fun u => ?_) | refine jL tok (fun U2 => ?_)))
  refine a_frzBox 1 1 rfl rfl ?_
  refine AWp.mono (Q := fun e st L => e = .normal ∧ ∃ ub, GoTo 66 st L (lk [(1, .ip [grsA ps, ints gn, edsA ge, AB inj, mssA ms]), (2, .pt U2 0 0 0), (3, .pt ub 0 0 0)]) [(ub, OB.box [nilS, ints gn, edsA ge, AB inj, nilS]), (U2, OB.box [nilS, nilS, nilS, AB false, nilS])]) ?_ (fun e st L h => ?_)
  · refine a_regG ((List.range 8).map fun i => if inL [2, 6, 7] i = true then .eff else if inL [1, 4] i = true then .read else .pure) [2, 6] [0, 1, 3, 4] (.nd 2 [5] (.nd 6 [7] .stop .stop) (.nd 6 [] (.nd 2 [5, 7] .stop .stop) .stop)) mixed rfl rfl (by decide +kernel) ?_
    repeat' (first | (with_reducible show AG _ _ _ _ _ _ _ _ _ _; first | exact ag_none | refine ag_stop ?_ | refine ag_nd ?_ ?_) | (show AMid _ _ _ _; first | refine amid_f ?_ | refine amid_g (by first | exact OSub.refl _ | exact .drop (OSub.refl _) | exact .drop (.drop (OSub.refl _))) ?_) | refine gY pk ?_ | (show AL _ _ _ _ _ _ _; first | refine jP s1 ?_ | refine jL tok (fun ub => ?_) | refine jS tok 0 ?_) | fail)
    all_goals exact ⟨rfl, _, .sub (by exact subQ) (OSub.refl _)⟩
  obtain ⟨rfl, ub, h⟩ := h
  refine a_goto h ?_
  clear h
  repeat (first | refine gA pk ?_)
  rw [lps]
  refine a_loopG2 (fun (i : Nat) (vp : Value) => [(1, .ip [grsA ps, ints gn, edsA ge, AB inj, mssA ms]), (2, .pt U2 0 0 0), (3, .pt ub 0 0 0), (18, grsA ps), (19, AI ps.length), (20, AI i)]) (fun i vp => [(ub, OB.box [.lit vp, ints gn, edsA ge, AB inj, nilS]), (vp, OB.row 30 2 ((ps.take i).map cGr)), (U2, OB.box [nilS, nilS, nilS, AB false, nilS])]) (fun i _ => i ≤ ps.length) (fun i _ => ps.length - i) 0 (.slice none 0 0) (Nat.zero_le _) (.sub (by exact subQ) (.keep (.free (OSub.refl _)))) ?_
  intro i vp hi
  rcases Nat.lt_or_ge i ps.length with h | h
  · have h1 := List.getElem?_eq_getElem h
    have hpo := hp _ (List.getElem_mem h)
    generalize ps[i] = p at h1 hpo
    have s2 := gCopied_spec p hpo.1 hpo.2
    have hset : (ps.take (i + 1)).map cGr = (ps.take i).map cGr ++ [cGr p] := by rw [List.take_add_one, h1]; simp
    have lP : ((ps.take i).map cGr).length = i := by rw [List.length_map, List.length_take]; omega
    have xk0 : (ps.map cGr)[(i : Int).toNat]? = some (cGr p) := map_get (f := cGr) h1
    obtain ⟨pn, pe⟩ := p
    have xk : (ps.map cGr)[(i : Int).toNat]? = some [ints pn, edsA pe] := xk0
    change Pure _ _ [.agg [ints pn, edsA pe]] (.agg [ints pn, edsA pe]) at s2
    change _ = _ ++ [[ints pn, edsA pe]] at hset
    repeat (first | refine gN pk ?_ | (show AL _ _ _ _ _ _ _; first | refine jX tok xk ?_ | refine jL tok (fun up => ?_) | refine jS tok 0 ?_))
    refine a_regG ((List.range 8).map fun i => if inL [3, 4, 5, 7] i = true then .eff else if inL [1, 2] i = true then .read else .pure) [3, 4] [0, 1, 2] (.nd 3 [] (.nd 4 [5, 6, 7] .stop .stop) .stop) mixed rfl rfl (by decide +kernel) ?_
    repeat' (first | (with_reducible show AG _ _ _ _ _ _ _ _ _ _; first | exact ag_none | refine ag_stop ?_ | refine ag_nd ?_ ?_) | (show AMid _ _ _ _; first | refine amid_f ?_ | refine amid_g (by first | exact OSub.refl _ | exact .drop (OSub.refl _) | exact .drop (.drop (OSub.refl _))) ?_) | refine gY pk ?_ | (show AL _ _ _ _ _ _ _; first | refine jO tok 0 ?_ | refine jO tok 1 ?_ | refine jP s2 ?_ | refine s_build1A tok rfl rfl rfl rfl rfl rfl rfl rfl (by decide) (fun lv => ?_) | refine s_append1K tok 2 rfl rfl rfl rfl rfl rfl (by decide) rfl rfl rfl rfl (by omega) (by omega) (fun w hw => ?_) | refine s_storeB tok 1 rfl rfl rfl rfl rfl rfl rfl hw rfl (Nat.le_of_ble_eq_true rfl) rfl ?_) | fail)
    all_goals
      repeat (first | refine gA pk ?_)
      exact ⟨i + 1, w, by omega, by omega, .sub (by exact subQ) (by rw [hset]; exact .drop (OSub.refl _))⟩
  obtain rfl : i = ps.length := by omega
  rw [List.take_length]
  repeat (first | refine gA pk ?_)
  rw [lms]
  refine a_loopG2 (fun (i : Nat) (vq : Value) => [(2, .pt U2 0 0 0), (3, .pt ub 0 0 0), (33, mssA ms), (34, AI ms.length), (35, AI i)]) (fun i vq => [(ub, OB.box [.lit vp, ints gn, edsA ge, AB inj, .lit vq]), (vp, OB.row 30 2 (ps.map cGr)), (vq, OB.row 70 1 ((ms.take i).map cMos)), (U2, OB.box [nilS, nilS, nilS, AB false, nilS])]) (fun i _ => i ≤ ms.length) (fun i _ => ms.length - i) 0 (.slice none 0 0) (Nat.zero_le _) (.sub (by exact subQ) (.keep (.keep (.free (OSub.refl _))))) ?_
  intro i vq hi
  rcases Nat.lt_or_ge i ms.length with h | h
  · have h1 := List.getElem?_eq_getElem h
    obtain ⟨hl, hmo⟩ := hm _ (List.getElem_mem h)
    generalize ms[i] = l at h1 hl hmo
    have hset : (ms.take (i + 1)).map cMos = (ms.take i).map cMos ++ [[mosA l]] := by rw [List.take_add_one, h1]; simp
    have lP : ((ms.take i).map cMos).length = i := by rw [List.length_map, List.length_take]; omega
    have xk : (ms.map cMos)[(i : Int).toNat]? = some [mosA l] := map_get (f := cMos) h1
    have ll : (l.map cMo).length = l.length := by simp
    repeat (first | refine gA pk ?_ | (show AL _ _ _ _ _ _ _; first | refine jX tok xk ?_))
    rw [ll]
    refine a_loopG2 (fun (k : Nat) (vm : Value) => [(2, .pt U2 0 0 0), (3, .pt ub 0 0 0), (8, .lit vm), (33, mssA ms), (34, AI ms.length), (35, AI i), (39, mosA l), (40, AI l.length), (41, AI k)]) (fun k vm => [(vm, OB.row 95 2 ((l.take k).map cMo)), (ub, OB.box [.lit vp, ints gn, edsA ge, AB inj, .lit vq]), (vp, OB.row 30 2 (ps.map cGr)), (vq, OB.row 70 1 ((ms.take i).map cMos)), (U2, OB.box [nilS, nilS, nilS, AB false, nilS])]) (fun k _ => k ≤ l.length) (fun k _ => l.length - k) 0 (.slice none 0 0) (Nat.zero_le _) (.sub (by exact subQ) (.free (OSub.refl _))) ?_
    intro k vm hk
    rcases Nat.lt_or_ge k l.length with hkl | hkl
    · have h2 := List.getElem?_eq_getElem hkl
      have hb := hmo _ (List.getElem_mem hkl)
      generalize l[k] = m at h2 hb
      have hset2 : (l.take (k + 1)).map cMo = (l.take k).map cMo ++ [cMo m] := by rw [List.take_add_one, h2]; simp
      have lM : ((l.take k).map cMo).length = k := by rw [List.length_map, List.length_take]; omega
      have yk0 : (l.map cMo)[(k : Int).toNat]? = some (cMo m) := map_get (f := cMo) h2
      obtain ⟨m1, m2⟩ := m
      simp only at hb
      have yk : (l.map cMo)[(k : Int).toNat]? = some [ints m1, ints m2] := yk0
      change _ = _ ++ [[ints m1, ints m2]] at hset2
      have l1 : (rowI m1).length = m1.length := by simp
      have l2 : (rowI m2).length = m2.length := by simp
      repeat (first | refine gN pk ?_ | (show AL _ _ _ _ _ _ _; first | refine jX tok yk ?_ | refine jL tok (fun um => ?_) | refine jS tok 0 ?_))
      refine a_frzBox 0 10 rfl rfl ?_
      refine AWp.mono (Q := fun e st L => e = .normal ∧ ∃ w : Value, GoTo 66 st L (lk [(2, .pt U2 0 0 0), (3, .pt ub 0 0 0), (8, .lit w), (33, mssA ms), (34, AI ms.length), (35, AI i), (39, mosA l), (40, AI l.length), (41, AI k)]) [(w, OB.row 95 2 ((l.take k).map cMo ++ [[ints m1, ints m2]])), (ub, OB.box [.lit vp, ints gn, edsA ge, AB inj, .lit vq]), (vp, OB.row 30 2 (ps.map cGr)), (vq, OB.row 70 1 ((ms.take i).map cMos)), (U2, OB.box [nilS, nilS, nilS, AB false, nilS])]) ?_ (fun e st L h => ?_)
      · refine a_regXP [0, 2, 3, 6, 7] (.nd [1] (.nd [4, 5, 8, 9, 10, 11, 12] .stop (.nd [5, 4, 8, 9, 10, 11, 12] .stop .stop)) (.nd [5, 1, 4, 8, 9, 10, 11, 12] .stop .stop)) mixed rfl rfl (by decide +kernel) ?_
        repeat' (first | (with_reducible show AX _ _ _ _ _ _ _ _ _; first | exact ax_none | refine ax_stop ?_ | refine ax_nd ?_ ?_) | refine gY pk ?_ | (show AL _ _ _ _ _ _ _; first | refine s_build tok (parts := []) rfl rfl rfl rfl rfl rfl rfl rfl (by decide) (by decide) (fun v => ?_) | refine s_appendImF tok 0 rfl rfl rfl rfl rfl rfl (by decide) rfl rfl rfl rfl (rowI_cell _) (by simp only [l1, l2, List.length_nil]; omega) (by simp only [l1, l2, List.length_nil]; omega) ?_ | refine s_appendImF tok 1 rfl rfl rfl rfl rfl rfl (by decide) rfl rfl rfl rfl (rowI_cell _) (by simp only [l1, l2, List.length_nil]; omega) (by simp only [l1, l2, List.length_nil]; omega) ?_ | refine s_build1A tok rfl rfl rfl rfl rfl rfl rfl rfl (by decide) (fun lv => ?_) | refine s_append1K tok 0 rfl rfl rfl rfl rfl rfl (by decide) rfl rfl rfl rfl (by omega) (by omega) (fun w hw => ?_)) | fail)
        all_goals exact ⟨rfl, _, .sub (by exact subQ) (OSub.refl _)⟩
      · obtain ⟨rfl, w, h⟩ := h
        refine a_goto h ?_
        repeat (first | refine gA pk ?_)
        exact ⟨k + 1, w, by omega, by omega, .sub (by exact subQ) (by rw [hset2]; exact OSub.refl _)⟩
    · obtain rfl : k = l.length := by omega
      rw [List.take_length]
      refine a_frz 0 8 rfl rfl ?_
      repeat (first | refine gA pk ?_ | (show AL _ _ _ _ _ _ _; first | refine jO tok 0 ?_ | refine s_build1M tok rfl rfl rfl rfl rfl rfl rfl (fun lv => ?_) | refine s_append1K tok 2 rfl rfl rfl rfl rfl rfl (by decide) rfl rfl rfl rfl (by omega) (by omega) (fun w hw => ?_) | refine s_storeB tok 0 rfl rfl rfl rfl rfl rfl rfl hw rfl (Nat.le_of_ble_eq_true rfl) rfl ?_))
      exact ⟨i + 1, w, by omega, by omega, .sub (by exact subQ) (by rw [hset]; exact OSub.refl _)⟩
  obtain rfl : i = ms.length := by omega
  rw [List.take_length]
  have hr2 : ∀ x ∈ ps.map cGr, x.length = 2 := fun x hx => by
    obtain ⟨y, _, rfl⟩ := List.mem_map.1 hx
    rfl
  have hr1 : ∀ x ∈ ms.map cMos, x.length = 1 := fun x hx => by
    obtain ⟨y, _, rfl⟩ := List.mem_map.1 hx
    rfl
  refine a_goto (GoTo.freeze 1 rfl (FZS.refl _) [(ub, OB.box [grsA ps, ints gn, edsA ge, AB inj, .lit vq]), (vq, OB.row 70 1 (ms.map cMos)), (U2, OB.box [nilS, nilS, nilS, AB false, nilS])] (fzo_box ⟨FZ.here, FZ.refl _, FZ.refl _, FZ.refl _, FZ.refl _, trivial⟩ (fzo_row hr1 (fzo_box (FZL.refl _) trivial)))) ?_
  refine a_goto (GoTo.freeze 1 rfl (FZS.refl _) [(ub, OB.box [grsA ps, ints gn, edsA ge, AB inj, mssA ms]), (U2, OB.box [nilS, nilS, nilS, AB false, nilS])] (fzo_box ⟨FZ.refl _, FZ.refl _, FZ.refl _, FZ.refl _, FZ.here, trivial⟩ (fzo_box (FZL.refl _) trivial))) ?_
  refine a_frzBox 0 3 rfl rfl ?_
  repeat (first | refine gV pk ?_ | (show AL _ _ _ _ _ _ _; first | refine jS tok 0 ?_))
  refine a_frzBox 0 2 rfl rfl ?_
  refine a_ret ?_
  exact ⟨.inr rfl, _, _, _, _, rfl, rfl, Turn.of (Sub.of_eq rfl) (OSub.none _), rfl, rfl⟩
theorem gSD_spec (D : List Del) (hl : D.length ≤ 1000000) (hb : ∀ d ∈ D, (d.1.length ≤ 1000000 ∧ ∀ m ∈ d.1, MoB m) ∧ d.2.length ≤ 1000000 ∧ ∀ m ∈ d.2, MoB m) : Pure Tryz.prog 21 [.im 2 (D.map cDel), .im 2 (D.map cDel)] (AB true) := by
  have lD : (D.map cDel).length = D.length := by simp
  refine a_enter Tryz.func21 (by kernel_rfl) rfl Tryz.ntmps21 rfl (by simp) ?_
  repeat (first | refine gA pk ?_)
  refine a_loopX (fun i : Nat => [(0, .im 2 (D.map cDel)), (1, .im 2 (D.map cDel)), (5, AI i)]) (fun _ => []) (fun i => i ≤ D.length) (fun i => D.length - i) 0 (Nat.zero_le _) ?_ (OSub.none _) ?_
  · exact subQ
  intro i hi
  rcases Nat.lt_or_ge i D.length with h | h
  · have h1 := List.getElem?_eq_getElem h
    obtain ⟨⟨b1, b2⟩, b3, b4⟩ := hb _ (List.getElem_mem h)
    generalize D[i] = d at h1 b1 b2 b3 b4
    have s1 := gSameAll_spec d.1 d.1 b2 b2 b1 b1
    have s2 := gSameAll_spec d.2 d.2 b4 b4 b3 b3
    rw [decide_eq_true rfl] at s1 s2
    have xk0 : (D.map cDel)[(i : Int).toNat]? = some (cDel d) := map_get (f := cDel) h1
    obtain ⟨d1, d2⟩ := d
    have xk : (D.map cDel)[(i : Int).toNat]? = some [mosA d1, mosA d2] := xk0
    repeat (first | refine gN pk ?_)
    refine a_regG ((List.range 26).map fun i => if inL [10, 23] i = true then .eff else if inL [2, 4, 7, 9, 15, 17, 20, 22] i = true then .read else .pure) [] [0, 1, 2, 3, 4, 5, 6, 7, 8, 9, 10, 11, 12, 13, 14, 15, 16, 17, 18, 19, 20, 21, 22, 23, 24, 25] .stop mixed rfl rfl (by decide +kernel) ?_
    repeat' (first | (with_reducible show AG _ _ _ _ _ _ _ _ _ _; first | exact ag_none | refine ag_stop ?_ | refine ag_nd ?_ ?_) | (show AMid _ _ _ _; first | refine amid_f ?_ | refine amid_g (by first | exact OSub.refl _ | exact .drop (OSub.refl _) | exact .drop (.drop (OSub.refl _))) ?_) | refine gY pk ?_ | (show AL _ _ _ _ _ _ _; first | refine jX tok xk ?_ | refine jP s1 ?_ | refine jP s2 ?_) | fail)
    repeat (first | refine gA pk ?_)
    exact ⟨i + 1, by omega, by omega, by exact subQ, OSub.none _⟩
  · repeat (first | refine gA pk ?_)
    refine finQ ?_
    exact ⟨rfl, rfl⟩
theorem watOk_of {t : Tys} {w : Wat} (hw : OkW w) (hf : FewW t w) : WatOk w := ⟨hw.ps, hw.pl, hw.g, fun l hl => by
  obtain ⟨h1, h2⟩ := hf.ms l hl
  exact ⟨by omega, fun m hm => by
    have := h2 m hm
    exact ⟨by omega, by omega⟩⟩, by have := hf.ml; omega⟩
theorem same_zero : Pure Tryz.prog 14 [watA zeroW, watA zeroW] (AB true) := gSameW_spec _ (fun l h => by cases h) (Nat.zero_le _) (fun p h => by cases h) (Nat.zero_le _) ⟨Nat.zero_le _, Nat.zero_le _⟩
theorem applyR_cmp {t : Tys} (ht : Small t) {w : Wat} (hw : WatOk w) (e : Edt) : Pure Tryz.prog 14 [watA (applyR t w e).1, watA (applyR t w e).1] (AB true) ∧ Pure Tryz.prog 21 [.im 2 ((applyR t w e).2.1.map cDel), .im 2 ((applyR t w e).2.1.map cDel)] (AB true) := by
  have hz : Pure Tryz.prog 21 [.im 2 (([] : List Del).map cDel), .im 2 (([] : List Del).map cDel)] (AB true) := gSD_spec [] (Nat.zero_le _) (fun d h => by cases h)
  rw [applyR_eq]
  by_cases hv : wvalE t w = 0
  rotate_left
  · rw [if_pos hv]
    exact ⟨same_zero, hz⟩
  rw [if_neg (Decidable.not_not.2 hv)]
  unfold applyB
  by_cases he : edtE t w.g e = 0
  rotate_left
  · rw [if_pos he]
    exact ⟨same_zero, hz⟩
  rw [if_neg (Decidable.not_not.2 he)]
  have hE := edOk ht hv he
  by_cases hM : matsE t w.ps (ediG w.g e) w.inj = 0
  rotate_left
  · rw [if_pos hM]
    exact ⟨same_zero, hz⟩
  rw [if_neg (Decidable.not_not.2 hM)]
  have hgv' : GV (ediG w.g e) := (validS_zero hE.hv0).2.2.1
  have hN := gSameN_spec t w.ps (ediG w.g e) w.inj hw.ps hw.pl (gv_small hgv').1
  unfold newR at hN
  rw [if_neg (Decidable.not_not.2 hM)] at hN
  have hall := allR_facts hM
  have h5 := hE.hl
  refine ⟨hN, gSD_spec _ (by rw [List.length_map]; omega) (fun d hd => ?_)⟩
  obtain ⟨p, hp, rfl⟩ := List.mem_map.1 hd
  obtain ⟨m1, m2, m3⟩ := hall p hp
  obtain ⟨v1, v2, v3⟩ := hE.hv p hp
  have key : ∀ (g : Gr) (q : Mo → Bool), (matL (seaA t p g w.inj)).length ≤ 5000 → ((matL (seaA t p g w.inj)).filter q).length ≤ 1000000 ∧ ∀ m ∈ (matL (seaA t p g w.inj)).filter q, MoB m := fun g q h => ⟨by
    have := List.length_filter_le q (matL (seaA t p g w.inj))
    omega, fun m hm => mat_mob m1 (List.mem_filter.1 hm).1⟩
  have hnil : ([] : List Mo).length ≤ 1000000 ∧ ∀ m ∈ ([] : List Mo), MoB m := ⟨Nat.zero_le _, fun m h => by cases h⟩
  unfold delR
  split
  · exact ⟨key _ _ m3, hnil⟩
  · split
    · exact ⟨key _ _ m3, hnil⟩
    · split
      · exact ⟨hnil, key _ _ v3⟩
      · exact ⟨hnil, key _ _ v3⟩
abbrev wtdA (t : Tys) (w : Wat) : AV := .agg [nodsA t.nodes, edgsA t.edges, grsA w.ps, ints w.g.nodes, edsA w.g.edges, AB w.inj, mssA w.ms]
theorem IncrementalApply_spec (t : Tys) (ht : OkT t) (w : Wat) (hw : OkW w) (e : Edt) : Pure Tryz.prog 4 [wtdA t w, .agg (cEt e)] (AB true) := by
  have sa := awakeI_spec
  have sf := few20_spec t ht w hw
  have key : FewW t w → (Pure Tryz.prog 18 [watA w] (watA w)) ∧ (Pure Tryz.prog 17 [tysA t, watA w, .agg (cEt e)] (.tup [watA (applyR t w e).1, .im 2 ((applyR t w e).2.1.map cDel), AI (applyR t w e).2.2])) ∧ (Pure Tryz.prog 19 [tysA t, watA w, .agg (cEt e)] (.tup [watA (applyR t w e).1, .im 2 ((applyR t w e).2.1.map cDel), AI (applyR t w e).2.2])) ∧ (Pure Tryz.prog 15 [tysA t, watA w] (AI (wvalE t w))) ∧ (Pure Tryz.prog 20 [tysA t, watA w] (AI (wvalE t w))) ∧ (Pure Tryz.prog 14 [watA (applyR t w e).1, watA (applyR t w e).1] (AB true) ∧ Pure Tryz.prog 21 [.im 2 ((applyR t w e).2.1.map cDel), .im 2 ((applyR t w e).2.1.map cDel)] (AB true)) := fun hf => by
    have hk := watOk_of hw hf
    have q1 := hf.pl
    have q2 := hf.ml
    have q3 := hf.gn
    have q4 := hf.ge
    exact ⟨copiedW_spec w (by omega) (fun p hp => by have := hf.ps p hp; omega) ⟨by omega, by omega⟩ (by omega) (fun l hl => by
      obtain ⟨h1, h2⟩ := hf.ms l hl
      exact ⟨by omega, fun m hm => by have := h2 m hm; omega⟩), iApplyF_spec t hf.sm w hk e, gApplyF_spec t hf.sm w hk e, ivalid_spec t hf.sm w hk, gvalidW_spec t hf.sm w hk, applyR_cmp hf.sm hk e⟩
  generalize applyR t w e = r at *
  generalize wvalE t w = v at *
  obtain ⟨⟨rp, ⟨rn, re⟩, ri, rm⟩, rd, rc⟩ := r
  obtain ⟨wp, ⟨wn, we⟩, wi, wm⟩ := w
  obtain ⟨tn, te⟩ := t
  obtain ⟨k, i, ty, fr, to⟩ := e
  change Pure _ _ [.agg [nodsA tn, edgsA te, grsA wp, ints wn, edsA we, AB wi, mssA wm], .agg [AI k, AI i, AI ty, AI fr, AI to]] _
  change Go.Sj.ACalls _ _ [.agg [nodsA tn, edgsA te], .agg [grsA wp, ints wn, edsA we, AB wi, mssA wm]] _ _ at sf
  refine a_enter Tryz.func4 (by kernel_rfl) rfl Tryz.ntmps4 rfl (by simp) ?_
  refine a_seq ?_
  refine a_reg ?_
  repeat (first | refine gZ pk ?_ | (show AL _ _ _ _ _ _ _; first | refine jB (fun u => ?_)))
  refine a_frzBox 1 2 rfl rfl ?_
  refine a_frzBox 0 3 rfl rfl ?_
  repeat (first | refine gA pk ?_ | (show AL _ _ _ _ _ _ _; first | refine jP sa ?_ | refine s_call (Lc := []) (Lr := []) rfl rfl rfl rfl rfl sf (SubL.of_eq rfl) (List.Perm.refl _) ?_; rintro _ _ ⟨⟨b1, rfl, hb1⟩, rfl⟩))
  cases b1 with
  | false =>
    repeat (first | refine gA pk ?_ | (show AL _ _ _ _ _ _ _; first | refine jP sa ?_))
    refine finQ ?_
    exact ⟨rfl, rfl⟩
  | true =>
    obtain ⟨sc, si, sg, sv, sw, ss, sd⟩ := key (hb1 rfl)
    change Pure _ _ [.agg [grsA wp, ints wn, edsA we, AB wi, mssA wm]] (.agg [grsA wp, ints wn, edsA we, AB wi, mssA wm]) at sc
    change Pure _ _ [.agg [nodsA tn, edgsA te], .agg [grsA wp, ints wn, edsA we, AB wi, mssA wm], .agg [AI k, AI i, AI ty, AI fr, AI to]] (.tup [.agg [grsA rp, ints rn, edsA re, AB ri, mssA rm], .im 2 (rd.map cDel), AI rc]) at si sg
    change Pure _ _ [.agg [nodsA tn, edgsA te], .agg [grsA wp, ints wn, edsA we, AB wi, mssA wm]] _ at sv sw
    change Pure _ _ [.agg [grsA rp, ints rn, edsA re, AB ri, mssA rm], .agg [grsA rp, ints rn, edsA re, AB ri, mssA rm]] _ at ss
    repeat (first | refine gN pk ?_)
    refine a_regG ((List.range 15).map fun i => if inL [4, 6, 11, 12] i = true then .eff else if inL [1, 3, 5] i = true then .read else .pure) [4, 11] [0, 1, 2, 3, 5] (.nd 4 [] (.nd 6 [7, 8, 9, 10] (.nd 11 [12, 13, 14] .stop .stop) (.nd 11 [6, 7, 8, 9, 10, 12, 13, 14] .stop .stop)) (.nd 11 [] (.nd 4 [6, 7, 8, 9, 10, 12, 13, 14] .stop .stop) .stop)) mixed rfl rfl (by decide +kernel) ?_
    repeat' (first | (with_reducible show AG _ _ _ _ _ _ _ _ _ _; first | exact ag_none | refine ag_stop ?_ | refine ag_nd ?_ ?_) | (show AMid _ _ _ _; first | refine amid_f ?_ | refine amid_g (by first | exact OSub.refl _ | exact .drop (OSub.refl _) | exact .drop (.drop (OSub.refl _))) ?_) | refine gY pk ?_ | (show AL _ _ _ _ _ _ _; first | refine jP sc ?_ | refine jP si ?_ | refine jL tok (fun ux => ?_) | refine jS tok 0 ?_) | fail)
    all_goals
      repeat (first | refine gN pk ?_ | (show AL _ _ _ _ _ _ _; first | refine jP sg ?_ | refine jL tok (fun uy => ?_) | refine jS tok 0 ?_))
      refine a_frzBox 1 5 rfl rfl ?_
      refine a_frzBox 0 8 rfl rfl ?_
      refine a_regG ((List.range 28).map fun i => if inL [4, 5, 10, 20, 25] i = true then .eff else if inL [1, 3, 7, 9, 18, 19] i = true then .read else .pure) [4, 5] [0, 1, 2, 3, 6, 7, 8, 9] (.nd 4 [] (.nd 5 [10, 11, 12, 13, 14, 15, 16, 17, 18, 19, 20, 21, 22, 23, 24, 25, 26, 27] .stop .stop) .stop) mixed rfl rfl (by decide +kernel) ?_
      repeat' (first | (with_reducible show AG _ _ _ _ _ _ _ _ _ _; first | exact ag_none | refine ag_stop ?_ | refine ag_nd ?_ ?_) | (show AMid _ _ _ _; first | refine amid_f ?_ | refine amid_g (by first | exact OSub.refl _ | exact .drop (OSub.refl _) | exact .drop (.drop (OSub.refl _))) ?_) | refine gY pk ?_ | (show AL _ _ _ _ _ _ _; first | refine jP sc ?_ | refine jP sv ?_ | refine jP sw ?_ | refine jP ss ?_ | refine jP sd ?_) | fail)
    all_goals
      repeat (first | refine gA pk ?_)
      refine finQ ?_
      exact ⟨rfl, rfl⟩
end Go.Proofs.YtddohheabpiljaaGreat
end
section
namespace Go.Proofs.YtddohheabpiljaaGreat
open Go.Sj Go.Sj.Typ Go.Sj.Sta Go.Sj.Inc
set_option maxRecDepth 8000
set_option maxHeartbeats 16000000
abbrev RMo := List Int × List Int × Unit
def toMo (x : RMo) : Mo := (x.1, x.2.1)
def gRMo (x : RMo) : List AV := [.im 1 (x.1.map fun n => [.lit (.int .i64 n)])] ++ ([.im 1 (x.2.1.map fun n => [.lit (.int .i64 n)])] ++ [])
theorem gRMo_eq : gRMo = fun x => cMo (toMo x) := rfl
def gRMs (l : List RMo) : List AV := [.im 2 (l.map gRMo)]
theorem gRMs_eq : gRMs = fun l => cMos (l.map toMo) := by
  funext l
  unfold gRMs
  rw [gRMo_eq]
  show [AV.im 2 (l.map fun x => cMo (toMo x))] = [AV.im 2 ((l.map toMo).map cMo)]
  rw [List.map_map]
  rfl
abbrev RWat := List RGr × RGr × Bool × List (List RMo) × Unit
def toWat (x : RWat) : Wat := ⟨x.1.map toGr, toGr x.2.1, x.2.2.1, x.2.2.2.1.map fun l => l.map toMo⟩
def gWat (x : RWat) : List AV := [.im 2 (x.1.map gGr)] ++ (gGr x.2.1 ++ ([.lit (.bool x.2.2.1)] ++ ([.im 1 (x.2.2.2.1.map gRMs)] ++ [])))
abbrev RWtd := RTys × RWat × Unit
def gWtd (x : RWtd) : List AV := gTys x.1 ++ (gWat x.2.1 ++ [])
theorem wtd_vr {σ : Hp} {v : Value} {x : RWtd} (h : VR σ (.agg (gWtd x)) v) : VR σ (wtdA (toTys x.1) (toWat x.2.1)) v := by
  unfold gWtd gWat at h
  rw [gTys_eq, gGr_eq, gGrs_eq, gRMs_eq] at h
  have e : (x.2.1.2.2.2.1.map fun l => cMos (l.map toMo)) = (toWat x.2.1).ms.map cMos := by
    unfold toWat
    simp only [List.map_map]
    rfl
  rw [e] at h
  exact h
theorem wat_ok {x : RWat} {P : RGr → Prop} {G B R : Prop} {M : RMo → Prop} (h : ((∀ m ∈ x.1, P m) ∧ x.1.length ≤ reachBytes) ∧ G ∧ B ∧ ((∀ l ∈ x.2.2.2.1, (∀ m ∈ l, M m) ∧ l.length ≤ reachBytes) ∧ x.2.2.2.1.length ≤ reachBytes) ∧ R)
    (hP : ∀ m, P m → OkG (toGr m)) (hG : G → OkG (toGr x.2.1)) (hM : ∀ m, M m → m.1.length ≤ reachBytes ∧ m.2.1.length ≤ reachBytes) : OkW (toWat x) := by
  obtain ⟨⟨h1, h2⟩, h3, h4, ⟨h5, h6⟩, h7⟩ := h
  have hr : reachBytes ≤ 140737488355328 := by unfold reachBytes; omega
  refine ⟨fun p hp => ?_, ?_, hG h3, ?_, fun l hl => ?_⟩
  · obtain ⟨m, hm, rfl⟩ := List.mem_map.1 hp
    exact hP m (h1 m hm)
  · show (x.1.map toGr).length ≤ _
    rw [List.length_map]
    omega
  · show (x.2.2.2.1.map fun l => l.map toMo).length ≤ _
    rw [List.length_map]
    omega
  · obtain ⟨l', hl', rfl⟩ := List.mem_map.1 hl
    obtain ⟨k1, k2⟩ := h5 l' hl'
    refine ⟨by rw [List.length_map]; omega, fun m hm => ?_⟩
    obtain ⟨m', hm', rfl⟩ := List.mem_map.1 hm
    have := hM m' (k1 m' hm')
    show m'.1.length ≤ _ ∧ m'.2.1.length ≤ _
    omega
end Go.Proofs.YtddohheabpiljaaGreat
end
