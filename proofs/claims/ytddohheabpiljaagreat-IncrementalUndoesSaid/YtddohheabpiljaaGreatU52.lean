/- Parts of a proof. -/
import Derived.Test.YtddohheabpiljaaGreatU47
set_option linter.unusedVariables false
set_option linter.unusedSimpArgs false
section
namespace Go.Proofs.YtddohheabpiljaaGreat
open Go.Sj Go.Sj.Typ Go.Sj.Sta Go.Sj.Inc
set_option maxRecDepth 8000
set_option maxHeartbeats 16000000
def AppO (w : Wat) (D : List (List AV)) : AV → Own → Prop := fun y L => ∃ lv : Value, y = .tup [watA w, .lit lv, AI 0] ∧ L = [(lv, OB.row 72 2 D)]
theorem iapplyAO_spec (t : Tys) (ht : Small t) (w : Wat) (k i ty fr to : Int) (edge : Bool) (hk : (k = 1 ∧ edge = false) ∨ (k = 2 ∧ edge = true)) (g' : Gr) (Ns Rs : List (List Mo))
    (hps : w.ps.length ≤ 5) (hpl : ∀ p ∈ w.ps, p.nodes.length ≤ 1000 ∧ p.edges.length ≤ 1000) (hms : w.ms.length = w.ps.length) (hRs : Rs.length = w.ps.length) (hNs : Ns.length = w.ps.length)
    (hE : Pure Tryz.prog 54 [grA w.g, .agg [AI k, AI i, AI ty, AI fr, AI to], AI (t.nodes.map cNod).length, AI (t.edges.map cEdg).length] (AI 0))
    (hG : Pure Tryz.prog 64 [grA w.g, .agg [AI k, AI i, AI ty, AI fr, AI to]] (grA g'))
    (hj : ∀ (j : Nat) (p : Gr), w.ps[j]? = some p → AddJ t w g' edge Ns Rs j p) :
    Go.Sj.ACalls Tryz.prog 44 [tysA t, watA w, .agg [AI k, AI i, AI ty, AI fr, AI to]] [] (AppO ⟨w.ps, g', w.inj, Rs⟩ (Ns.map cDelN)) := by
  have s1 := ipatterns_spec w.ps hpl (by omega)
  obtain ⟨ps, g, inj, ms⟩ := w
  simp only at *
  obtain ⟨gn, ge⟩ := g
  obtain ⟨gn', ge'⟩ := g'
  have lps : (ps.map cGr).length = ps.length := by simp
  change Pure _ _ [.agg [ints gn, edsA ge], .agg [AI k, AI i, AI ty, AI fr, AI to], _, _] _ at hE
  change Pure _ _ [.agg [ints gn, edsA ge], .agg [AI k, AI i, AI ty, AI fr, AI to]] (.agg [ints gn', edsA ge']) at hG
  refine a_enterM (rs := [.cell 6 37, .tmp 7, .tmp 8]) tok Tryz.func44 (by kernel_rfl) rfl Tryz.ntmps44 rfl (by decide) (by simp) ?_
  refine a_seq ?_
  refine a_reg ?_
  repeat (first | refine gZ pk ?_ | (show AL _ _ _ _ _ _ _; first | refine jB (fun u => ?_) | refine jL tok (fun U6 => ?_)))
  refine zfb 3 3 rfl rfl ?_
  refine zfb 2 4 rfl rfl ?_
  refine zfb 1 5 rfl rfl ?_
  repeat (first | refine gN pk ?_ | (show AL _ _ _ _ _ _ _; first | refine jP hE ?_))
  refine AWp.mono (Q := fun e st L => e = .normal ∧ ∃ ub, GoTo 116 st L (lk [(3, tysP t), (4, .ip [grsA ps, ints gn, edsA ge, AB inj, mssA ms]), (5, .ip [AI k, AI i, AI ty, AI fr, AI to]), (6, .pt U6 0 0 0), (10, .pt ub 0 0 0)]) [(ub, OB.box [grsA ps, ints gn', edsA ge', AB inj, nilS]), (U6, OB.box [nilS, nilS, nilS, AB false, nilS])]) ?_ (fun e st L h => ?_)
  · refine zrg ((List.range 12).map fun i => if inL [2, 6, 10, 11] i = true then .eff else .pure) [] [0, 1, 3, 4, 5, 7, 8] (.nd 2 [] (.nd 6 [9, 10, 11] .stop (.nd 10 [6, 9, 11] .stop .stop)) (.nd 10 [2, 6, 9, 11] .stop .stop)) mixed rfl rfl (by decide +kernel) ?_
    repeat' (first | (with_reducible show AG _ _ _ _ _ _ _ _ _ _; first | exact zgn | refine zgs ?_ | refine znd ?_ ?_) | (show AMid _ _ _ _; first | refine zmf ?_ | refine zmg (by first | exact OSub.refl _ | exact .drop (OSub.refl _) | exact .drop (.drop (OSub.refl _))) ?_) | refine gY pk ?_ | (show AL _ _ _ _ _ _ _; first | refine jP s1 ?_ | refine jP hG ?_ | refine jL tok (fun ub => ?_) | refine jS tok 0 ?_) | fail)
    all_goals exact ⟨rfl, _, .sub (by exact subQ) (OSub.refl _)⟩
  · obtain ⟨rfl, ub, h⟩ := h
    refine zgt h ?_
    clear h
    repeat (first | refine gA pk ?_)
    rw [lps]
    refine a_loopG3 (fun (j : Nat) (vm vd : Value) => [(3, tysP t), (4, .ip [grsA ps, ints gn, edsA ge, AB inj, mssA ms]), (5, .ip [AI k, AI i, AI ty, AI fr, AI to]), (6, .pt U6 0 0 0), (10, .pt ub 0 0 0), (11, .lit vd), (43, grsA ps), (44, AI ps.length), (45, AI j)]) (fun j vm vd => [(ub, OB.box [grsA ps, ints gn', edsA ge', AB inj, .lit vm]), (vm, OB.row 70 1 ((Rs.take j).map cMos)), (vd, OB.row 72 2 ((Ns.take j).map cDelN)), (U6, OB.box [nilS, nilS, nilS, AB false, nilS])]) (fun j _ _ => j ≤ ps.length) (fun j _ _ => ps.length - j) 0 (.slice none 0 0) (.slice none 0 0) (Nat.zero_le _) (.sub (by exact subQ) (.keep (.free (.free (OSub.refl _))))) ?_
    intro j vm vd hjl
    have lR : ((Rs.take j).map cMos).length = j := by rw [List.length_map, List.length_take]; omega
    have lN : ((Ns.take j).map cDelN).length = j := by rw [List.length_map, List.length_take]; omega
    rcases Nat.lt_or_ge j ps.length with h | h
    · have hp := List.getElem?_eq_getElem h
      obtain ⟨n, m, r, e1, e2, e3, e4, e5, e6, e7, hf, hm⟩ := (hj j _ hp).ex
      generalize ps[j] = p at hp hf
      have xk : (ps.map cGr)[(j : Int).toNat]? = some (cGr p) := zmp (f := cGr) hp
      have mk : (ms.map cMos)[(j : Int).toNat]? = some [mosA m] := zmp (f := cMos) e2
      have hR : (Rs.take (j + 1)).map cMos = (Rs.take j).map cMos ++ [[mosA r]] := by rw [List.take_add_one, e3]; simp
      have hN : (Ns.take (j + 1)).map cDelN = (Ns.take j).map cDelN ++ [[mosA n, mosA []]] := by rw [List.take_add_one, e1]; simp [cDelN]
      have s2 := iown_spec r e7 e5
      have s3 := iown_spec n e6 (by omega)
      have s4 := Pure.subA (iown_spec [] (by simp) (by simp)) (args' := [nilS]) ⟨Sub.nil 2, trivial⟩
      have hm1 := hm.pure
      have ln : (n.map cMo).length = n.length := by simp
      have lm : (m.map cMo).length = m.length := by simp
      have lms : (ms.map cMos).length = ms.length := by simp
      obtain ⟨pn, pe⟩ := p
      change Pure _ _ [tysA t, .agg [ints pn, edsA pe], .agg [ints gn', edsA ge'], AB edge, AB inj] _ at hf
      rcases hk with ⟨rfl, rfl⟩ | ⟨rfl, rfl⟩
      all_goals
        repeat (first | refine gN pk ?_ | (show AL _ _ _ _ _ _ _; first | refine jX tok xk ?_ | refine jX tok mk ?_ | refine jL tok (fun up => ?_) | refine jS tok 0 ?_ | refine jO tok 1 ?_ | refine jO tok 2 ?_ | refine jP hf ?_ | refine jP hm1 ?_ | refine jS tok 0 ?_))
        refine zfb 0 14 rfl rfl ?_
        refine zrg ((List.range 19).map fun i => if inL [3, 4, 5, 9, 12, 14, 15, 17] i = true then .eff else if inL [1] i = true then .read else .pure) [3, 4] [0, 1, 2, 6, 7, 8, 10, 11] (.nd 3 [] (.nd 4 [5, 16, 9, 12, 13, 14, 15, 17, 18] .stop .stop) .stop) mixed rfl rfl (by decide +kernel) ?_
        repeat' (first | (with_reducible show AG _ _ _ _ _ _ _ _ _ _; first | exact zgn | refine zgs ?_ | refine znd ?_ ?_) | (show AMid _ _ _ _; first | refine zmf ?_ | refine zmg (by first | exact OSub.refl _ | exact .drop (OSub.refl _) | exact .drop (.drop (OSub.refl _))) ?_) | refine gY pk ?_ | (show AL _ _ _ _ _ _ _; first | refine jO tok 1 ?_ | refine jP s2 ?_ | refine jP s3 ?_ | refine jP s4 ?_ | refine s_build1M tok rfl rfl rfl rfl rfl rfl rfl (fun lv => ?_) | refine zba tok rfl rfl rfl rfl rfl rfl rfl rfl (by decide) (fun lv => ?_) | refine zak tok 2 rfl rfl rfl rfl rfl rfl (by decide) rfl rfl rfl rfl (by omega) (by omega) (fun w1 hw1 => ?_) | refine zak tok 3 rfl rfl rfl rfl rfl rfl (by decide) rfl rfl rfl rfl (by omega) (by omega) (fun w2 hw2 => ?_) | refine zsb tok 1 rfl rfl rfl rfl rfl rfl rfl hw1 rfl (Nat.le_of_ble_eq_true rfl) rfl ?_) | fail)
        repeat (first | refine gA pk ?_)
        exact ⟨j + 1, w1, w2, by omega, by omega, .sub (by exact subQ) (by rw [hR, hN]; exact .drop (OSub.refl _))⟩
    · obtain rfl : j = ps.length := by omega
      rw [← hRs, List.take_length, hRs, ← hNs, List.take_length]
      have hr1 : ∀ x ∈ Rs.map cMos, x.length = 1 := fun x hx => by
        obtain ⟨y, _, rfl⟩ := List.mem_map.1 hx
        rfl
      have hr2 : ∀ x ∈ Ns.map cDelN, x.length = 2 := fun x hx => by
        obtain ⟨y, _, rfl⟩ := List.mem_map.1 hx
        rfl
      refine zgt (GoTo.freeze 1 rfl (FZS.refl _) [(ub, OB.box [grsA ps, ints gn', edsA ge', AB inj, mssA Rs]), (vd, OB.row 72 2 (Ns.map cDelN)), (U6, OB.box [nilS, nilS, nilS, AB false, nilS])] (zfo ⟨FZ.refl _, FZ.refl _, FZ.refl _, FZ.refl _, FZ.here, trivial⟩ (zfw hr2 (zfo (FZL.refl _) trivial)))) ?_
      refine zfb 0 10 rfl rfl ?_
      rw [hNs]
      repeat (first | refine gV pk ?_ | (show AL _ _ _ _ _ _ _; first | refine jS tok 1 ?_))
      refine zfb 1 6 rfl rfl ?_
      refine a_ret ?_
      exact ⟨.inr rfl, _, _, [(vd, _)], rfl, Turn.of (Sub.refl _) (OSub.refl _), vd, rfl, rfl⟩
theorem iapplyRO_spec (t : Tys) (ht : Small t) (w : Wat) (k i ty fr to : Int) (hk : k = 3 ∨ k = 4) (g' : Gr) (Ns Rs : List (List Mo))
    (hps : w.ps.length ≤ 5) (hpl : ∀ p ∈ w.ps, p.nodes.length ≤ 1000 ∧ p.edges.length ≤ 1000) (hms : w.ms.length = w.ps.length) (hRs : Rs.length = w.ps.length) (hNs : Ns.length = w.ps.length)
    (hE : Pure Tryz.prog 54 [grA w.g, .agg [AI k, AI i, AI ty, AI fr, AI to], AI (t.nodes.map cNod).length, AI (t.edges.map cEdg).length] (AI 0))
    (hG : Pure Tryz.prog 64 [grA w.g, .agg [AI k, AI i, AI ty, AI fr, AI to]] (grA g'))
    (hj : ∀ j : Nat, j < w.ps.length → RemJ w k i ty fr to Ns Rs j) :
    Go.Sj.ACalls Tryz.prog 44 [tysA t, watA w, .agg [AI k, AI i, AI ty, AI fr, AI to]] [] (AppO ⟨w.ps, g', w.inj, Rs⟩ (Ns.map cDelG)) := by
  have s1 := ipatterns_spec w.ps hpl (by omega)
  obtain ⟨ps, g, inj, ms⟩ := w
  simp only at *
  obtain ⟨gn, ge⟩ := g
  obtain ⟨gn', ge'⟩ := g'
  have lps : (ps.map cGr).length = ps.length := by simp
  change Pure _ _ [.agg [ints gn, edsA ge], .agg [AI k, AI i, AI ty, AI fr, AI to], _, _] _ at hE
  change Pure _ _ [.agg [ints gn, edsA ge], .agg [AI k, AI i, AI ty, AI fr, AI to]] (.agg [ints gn', edsA ge']) at hG
  refine a_enterM (rs := [.cell 6 37, .tmp 7, .tmp 8]) tok Tryz.func44 (by kernel_rfl) rfl Tryz.ntmps44 rfl (by decide) (by simp) ?_
  refine a_seq ?_
  refine a_reg ?_
  repeat (first | refine gZ pk ?_ | (show AL _ _ _ _ _ _ _; first | refine jB (fun u => ?_) | refine jL tok (fun U6 => ?_)))
  refine zfb 3 3 rfl rfl ?_
  refine zfb 2 4 rfl rfl ?_
  refine zfb 1 5 rfl rfl ?_
  repeat (first | refine gN pk ?_ | (show AL _ _ _ _ _ _ _; first | refine jP hE ?_))
  refine AWp.mono (Q := fun e st L => e = .normal ∧ ∃ ub, GoTo 116 st L (lk [(3, tysP t), (4, .ip [grsA ps, ints gn, edsA ge, AB inj, mssA ms]), (5, .ip [AI k, AI i, AI ty, AI fr, AI to]), (6, .pt U6 0 0 0), (10, .pt ub 0 0 0)]) [(ub, OB.box [grsA ps, ints gn', edsA ge', AB inj, nilS]), (U6, OB.box [nilS, nilS, nilS, AB false, nilS])]) ?_ (fun e st L h => ?_)
  · refine zrg ((List.range 12).map fun i => if inL [2, 6, 10, 11] i = true then .eff else .pure) [] [0, 1, 3, 4, 5, 7, 8] (.nd 2 [] (.nd 6 [9, 10, 11] .stop (.nd 10 [6, 9, 11] .stop .stop)) (.nd 10 [2, 6, 9, 11] .stop .stop)) mixed rfl rfl (by decide +kernel) ?_
    repeat' (first | (with_reducible show AG _ _ _ _ _ _ _ _ _ _; first | exact zgn | refine zgs ?_ | refine znd ?_ ?_) | (show AMid _ _ _ _; first | refine zmf ?_ | refine zmg (by first | exact OSub.refl _ | exact .drop (OSub.refl _) | exact .drop (.drop (OSub.refl _))) ?_) | refine gY pk ?_ | (show AL _ _ _ _ _ _ _; first | refine jP s1 ?_ | refine jP hG ?_ | refine jL tok (fun ub => ?_) | refine jS tok 0 ?_) | fail)
    all_goals exact ⟨rfl, _, .sub (by exact subQ) (OSub.refl _)⟩
  · obtain ⟨rfl, ub, h⟩ := h
    refine zgt h ?_
    clear h
    repeat (first | refine gA pk ?_)
    rw [lps]
    refine a_loopG3 (fun (j : Nat) (vm vd : Value) => [(3, tysP t), (4, .ip [grsA ps, ints gn, edsA ge, AB inj, mssA ms]), (5, .ip [AI k, AI i, AI ty, AI fr, AI to]), (6, .pt U6 0 0 0), (10, .pt ub 0 0 0), (11, .lit vd), (43, grsA ps), (44, AI ps.length), (45, AI j)]) (fun j vm vd => [(ub, OB.box [grsA ps, ints gn', edsA ge', AB inj, .lit vm]), (vm, OB.row 70 1 ((Rs.take j).map cMos)), (vd, OB.row 72 2 ((Ns.take j).map cDelG)), (U6, OB.box [nilS, nilS, nilS, AB false, nilS])]) (fun j _ _ => j ≤ ps.length) (fun j _ _ => ps.length - j) 0 (.slice none 0 0) (.slice none 0 0) (Nat.zero_le _) (.sub (by exact subQ) (.keep (.free (.free (OSub.refl _))))) ?_
    intro j vm vd hjl
    have lR : ((Rs.take j).map cMos).length = j := by rw [List.length_map, List.length_take]; omega
    have lN : ((Ns.take j).map cDelG).length = j := by rw [List.length_map, List.length_take]; omega
    rcases Nat.lt_or_ge j ps.length with h | h
    · have hp := List.getElem?_eq_getElem h
      obtain ⟨m, r, n, e2, e3, e1, e5, e6, e7, e8, hf⟩ := (hj j h).ex
      generalize ps[j] = p at hp
      have xk : (ps.map cGr)[(j : Int).toNat]? = some (cGr p) := zmp (f := cGr) hp
      have mk : (ms.map cMos)[(j : Int).toNat]? = some [mosA m] := zmp (f := cMos) e2
      have hR : (Rs.take (j + 1)).map cMos = (Rs.take j).map cMos ++ [[mosA r]] := by rw [List.take_add_one, e3]; simp
      have hN : (Ns.take (j + 1)).map cDelG = (Ns.take j).map cDelG ++ [[mosA [], mosA n]] := by rw [List.take_add_one, e1]; simp [cDelG]
      have s2 := iown_spec r e7 e5
      have s4 := iown_spec n e8 (by omega)
      have s3 := Pure.subA (iown_spec [] (by simp) (by simp)) (args' := [nilS]) ⟨Sub.nil 2, trivial⟩
      have ln : (n.map cMo).length = n.length := by simp
      have lm : (m.map cMo).length = m.length := by simp
      have lms : (ms.map cMos).length = ms.length := by simp
      obtain ⟨pn, pe⟩ := p
      rcases hk with rfl | rfl
      all_goals
        repeat (first | refine gN pk ?_ | (show AL _ _ _ _ _ _ _; first | refine jX tok xk ?_ | refine jX tok mk ?_ | refine jL tok (fun up => ?_) | refine jS tok 0 ?_ | refine jP hf ?_ | refine jS tok 0 ?_))
        refine zfb 0 14 rfl rfl ?_
        refine zrg ((List.range 19).map fun i => if inL [3, 4, 5, 9, 12, 14, 15, 17] i = true then .eff else if inL [1] i = true then .read else .pure) [3, 4] [0, 1, 2, 6, 7, 8, 10, 11] (.nd 3 [] (.nd 4 [5, 16, 9, 12, 13, 14, 15, 17, 18] .stop .stop) .stop) mixed rfl rfl (by decide +kernel) ?_
        repeat' (first | (with_reducible show AG _ _ _ _ _ _ _ _ _ _; first | exact zgn | refine zgs ?_ | refine znd ?_ ?_) | (show AMid _ _ _ _; first | refine zmf ?_ | refine zmg (by first | exact OSub.refl _ | exact .drop (OSub.refl _) | exact .drop (.drop (OSub.refl _))) ?_) | refine gY pk ?_ | (show AL _ _ _ _ _ _ _; first | refine jO tok 1 ?_ | refine jP s2 ?_ | refine jP s3 ?_ | refine jP s4 ?_ | refine s_build1M tok rfl rfl rfl rfl rfl rfl rfl (fun lv => ?_) | refine zba tok rfl rfl rfl rfl rfl rfl rfl rfl (by decide) (fun lv => ?_) | refine zak tok 2 rfl rfl rfl rfl rfl rfl (by decide) rfl rfl rfl rfl (by omega) (by omega) (fun w1 hw1 => ?_) | refine zak tok 3 rfl rfl rfl rfl rfl rfl (by decide) rfl rfl rfl rfl (by omega) (by omega) (fun w2 hw2 => ?_) | refine zsb tok 1 rfl rfl rfl rfl rfl rfl rfl hw1 rfl (Nat.le_of_ble_eq_true rfl) rfl ?_) | fail)
        repeat (first | refine gA pk ?_)
        exact ⟨j + 1, w1, w2, by omega, by omega, .sub (by exact subQ) (by rw [hR, hN]; exact .drop (OSub.refl _))⟩
    · obtain rfl : j = ps.length := by omega
      rw [← hRs, List.take_length, hRs, ← hNs, List.take_length]
      have hr1 : ∀ x ∈ Rs.map cMos, x.length = 1 := fun x hx => by
        obtain ⟨y, _, rfl⟩ := List.mem_map.1 hx
        rfl
      have hr2 : ∀ x ∈ Ns.map cDelG, x.length = 2 := fun x hx => by
        obtain ⟨y, _, rfl⟩ := List.mem_map.1 hx
        rfl
      refine zgt (GoTo.freeze 1 rfl (FZS.refl _) [(ub, OB.box [grsA ps, ints gn', edsA ge', AB inj, mssA Rs]), (vd, OB.row 72 2 (Ns.map cDelG)), (U6, OB.box [nilS, nilS, nilS, AB false, nilS])] (zfo ⟨FZ.refl _, FZ.refl _, FZ.refl _, FZ.refl _, FZ.here, trivial⟩ (zfw hr2 (zfo (FZL.refl _) trivial)))) ?_
      refine zfb 0 10 rfl rfl ?_
      rw [hNs]
      repeat (first | refine gV pk ?_ | (show AL _ _ _ _ _ _ _; first | refine jS tok 1 ?_))
      refine zfb 1 6 rfl rfl ?_
      refine a_ret ?_
      exact ⟨.inr rfl, _, _, [(vd, _)], rfl, Turn.of (Sub.refl _) (OSub.refl _), vd, rfl, rfl⟩
theorem applyAddO (t : Tys) (ht : Small t) (w : Wat) (hv : wvalE t w = 0) (e : Edt) (he : edtE t w.g e = 0) (hall : ∀ p ∈ w.ps, (matL (seaA t p (ediG w.g e) w.inj)).length ≤ 5000) (edge : Bool) (hk : (e.kind = 1 ∧ edge = false) ∨ (e.kind = 2 ∧ edge = true))
    (hN : if edge = true then 1 ≤ (ediG w.g e).edges.length else 1 ≤ (ediG w.g e).nodes.length)
    (hm : ∀ p, validS t p w.g = 0 → matL (seaA t p w.g w.inj) = (matL (seaA t p (ediG w.g e) w.inj)).filter (fun x => !hasB edge (lastZ (ediG w.g e) edge) x))
    (hd : ∀ p, delR t w.g e w.inj p = (freM t p (ediG w.g e) edge w.inj, []))
    (hG : Pure Tryz.prog 64 [grA w.g, .agg [AI e.kind, AI e.idx, AI e.ty, AI e.fr, AI e.to]] (grA (ediG w.g e))) :
    Go.Sj.ACalls Tryz.prog 44 [tysA t, watA w, .agg (cEt e)] [] (AppO (applyB t w e).1 ((applyB t w e).2.1.map cDel)) := by
  have hE := edOk ht hv he
  have hgv : GV w.g := (matsE_zero (wval_zero hv).1).1
  obtain ⟨og, og1, og2⟩ := gv_small hgv
  have hed := iedit_spec w.g og (by omega) e (t.nodes.map cNod).length (t.edges.map cEdg).length
  rw [List.length_map, List.length_map] at hed
  change Pure _ _ _ (AI (edtE t w.g e)) at hed
  rw [he] at hed
  have hed2 : Pure Tryz.prog 54 [grA w.g, .agg [AI e.kind, AI e.idx, AI e.ty, AI e.fr, AI e.to], AI (t.nodes.map cNod).length, AI (t.edges.map cEdg).length] (AI 0) := by
    rw [List.length_map, List.length_map]
    exact hed
  unfold applyB
  rw [if_neg (Decidable.not_not.2 he)]
  generalize hg' : ediG w.g e = g' at *
  have hpl : ∀ p ∈ w.ps, p.nodes.length ≤ 1000 ∧ p.edges.length ≤ 1000 := fun p hp => (gv_small (zvz (hE.hv p hp).1).2.1).2
  have addJ : ∀ (j : Nat) (p : Gr), w.ps[j]? = some p → (matL (seaA t p g' w.inj)).length ≤ 5000 → AddJ t w g' edge (w.ps.map fun p => freM t p g' edge w.inj) (w.ps.map fun p => matL (seaA t p g' w.inj)) j p := fun j p hp hlen => by
    have hpm := List.mem_of_getElem? hp
    obtain ⟨v1, v2, v3⟩ := hE.hv p hpm
    have hgp := (zvz v1).2.1
    have hml := merged_len (t := t) (p := p) (g := g') (edge := edge) (inj := w.inj) (hm p v1)
    refine ⟨freM t p g' edge w.inj, matL (seaA t p w.g w.inj), matL (seaA t p g' w.inj), by rw [List.getElem?_map, hp]; rfl, hE.ms j p hp, by rw [List.getElem?_map, hp]; rfl, by omega, by omega, fun x hx => mat_mob hgp (List.mem_filter.1 hx).1, fun x hx => mat_mob hgp hx, ?_, mergedF_spec t p g' edge w.inj v2 (hm p v1) (by omega)⟩
    rcases freshF_spec t ht p g' edge w.inj v2 hN with ⟨_, h⟩ | ⟨h, _⟩
    · exact h
    · omega
  have hall2 : ∀ p ∈ w.ps, validS t p g' = 0 ∧ (matL (seaA t p g' w.inj)).length ≤ 5000 := fun p hp => ⟨(hE.hv p hp).2.1, hall p hp⟩
  rw [if_neg (Decidable.not_not.2 (matsE_ok hE.hv0 hE.hl hall2)), matsL_ok hall2]
  have h := iapplyAO_spec t ht w e.kind e.idx e.ty e.fr e.to edge hk g' (w.ps.map fun p => freM t p g' edge w.inj) (w.ps.map fun p => matL (seaA t p g' w.inj)) hE.hl hpl hE.ml (by simp) (by simp) hed2 hG (fun j p hp => addJ j p hp (hall p (List.mem_of_getElem? hp)))
  have e2 : (w.ps.map fun p => freM t p g' edge w.inj).map cDelN = (w.ps.map (delR t w.g e w.inj)).map cDel := by
    rw [List.map_map, List.map_map]
    exact List.map_congr_left fun p _ => by simp only [Function.comp, hd p]; rfl
  rw [e2] at h
  exact h
theorem applyRemO (t : Tys) (ht : Small t) (w : Wat) (hv : wvalE t w = 0) (e : Edt) (he : edtE t w.g e = 0) (edge : Bool) (hk : (e.kind = 3 ∧ edge = false) ∨ (e.kind = 4 ∧ edge = true))
    (hm : ∀ p, validS t p w.g = 0 → restL edge e.idx (matL (seaA t p w.g w.inj)) = matL (seaA t p (ediG w.g e) w.inj))
    (hd : ∀ p, delR t w.g e w.inj p = ([], (matL (seaA t p w.g w.inj)).filter (hasB edge e.idx)))
    (hG : Pure Tryz.prog 64 [grA w.g, .agg [AI e.kind, AI e.idx, AI e.ty, AI e.fr, AI e.to]] (grA (ediG w.g e))) :
    Go.Sj.ACalls Tryz.prog 44 [tysA t, watA w, .agg (cEt e)] [] (AppO (applyB t w e).1 ((applyB t w e).2.1.map cDel)) := by
  have hE := edOk ht hv he
  have hgv : GV w.g := (matsE_zero (wval_zero hv).1).1
  obtain ⟨og, og1, og2⟩ := gv_small hgv
  have hed := iedit_spec w.g og (by omega) e (t.nodes.map cNod).length (t.edges.map cEdg).length
  rw [List.length_map, List.length_map] at hed
  change Pure _ _ _ (AI (edtE t w.g e)) at hed
  rw [he] at hed
  have hed2 : Pure Tryz.prog 54 [grA w.g, .agg [AI e.kind, AI e.idx, AI e.ty, AI e.fr, AI e.to], AI (t.nodes.map cNod).length, AI (t.edges.map cEdg).length] (AI 0) := by
    rw [List.length_map, List.length_map]
    exact hed
  unfold applyB
  rw [if_neg (Decidable.not_not.2 he)]
  have hpl : ∀ p ∈ w.ps, p.nodes.length ≤ 1000 ∧ p.edges.length ≤ 1000 := fun p hp => (gv_small (zvz (hE.hv p hp).1).2.1).2
  have hlen : ∀ p ∈ w.ps, (matL (seaA t p (ediG w.g e) w.inj)).length ≤ 5000 := fun p hp => by
    obtain ⟨v1, v2, v3⟩ := hE.hv p hp
    rw [← hm p v1]
    unfold restL
    rw [List.length_map]
    exact Nat.le_trans (List.length_filter_le _ _) v3
  have hall2 : ∀ p ∈ w.ps, validS t p (ediG w.g e) = 0 ∧ (matL (seaA t p (ediG w.g e) w.inj)).length ≤ 5000 := fun p hp => ⟨(hE.hv p hp).2.1, hlen p hp⟩
  rw [if_neg (Decidable.not_not.2 (matsE_ok hE.hv0 hE.hl hall2)), matsL_ok hall2]
  have h := iapplyRO_spec t ht w e.kind e.idx e.ty e.fr e.to (by omega) (ediG w.g e) (w.ps.map fun p => (matL (seaA t p w.g w.inj)).filter (hasB edge e.idx)) (w.ps.map fun p => matL (seaA t p (ediG w.g e) w.inj)) hE.hl hpl hE.ml (by simp) (by simp) hed2 hG (fun j hj => by
    have hp := List.getElem?_eq_getElem hj
    generalize w.ps[j] = p at hp
    have hpm := List.mem_of_getElem? hp
    obtain ⟨v1, v2, v3⟩ := hE.hv p hpm
    have hgp := (zvz v1).2.1
    have hc := cut_spec (matL (seaA t p w.g w.inj)) (by omega) (fun x hx => mat_range hgp hgv hx) edge e.kind e.idx e.ty e.fr e.to hk
    rw [hm p v1] at hc
    have h5 := hlen p hpm
    have h6 := List.length_filter_le (hasB edge e.idx) (matL (seaA t p w.g w.inj))
    exact ⟨_, _, _, hE.ms j p hp, by rw [List.getElem?_map, hp]; rfl, by rw [List.getElem?_map, hp]; rfl, by omega, by omega, fun x hx => mat_mob hgp hx, fun x hx => mat_mob hgp (List.mem_filter.1 hx).1, hc⟩)
  have e2 : (w.ps.map fun p => (matL (seaA t p w.g w.inj)).filter (hasB edge e.idx)).map cDelG = (w.ps.map (delR t w.g e w.inj)).map cDel := by
    rw [List.map_map, List.map_map]
    exact List.map_congr_left fun p _ => by simp only [Function.comp, hd p]; rfl
  rw [e2] at h
  exact h
theorem iapplyO_spec (t : Tys) (ht : Small t) (w : Wat) (hv : wvalE t w = 0) (e : Edt) (he : edtE t w.g e = 0) (hall : ∀ p ∈ w.ps, (matL (seaA t p (ediG w.g e) w.inj)).length ≤ 5000) :
    Go.Sj.ACalls Tryz.prog 44 [tysA t, watA w, .agg (cEt e)] [] (AppO (applyB t w e).1 ((applyB t w e).2.1.map cDel)) := by
  have hgv : GV w.g := (matsE_zero (wval_zero hv).1).1
  obtain ⟨og, og1, og2⟩ := gv_small hgv
  rcases edit_kind he with ⟨hk, a, b⟩ | ⟨hk, a, b, c, d⟩ | ⟨hk, a, b⟩ | ⟨hk, a⟩
  · have e1 : ediG w.g e = ⟨w.g.nodes ++ [e.ty], w.g.edges⟩ := by unfold ediG; rw [if_pos hk]
    have el : lastZ (ediG w.g e) false = w.g.nodes.length := by rw [e1]; simp [lastZ]
    refine applyAddO t ht w hv e he hall false (.inl ⟨hk, rfl⟩) (by rw [e1]; simp) (fun p hp => ?_) (fun p => ?_) ?_
    · rw [el, e1]
      exact mat_restN.symm
    · unfold delR
      rw [if_pos hk]
      unfold freM
      rw [el]
      rfl
    · rw [hk, e1]
      exact ieditedN_spec w.g og1 og2 e.idx e.ty e.fr e.to
  · have e1 : ediG w.g e = ⟨w.g.nodes, w.g.edges ++ [⟨e.ty, e.fr, e.to⟩]⟩ := by unfold ediG; rw [if_neg (by omega), if_pos hk]
    have el : lastZ (ediG w.g e) true = w.g.edges.length := by rw [e1]; simp [lastZ]
    refine applyAddO t ht w hv e he hall true (.inr ⟨hk, rfl⟩) (by rw [e1]; simp) (fun p hp => ?_) (fun p => ?_) ?_
    · rw [el, e1]
      exact mat_restE.symm
    · unfold delR
      rw [if_neg (by omega), if_pos hk]
      unfold freM
      rw [el]
      rfl
    · rw [hk, e1]
      exact ieditedE_spec w.g og1 og2 e.idx e.ty e.fr e.to
  · obtain ⟨d, hd⟩ : ∃ d : Nat, e.idx = d := ⟨e.idx.toNat, by omega⟩
    have e1 : ediG w.g e = ⟨w.g.nodes.eraseIdx d, w.g.edges.map (lesE d)⟩ := by unfold ediG; rw [if_neg (by omega), if_neg (by omega), if_pos hk, hd, Int.toNat_natCast]
    refine applyRemO t ht w hv e he false (.inl ⟨hk, rfl⟩) (fun p hp => ?_) (fun p => ?_) ?_
    · rw [e1, hd]
      refine mat_cutN (zvz hp).2.1 (by omega) (fun y hy => ?_)
      have := b y hy
      rw [hd] at this
      exact this
    · unfold delR
      rw [if_neg (by omega), if_neg (by omega), if_pos hk]
      rfl
    · rw [hk, e1, hd]
      have hn := hgv.nl
      exact ieditedRN_spec w.g og1 og2 (fun x hx => by
        have := hgv.edges x hx
        omega) d (by omega) e.ty e.fr e.to
  · obtain ⟨d, hd⟩ : ∃ d : Nat, e.idx = d := ⟨e.idx.toNat, by omega⟩
    have e1 : ediG w.g e = ⟨w.g.nodes, w.g.edges.eraseIdx d⟩ := by unfold ediG; rw [if_neg (by omega), if_neg (by omega), if_neg (by omega), hd, Int.toNat_natCast]
    refine applyRemO t ht w hv e he true (.inr ⟨hk, rfl⟩) (fun p hp => ?_) (fun p => ?_) ?_
    · rw [e1, hd]
      exact mat_cutE (by omega)
    · unfold delR
      rw [if_neg (by omega), if_neg (by omega), if_neg (by omega)]
      rfl
    · rw [hk, e1, hd]
      exact ieditedRE_spec w.g og1 og2 d (by omega) e.ty e.fr e.to
theorem iApplyO_spec (t : Tys) (w : Wat) (k i ty fr to : Int) (w' : Wat) (D : List (List AV))
    (hV : Pure Tryz.prog 15 [tysA t, watA w] (AI 0))
    (hA : Go.Sj.ACalls Tryz.prog 44 [tysA t, watA w, .agg [AI k, AI i, AI ty, AI fr, AI to]] [] (AppO w' D)) :
    Go.Sj.ACalls Tryz.prog 17 [tysA t, watA w, .agg [AI k, AI i, AI ty, AI fr, AI to]] [] (AppO w' D) := by
  obtain ⟨ps, g, inj, ms⟩ := w
  obtain ⟨ps', g', inj', ms'⟩ := w'
  unfold AppO at hA
  refine a_enterM (rs := [.cell 6 37, .tmp 7, .tmp 8]) tok Tryz.func17 (by kernel_rfl) rfl Tryz.ntmps17 rfl (by decide) (by simp) ?_
  refine a_seq ?_
  refine a_reg ?_
  repeat (first | refine gZ pk ?_ | (show AL _ _ _ _ _ _ _; first | refine jB (fun u => ?_) | refine jL tok (fun U6 => ?_)))
  refine zfb 3 3 rfl rfl ?_
  refine zfb 2 4 rfl rfl ?_
  refine zfb 1 5 rfl rfl ?_
  repeat (first | refine gV pk ?_ | (show AL _ _ _ _ _ _ _; first | refine jP hV ?_ | (refine zsc (Lc := []) rfl rfl rfl rfl rfl (hA) (SubL.of_eq rfl) (List.Perm.refl _) ?_; rintro _ _ ⟨lv, rfl, rfl⟩) | refine jS tok 1 ?_))
  refine zfb 1 6 rfl rfl ?_
  refine a_ret ?_
  exact ⟨.inr rfl, _, _, [(lv, _)], rfl, Turn.of (Sub.refl _) (OSub.refl _), lv, rfl, rfl⟩
theorem iApplyFO_spec (t : Tys) (ht : Small t) (w : Wat) (hw : WatOk w) (hv : wvalE t w = 0) (e : Edt) (he : edtE t w.g e = 0) (hall : ∀ p ∈ w.ps, (matL (seaA t p (ediG w.g e) w.inj)).length ≤ 5000) :
    Go.Sj.ACalls Tryz.prog 17 [tysA t, watA w, .agg (cEt e)] [] (AppO (applyB t w e).1 ((applyB t w e).2.1.map cDel)) := by
  have hV := ivalid_spec t ht w hw
  rw [hv] at hV
  exact iApplyO_spec t w e.kind e.idx e.ty e.fr e.to _ _ hV (iapplyO_spec t ht w hv e he hall)
end Go.Proofs.YtddohheabpiljaaGreat
end
