/- Parts of a proof. -/
import Derived.Test.YtddohheabpiljaaGreatE47
set_option linter.unusedVariables false
set_option linter.unusedSimpArgs false
section
namespace Go.Proofs.YtddohheabpiljaaGreat
open Go.Sj Go.Sj.Typ Go.Sj.Sta Go.Sj.Inc
set_option maxRecDepth 8000
set_option maxHeartbeats 16000000
theorem gApplyV_spec (t : Tys) (w : Wat) (k i ty fr to c : Int) (hc : c ≠ 0)
    (hV : Pure Tryz.prog 20 [tysA t, watA w] (AI c)) :
    Pure Tryz.prog 19 [tysA t, watA w, .agg [AI k, AI i, AI ty, AI fr, AI to]] (.tup [watA zeroW, .im 2 [], AI c]) := by
  obtain ⟨ps, g, inj, ms⟩ := w
  refine a_enterM (rs := [.cell 6 37, .tmp 7, .tmp 8]) tok Tryz.func19 (by kernel_rfl) rfl Tryz.ntmps19 rfl (by decide) (by simp) ?_
  refine a_seq ?_
  refine a_reg ?_
  repeat (first | refine gZ pk ?_ | (show AL _ _ _ _ _ _ _; first | refine jB (fun u => ?_) | refine jL tok (fun U6 => ?_)))
  refine a_frzBox 3 3 rfl rfl ?_
  refine a_frzBox 2 4 rfl rfl ?_
  refine a_frzBox 1 5 rfl rfl ?_
  repeat (first | refine gV pk ?_ | (show AL _ _ _ _ _ _ _; first | refine jP hV ?_ | refine jS tok 0 ?_))
  refine a_frzBox 0 6 rfl rfl ?_
  refine a_ret ?_
  exact ⟨.inr rfl, _, _, [], rfl, Turn.of (Sub.tup (l := [.agg [nilS, nilS, nilS, AB false, nilS], nilS, AI c]) (m := [watA ⟨[], ⟨[], []⟩, false, []⟩, .im 2 [], AI c]) ⟨Sub.agg (m := [grsA [], ints [], edsA [], AB false, mssA []]) ⟨Sub.nil 2, Sub.nil 1, Sub.nil 3, Sub.refl _, Sub.nil 1, trivial⟩, Sub.nil 2, Sub.refl _, trivial⟩) (OSub.none _), rfl, rfl⟩
theorem gApplyX_spec (t : Tys) (w : Wat) (k i ty fr to c : Int) (hc : c ≠ 0)
    (hV : Pure Tryz.prog 20 [tysA t, watA w] (AI 0))
    (hE : Pure Tryz.prog 45 [grA w.g, .agg [AI k, AI i, AI ty, AI fr, AI to], AI (t.nodes.map cNod).length, AI (t.edges.map cEdg).length] (AI c)) :
    Pure Tryz.prog 19 [tysA t, watA w, .agg [AI k, AI i, AI ty, AI fr, AI to]] (.tup [watA zeroW, .im 2 [], AI c]) := by
  obtain ⟨ps, g, inj, ms⟩ := w
  obtain ⟨gn, ge⟩ := g
  change Pure _ _ [.agg [ints gn, edsA ge], .agg [AI k, AI i, AI ty, AI fr, AI to], _, _] _ at hE
  refine a_enterM (rs := [.cell 6 37, .tmp 7, .tmp 8]) tok Tryz.func19 (by kernel_rfl) rfl Tryz.ntmps19 rfl (by decide) (by simp) ?_
  refine a_seq ?_
  refine a_reg ?_
  repeat (first | refine gZ pk ?_ | (show AL _ _ _ _ _ _ _; first | refine jB (fun u => ?_) | refine jL tok (fun U6 => ?_)))
  refine a_frzBox 3 3 rfl rfl ?_
  refine a_frzBox 2 4 rfl rfl ?_
  refine a_frzBox 1 5 rfl rfl ?_
  repeat (first | refine gV pk ?_ | (show AL _ _ _ _ _ _ _; first | refine jP hV ?_ | refine jP hE ?_ | refine jS tok 0 ?_))
  refine a_frzBox 0 6 rfl rfl ?_
  refine a_ret ?_
  exact ⟨.inr rfl, _, _, [], rfl, Turn.of (Sub.tup (l := [.agg [nilS, nilS, nilS, AB false, nilS], nilS, AI c]) (m := [watA ⟨[], ⟨[], []⟩, false, []⟩, .im 2 [], AI c]) ⟨Sub.agg (m := [grsA [], ints [], edsA [], AB false, mssA []]) ⟨Sub.nil 2, Sub.nil 1, Sub.nil 3, Sub.refl _, Sub.nil 1, trivial⟩, Sub.nil 2, Sub.refl _, trivial⟩) (OSub.none _), rfl, rfl⟩
theorem gApplyN_spec (t : Tys) (w : Wat) (k i ty fr to c : Int) (g' : Gr) (hc : c ≠ 0)
    (hV : Pure Tryz.prog 20 [tysA t, watA w] (AI 0))
    (hE : Pure Tryz.prog 45 [grA w.g, .agg [AI k, AI i, AI ty, AI fr, AI to], AI (t.nodes.map cNod).length, AI (t.edges.map cEdg).length] (AI 0))
    (hG : Pure Tryz.prog 24 [grA w.g, .agg [AI k, AI i, AI ty, AI fr, AI to]] (grA g'))
    (hN : Pure Tryz.prog 13 [tysA t, grsA w.ps, grA g', AB w.inj] (.tup [watA zeroW, AI c])) :
    Pure Tryz.prog 19 [tysA t, watA w, .agg [AI k, AI i, AI ty, AI fr, AI to]] (.tup [watA zeroW, .im 2 [], AI c]) := by
  change Pure _ _ _ (.tup [.agg [grsA [], ints [], edsA [], AB false, mssA []], AI c]) at hN
  obtain ⟨ps, g, inj, ms⟩ := w
  obtain ⟨gn, ge⟩ := g
  obtain ⟨gn', ge'⟩ := g'
  simp only at *
  change Pure _ _ [.agg [ints gn, edsA ge], .agg [AI k, AI i, AI ty, AI fr, AI to], _, _] _ at hE
  change Pure _ _ [.agg [ints gn, edsA ge], .agg [AI k, AI i, AI ty, AI fr, AI to]] (.agg [ints gn', edsA ge']) at hG
  refine a_enterM (rs := [.cell 6 37, .tmp 7, .tmp 8]) tok Tryz.func19 (by kernel_rfl) rfl Tryz.ntmps19 rfl (by decide) (by simp) ?_
  refine a_seq ?_
  refine a_reg ?_
  repeat (first | refine gZ pk ?_ | (show AL _ _ _ _ _ _ _; first | refine jB (fun u => ?_) | refine jL tok (fun U6 => ?_)))
  refine a_frzBox 3 3 rfl rfl ?_
  refine a_frzBox 2 4 rfl rfl ?_
  refine a_frzBox 1 5 rfl rfl ?_
  repeat (first | refine gN pk ?_ | (show AL _ _ _ _ _ _ _; first | refine jP hV ?_ | refine jP hE ?_))
  refine AWp.mono (Q := fun e st L => e = .normal ∧ ∃ un, GoTo 119 st L (lk [(4, .ip [grsA ps, ints gn, edsA ge, AB inj, mssA ms]), (5, .ip [AI k, AI i, AI ty, AI fr, AI to]), (6, .pt U6 0 0 0), (11, .pt un 0 0 0), (12, AI c)]) [(un, OB.box [grsA [], ints [], edsA [], AB false, mssA []]), (U6, OB.box [nilS, nilS, nilS, AB false, nilS])]) ?_ (fun e st L h => ?_)
  · refine a_regG ((List.range 16).map fun i => if inL [6, 9, 13, 14] i = true then .eff else if inL [0, 2, 4, 5, 8] i = true then .read else .pure) [6, 13] [0, 1, 2, 3, 4, 5, 7, 8] (.nd 6 [] (.nd 9 [10, 11, 12] (.nd 13 [14, 15] .stop .stop) (.nd 13 [9, 10, 11, 12, 14, 15] .stop .stop)) (.nd 13 [] (.nd 6 [9, 10, 11, 12, 14, 15] .stop .stop) .stop)) mixed rfl rfl (by decide +kernel) ?_
    repeat' (first | (with_reducible show AG _ _ _ _ _ _ _ _ _ _; first | exact ag_none | refine ag_stop ?_ | refine ag_nd ?_ ?_) | (show AMid _ _ _ _; first | refine amid_f ?_ | refine amid_g (by first | exact OSub.refl _ | exact .drop (OSub.refl _) | exact .drop (.drop (OSub.refl _))) ?_) | refine gY pk ?_ | (show AL _ _ _ _ _ _ _; first | refine jP hG ?_ | refine jP hN ?_ | refine jL tok (fun un => ?_) | refine jS tok 0 ?_) | fail)
    all_goals exact ⟨rfl, _, .sub (by exact subQ) (OSub.refl _)⟩
  · obtain ⟨rfl, un, h⟩ := h
    refine a_goto h ?_
    clear h
    repeat (first | refine gV pk ?_ | (show AL _ _ _ _ _ _ _; first | refine jS tok 1 ?_))
    refine a_frzBox 1 6 rfl rfl ?_
    refine a_ret ?_
    exact ⟨.inr rfl, _, _, [], rfl, Turn.of (Sub.tup (l := [.agg [nilS, nilS, nilS, AB false, nilS], nilS, AI c]) (m := [watA ⟨[], ⟨[], []⟩, false, []⟩, .im 2 [], AI c]) ⟨Sub.agg (m := [grsA [], ints [], edsA [], AB false, mssA []]) ⟨Sub.nil 2, Sub.nil 1, Sub.nil 3, Sub.refl _, Sub.nil 1, trivial⟩, Sub.nil 2, Sub.refl _, trivial⟩) (OSub.none _), rfl, rfl⟩
theorem gApply1_spec (t : Tys) (w : Wat) (i ty fr to : Int) (g' : Gr) (ms' F : List (List Mo)) (hps : w.ps.length ≤ 5) (hgl : g'.nodes.length ≤ 1000000 ∧ g'.edges.length ≤ 1000000) (hF : F.length = w.ps.length)
    (hV : Pure Tryz.prog 20 [tysA t, watA w] (AI 0))
    (hE : Pure Tryz.prog 45 [grA w.g, .agg [AI 1, AI i, AI ty, AI fr, AI to], AI (t.nodes.map cNod).length, AI (t.edges.map cEdg).length] (AI 0))
    (hG : Pure Tryz.prog 24 [grA w.g, .agg [AI 1, AI i, AI ty, AI fr, AI to]] (grA g'))
    (hN : Pure Tryz.prog 13 [tysA t, grsA w.ps, grA g', AB w.inj] (.tup [watA ⟨w.ps, g', w.inj, ms'⟩, AI 0]))
    (hW : ∀ j : Nat, j < w.ps.length → ∃ m f, ms'[j]? = some m ∧ F[j]? = some f ∧ Pure Tryz.prog 46 [mosA m, AB false, AI (((rowI g'.nodes).length : Int) - 1)] (mosA f)) :
    Pure Tryz.prog 19 [tysA t, watA w, .agg [AI 1, AI i, AI ty, AI fr, AI to]] (.tup [watA ⟨w.ps, g', w.inj, ms'⟩, .im 2 (F.map cDelN), AI 0]) := by
  change Pure _ _ _ (.tup [.agg [grsA w.ps, ints g'.nodes, edsA g'.edges, AB w.inj, mssA ms'], AI 0]) at hN
  have lps : (w.ps.map cGr).length = w.ps.length := by simp
  have lgn' : (rowI g'.nodes).length = g'.nodes.length := by simp
  have lge' : (g'.edges.map cEd).length = g'.edges.length := by simp
  obtain ⟨ps, g, inj, ms⟩ := w
  obtain ⟨gn, ge⟩ := g
  obtain ⟨gn', ge'⟩ := g'
  simp only at *
  change Pure _ _ [.agg [ints gn, edsA ge], .agg [AI 1, AI i, AI ty, AI fr, AI to], _, _] _ at hE
  change Pure _ _ [.agg [ints gn, edsA ge], .agg [AI 1, AI i, AI ty, AI fr, AI to]] (.agg [ints gn', edsA ge']) at hG
  refine a_enterM (rs := [.cell 6 37, .tmp 7, .tmp 8]) tok Tryz.func19 (by kernel_rfl) rfl Tryz.ntmps19 rfl (by decide) (by simp) ?_
  refine a_seq ?_
  refine a_reg ?_
  repeat (first | refine gZ pk ?_ | (show AL _ _ _ _ _ _ _; first | refine jB (fun u => ?_) | refine jL tok (fun U6 => ?_)))
  refine a_frzBox 3 3 rfl rfl ?_
  refine a_frzBox 2 4 rfl rfl ?_
  refine a_frzBox 1 5 rfl rfl ?_
  repeat (first | refine gN pk ?_ | (show AL _ _ _ _ _ _ _; first | refine jP hV ?_ | refine jP hE ?_))
  refine AWp.mono (Q := fun e st L => e = .normal ∧ ∃ un, GoTo 119 st L (lk [(4, .ip [grsA ps, ints gn, edsA ge, AB inj, mssA ms]), (5, .ip [AI 1, AI i, AI ty, AI fr, AI to]), (6, .pt U6 0 0 0), (11, .pt un 0 0 0), (12, AI 0)]) [(un, OB.box [grsA ps, ints gn', edsA ge', AB inj, mssA ms']), (U6, OB.box [nilS, nilS, nilS, AB false, nilS])]) ?_ (fun e st L h => ?_)
  · refine a_regG ((List.range 16).map fun i => if inL [6, 9, 13, 14] i = true then .eff else if inL [0, 2, 4, 5, 8] i = true then .read else .pure) [6, 13] [0, 1, 2, 3, 4, 5, 7, 8] (.nd 6 [] (.nd 9 [10, 11, 12] (.nd 13 [14, 15] .stop .stop) (.nd 13 [9, 10, 11, 12, 14, 15] .stop .stop)) (.nd 13 [] (.nd 6 [9, 10, 11, 12, 14, 15] .stop .stop) .stop)) mixed rfl rfl (by decide +kernel) ?_
    repeat' (first | (with_reducible show AG _ _ _ _ _ _ _ _ _ _; first | exact ag_none | refine ag_stop ?_ | refine ag_nd ?_ ?_) | (show AMid _ _ _ _; first | refine amid_f ?_ | refine amid_g (by first | exact OSub.refl _ | exact .drop (OSub.refl _) | exact .drop (.drop (OSub.refl _))) ?_) | refine gY pk ?_ | (show AL _ _ _ _ _ _ _; first | refine jP hG ?_ | refine jP hN ?_ | refine jL tok (fun un => ?_) | refine jS tok 0 ?_) | fail)
    all_goals exact ⟨rfl, _, .sub (by exact subQ) (OSub.refl _)⟩
  · obtain ⟨rfl, un, h⟩ := h
    refine a_goto h ?_
    clear h
    refine a_frzBox 0 11 rfl rfl ?_
    repeat (first | refine gA pk ?_)
    refine a_loopG2 (fun (j : Nat) (vd : Value) => [(4, .ip [grsA ps, ints gn, edsA ge, AB inj, mssA ms]), (5, .ip [AI 1, AI i, AI ty, AI fr, AI to]), (6, .pt U6 0 0 0), (11, .ip [grsA ps, ints gn', edsA ge', AB inj, mssA ms']), (13, .lit vd), (14, AI j)]) (fun j vd => [(vd, OB.row 72 2 ((F.take j).map fun x => [mosA x, nilS])), (U6, OB.box [nilS, nilS, nilS, AB false, nilS])]) (fun j _ => j ≤ ps.length) (fun j _ => ps.length - j) 0 (.slice none 0 0) (Nat.zero_le _) (.sub (by exact subQ) (.free (OSub.refl _))) ?_
    intro j vd hj
    have lD : ((F.take j).map fun x => [mosA x, nilS]).length = j := by rw [List.length_map, List.length_take]; omega
    rcases Nat.lt_or_ge j ps.length with h | h
    · obtain ⟨m, f, e1, e2, hw⟩ := hW j h
      have mk : (ms'.map cMos)[(j : Int).toNat]? = some [mosA m] := map_get (f := cMos) e1
      have lms : (ms'.map cMos).length = ms'.length := by simp
      have hjm := (List.getElem?_eq_some_iff.1 e1).1
      have hset : ((F.take (j + 1)).map fun x => [mosA x, nilS]) = ((F.take j).map fun x => [mosA x, nilS]) ++ [[mosA f, nilS]] := by rw [List.take_add_one, e2]; simp
      repeat (first | refine gN pk ?_ | (show AL _ _ _ _ _ _ _; first | refine jL tok (fun ud => ?_)))
      refine a_regG ((List.range 13).map fun i => if inL [10, 12] i = true then .eff else if inL [1, 3, 4, 7, 8] i = true then .read else .pure) [] [0, 1, 2, 3, 4, 5, 6, 7, 8, 9, 10, 11, 12] .stop mixed rfl rfl (by decide +kernel) ?_
      repeat' (first | (with_reducible show AG _ _ _ _ _ _ _ _ _ _; first | exact ag_none | refine ag_stop ?_ | refine ag_nd ?_ ?_) | (show AMid _ _ _ _; first | refine amid_f ?_ | refine amid_g (by first | exact OSub.refl _ | exact .drop (OSub.refl _) | exact .drop (.drop (OSub.refl _))) ?_) | refine gY pk ?_ | (show AL _ _ _ _ _ _ _; first | refine jX tok mk ?_ | refine jP hw ?_ | refine jS tok 0 ?_) | fail)
      repeat (first | refine gA pk ?_ | (show AL _ _ _ _ _ _ _; first | refine jO tok 0 ?_ | refine s_build1A tok rfl rfl rfl rfl rfl rfl rfl rfl (by decide) (fun lv => ?_) | refine s_append1K tok 1 rfl rfl rfl rfl rfl rfl (by decide) rfl rfl rfl rfl (by omega) (by omega) (fun v' hv' => ?_)))
      exact ⟨j + 1, v', by omega, by omega, .sub (by exact subQ) (by rw [hset]; exact .drop (OSub.refl _))⟩
    · obtain rfl : j = ps.length := by omega
      rw [← hF, List.take_length]
      refine a_frz 0 13 rfl rfl ?_
      rw [hF]
      repeat (first | refine gV pk ?_ | (show AL _ _ _ _ _ _ _; first | refine jS tok 0 ?_))
      refine a_frzBox 0 6 rfl rfl ?_
      refine a_ret ?_
      exact ⟨.inr rfl, _, _, [], rfl, Turn.of (Sub.tup (l := [.agg [grsA ps, ints gn', edsA ge', AB inj, mssA ms'], .im 2 (F.map fun x => [mosA x, nilS]), AI 0]) (m := [.agg [grsA ps, ints gn', edsA ge', AB inj, mssA ms'], .im 2 (F.map cDelN), AI 0]) ⟨Sub.refl _, Sub.im (subLL_map (f := fun x => [mosA x, nilS]) (g := cDelN) (fun x => show SubL [mosA x, nilS] [mosA x, mosA []] from ⟨Sub.refl _, Sub.nil 2, trivial⟩) F), Sub.refl _, trivial⟩) (OSub.none _), rfl, rfl⟩
theorem gApply2_spec (t : Tys) (w : Wat) (i ty fr to : Int) (g' : Gr) (ms' F : List (List Mo)) (hps : w.ps.length ≤ 5) (hgl : g'.nodes.length ≤ 1000000 ∧ g'.edges.length ≤ 1000000) (hF : F.length = w.ps.length)
    (hV : Pure Tryz.prog 20 [tysA t, watA w] (AI 0))
    (hE : Pure Tryz.prog 45 [grA w.g, .agg [AI 2, AI i, AI ty, AI fr, AI to], AI (t.nodes.map cNod).length, AI (t.edges.map cEdg).length] (AI 0))
    (hG : Pure Tryz.prog 24 [grA w.g, .agg [AI 2, AI i, AI ty, AI fr, AI to]] (grA g'))
    (hN : Pure Tryz.prog 13 [tysA t, grsA w.ps, grA g', AB w.inj] (.tup [watA ⟨w.ps, g', w.inj, ms'⟩, AI 0]))
    (hW : ∀ j : Nat, j < w.ps.length → ∃ m f, ms'[j]? = some m ∧ F[j]? = some f ∧ Pure Tryz.prog 46 [mosA m, AB true, AI (((g'.edges.map cEd).length : Int) - 1)] (mosA f)) :
    Pure Tryz.prog 19 [tysA t, watA w, .agg [AI 2, AI i, AI ty, AI fr, AI to]] (.tup [watA ⟨w.ps, g', w.inj, ms'⟩, .im 2 (F.map cDelN), AI 0]) := by
  change Pure _ _ _ (.tup [.agg [grsA w.ps, ints g'.nodes, edsA g'.edges, AB w.inj, mssA ms'], AI 0]) at hN
  have lps : (w.ps.map cGr).length = w.ps.length := by simp
  have lgn' : (rowI g'.nodes).length = g'.nodes.length := by simp
  have lge' : (g'.edges.map cEd).length = g'.edges.length := by simp
  obtain ⟨ps, g, inj, ms⟩ := w
  obtain ⟨gn, ge⟩ := g
  obtain ⟨gn', ge'⟩ := g'
  simp only at *
  change Pure _ _ [.agg [ints gn, edsA ge], .agg [AI 2, AI i, AI ty, AI fr, AI to], _, _] _ at hE
  change Pure _ _ [.agg [ints gn, edsA ge], .agg [AI 2, AI i, AI ty, AI fr, AI to]] (.agg [ints gn', edsA ge']) at hG
  refine a_enterM (rs := [.cell 6 37, .tmp 7, .tmp 8]) tok Tryz.func19 (by kernel_rfl) rfl Tryz.ntmps19 rfl (by decide) (by simp) ?_
  refine a_seq ?_
  refine a_reg ?_
  repeat (first | refine gZ pk ?_ | (show AL _ _ _ _ _ _ _; first | refine jB (fun u => ?_) | refine jL tok (fun U6 => ?_)))
  refine a_frzBox 3 3 rfl rfl ?_
  refine a_frzBox 2 4 rfl rfl ?_
  refine a_frzBox 1 5 rfl rfl ?_
  repeat (first | refine gN pk ?_ | (show AL _ _ _ _ _ _ _; first | refine jP hV ?_ | refine jP hE ?_))
  refine AWp.mono (Q := fun e st L => e = .normal ∧ ∃ un, GoTo 119 st L (lk [(4, .ip [grsA ps, ints gn, edsA ge, AB inj, mssA ms]), (5, .ip [AI 2, AI i, AI ty, AI fr, AI to]), (6, .pt U6 0 0 0), (11, .pt un 0 0 0), (12, AI 0)]) [(un, OB.box [grsA ps, ints gn', edsA ge', AB inj, mssA ms']), (U6, OB.box [nilS, nilS, nilS, AB false, nilS])]) ?_ (fun e st L h => ?_)
  · refine a_regG ((List.range 16).map fun i => if inL [6, 9, 13, 14] i = true then .eff else if inL [0, 2, 4, 5, 8] i = true then .read else .pure) [6, 13] [0, 1, 2, 3, 4, 5, 7, 8] (.nd 6 [] (.nd 9 [10, 11, 12] (.nd 13 [14, 15] .stop .stop) (.nd 13 [9, 10, 11, 12, 14, 15] .stop .stop)) (.nd 13 [] (.nd 6 [9, 10, 11, 12, 14, 15] .stop .stop) .stop)) mixed rfl rfl (by decide +kernel) ?_
    repeat' (first | (with_reducible show AG _ _ _ _ _ _ _ _ _ _; first | exact ag_none | refine ag_stop ?_ | refine ag_nd ?_ ?_) | (show AMid _ _ _ _; first | refine amid_f ?_ | refine amid_g (by first | exact OSub.refl _ | exact .drop (OSub.refl _) | exact .drop (.drop (OSub.refl _))) ?_) | refine gY pk ?_ | (show AL _ _ _ _ _ _ _; first | refine jP hG ?_ | refine jP hN ?_ | refine jL tok (fun un => ?_) | refine jS tok 0 ?_) | fail)
    all_goals exact ⟨rfl, _, .sub (by exact subQ) (OSub.refl _)⟩
  · obtain ⟨rfl, un, h⟩ := h
    refine a_goto h ?_
    clear h
    refine a_frzBox 0 11 rfl rfl ?_
    repeat (first | refine gA pk ?_)
    refine a_loopG2 (fun (j : Nat) (vd : Value) => [(4, .ip [grsA ps, ints gn, edsA ge, AB inj, mssA ms]), (5, .ip [AI 2, AI i, AI ty, AI fr, AI to]), (6, .pt U6 0 0 0), (11, .ip [grsA ps, ints gn', edsA ge', AB inj, mssA ms']), (13, .lit vd), (14, AI j)]) (fun j vd => [(vd, OB.row 72 2 ((F.take j).map fun x => [mosA x, nilS])), (U6, OB.box [nilS, nilS, nilS, AB false, nilS])]) (fun j _ => j ≤ ps.length) (fun j _ => ps.length - j) 0 (.slice none 0 0) (Nat.zero_le _) (.sub (by exact subQ) (.free (OSub.refl _))) ?_
    intro j vd hj
    have lD : ((F.take j).map fun x => [mosA x, nilS]).length = j := by rw [List.length_map, List.length_take]; omega
    rcases Nat.lt_or_ge j ps.length with h | h
    · obtain ⟨m, f, e1, e2, hw⟩ := hW j h
      have mk : (ms'.map cMos)[(j : Int).toNat]? = some [mosA m] := map_get (f := cMos) e1
      have lms : (ms'.map cMos).length = ms'.length := by simp
      have hjm := (List.getElem?_eq_some_iff.1 e1).1
      have hset : ((F.take (j + 1)).map fun x => [mosA x, nilS]) = ((F.take j).map fun x => [mosA x, nilS]) ++ [[mosA f, nilS]] := by rw [List.take_add_one, e2]; simp
      repeat (first | refine gN pk ?_ | (show AL _ _ _ _ _ _ _; first | refine jL tok (fun ud => ?_)))
      refine a_regG ((List.range 13).map fun i => if inL [10, 12] i = true then .eff else if inL [1, 3, 4, 7, 8] i = true then .read else .pure) [] [0, 1, 2, 3, 4, 5, 6, 7, 8, 9, 10, 11, 12] .stop mixed rfl rfl (by decide +kernel) ?_
      repeat' (first | (with_reducible show AG _ _ _ _ _ _ _ _ _ _; first | exact ag_none | refine ag_stop ?_ | refine ag_nd ?_ ?_) | (show AMid _ _ _ _; first | refine amid_f ?_ | refine amid_g (by first | exact OSub.refl _ | exact .drop (OSub.refl _) | exact .drop (.drop (OSub.refl _))) ?_) | refine gY pk ?_ | (show AL _ _ _ _ _ _ _; first | refine jX tok mk ?_ | refine jP hw ?_ | refine jS tok 0 ?_) | fail)
      repeat (first | refine gA pk ?_ | (show AL _ _ _ _ _ _ _; first | refine jO tok 0 ?_ | refine s_build1A tok rfl rfl rfl rfl rfl rfl rfl rfl (by decide) (fun lv => ?_) | refine s_append1K tok 1 rfl rfl rfl rfl rfl rfl (by decide) rfl rfl rfl rfl (by omega) (by omega) (fun v' hv' => ?_)))
      exact ⟨j + 1, v', by omega, by omega, .sub (by exact subQ) (by rw [hset]; exact .drop (OSub.refl _))⟩
    · obtain rfl : j = ps.length := by omega
      rw [← hF, List.take_length]
      refine a_frz 0 13 rfl rfl ?_
      rw [hF]
      repeat (first | refine gV pk ?_ | (show AL _ _ _ _ _ _ _; first | refine jS tok 0 ?_))
      refine a_frzBox 0 6 rfl rfl ?_
      refine a_ret ?_
      exact ⟨.inr rfl, _, _, [], rfl, Turn.of (Sub.tup (l := [.agg [grsA ps, ints gn', edsA ge', AB inj, mssA ms'], .im 2 (F.map fun x => [mosA x, nilS]), AI 0]) (m := [.agg [grsA ps, ints gn', edsA ge', AB inj, mssA ms'], .im 2 (F.map cDelN), AI 0]) ⟨Sub.refl _, Sub.im (subLL_map (f := fun x => [mosA x, nilS]) (g := cDelN) (fun x => show SubL [mosA x, nilS] [mosA x, mosA []] from ⟨Sub.refl _, Sub.nil 2, trivial⟩) F), Sub.refl _, trivial⟩) (OSub.none _), rfl, rfl⟩
theorem gApply3_spec (t : Tys) (w : Wat) (i ty fr to : Int) (g' : Gr) (ms' F : List (List Mo)) (hps : w.ps.length ≤ 5) (hgl : g'.nodes.length ≤ 1000000 ∧ g'.edges.length ≤ 1000000) (hF : F.length = w.ps.length)
    (hV : Pure Tryz.prog 20 [tysA t, watA w] (AI 0))
    (hE : Pure Tryz.prog 45 [grA w.g, .agg [AI 3, AI i, AI ty, AI fr, AI to], AI (t.nodes.map cNod).length, AI (t.edges.map cEdg).length] (AI 0))
    (hG : Pure Tryz.prog 24 [grA w.g, .agg [AI 3, AI i, AI ty, AI fr, AI to]] (grA g'))
    (hN : Pure Tryz.prog 13 [tysA t, grsA w.ps, grA g', AB w.inj] (.tup [watA ⟨w.ps, g', w.inj, ms'⟩, AI 0]))
    (hW : ∀ j : Nat, j < w.ps.length → ∃ m f, w.ms[j]? = some m ∧ F[j]? = some f ∧ Pure Tryz.prog 46 [mosA m, AB false, AI (i)] (mosA f)) :
    Pure Tryz.prog 19 [tysA t, watA w, .agg [AI 3, AI i, AI ty, AI fr, AI to]] (.tup [watA ⟨w.ps, g', w.inj, ms'⟩, .im 2 (F.map cDelG), AI 0]) := by
  change Pure _ _ _ (.tup [.agg [grsA w.ps, ints g'.nodes, edsA g'.edges, AB w.inj, mssA ms'], AI 0]) at hN
  have lps : (w.ps.map cGr).length = w.ps.length := by simp
  have lgn' : (rowI g'.nodes).length = g'.nodes.length := by simp
  have lge' : (g'.edges.map cEd).length = g'.edges.length := by simp
  obtain ⟨ps, g, inj, ms⟩ := w
  obtain ⟨gn, ge⟩ := g
  obtain ⟨gn', ge'⟩ := g'
  simp only at *
  change Pure _ _ [.agg [ints gn, edsA ge], .agg [AI 3, AI i, AI ty, AI fr, AI to], _, _] _ at hE
  change Pure _ _ [.agg [ints gn, edsA ge], .agg [AI 3, AI i, AI ty, AI fr, AI to]] (.agg [ints gn', edsA ge']) at hG
  refine a_enterM (rs := [.cell 6 37, .tmp 7, .tmp 8]) tok Tryz.func19 (by kernel_rfl) rfl Tryz.ntmps19 rfl (by decide) (by simp) ?_
  refine a_seq ?_
  refine a_reg ?_
  repeat (first | refine gZ pk ?_ | (show AL _ _ _ _ _ _ _; first | refine jB (fun u => ?_) | refine jL tok (fun U6 => ?_)))
  refine a_frzBox 3 3 rfl rfl ?_
  refine a_frzBox 2 4 rfl rfl ?_
  refine a_frzBox 1 5 rfl rfl ?_
  repeat (first | refine gN pk ?_ | (show AL _ _ _ _ _ _ _; first | refine jP hV ?_ | refine jP hE ?_))
  refine AWp.mono (Q := fun e st L => e = .normal ∧ ∃ un, GoTo 119 st L (lk [(4, .ip [grsA ps, ints gn, edsA ge, AB inj, mssA ms]), (5, .ip [AI 3, AI i, AI ty, AI fr, AI to]), (6, .pt U6 0 0 0), (11, .pt un 0 0 0), (12, AI 0)]) [(un, OB.box [grsA ps, ints gn', edsA ge', AB inj, mssA ms']), (U6, OB.box [nilS, nilS, nilS, AB false, nilS])]) ?_ (fun e st L h => ?_)
  · refine a_regG ((List.range 16).map fun i => if inL [6, 9, 13, 14] i = true then .eff else if inL [0, 2, 4, 5, 8] i = true then .read else .pure) [6, 13] [0, 1, 2, 3, 4, 5, 7, 8] (.nd 6 [] (.nd 9 [10, 11, 12] (.nd 13 [14, 15] .stop .stop) (.nd 13 [9, 10, 11, 12, 14, 15] .stop .stop)) (.nd 13 [] (.nd 6 [9, 10, 11, 12, 14, 15] .stop .stop) .stop)) mixed rfl rfl (by decide +kernel) ?_
    repeat' (first | (with_reducible show AG _ _ _ _ _ _ _ _ _ _; first | exact ag_none | refine ag_stop ?_ | refine ag_nd ?_ ?_) | (show AMid _ _ _ _; first | refine amid_f ?_ | refine amid_g (by first | exact OSub.refl _ | exact .drop (OSub.refl _) | exact .drop (.drop (OSub.refl _))) ?_) | refine gY pk ?_ | (show AL _ _ _ _ _ _ _; first | refine jP hG ?_ | refine jP hN ?_ | refine jL tok (fun un => ?_) | refine jS tok 0 ?_) | fail)
    all_goals exact ⟨rfl, _, .sub (by exact subQ) (OSub.refl _)⟩
  · obtain ⟨rfl, un, h⟩ := h
    refine a_goto h ?_
    clear h
    refine a_frzBox 0 11 rfl rfl ?_
    repeat (first | refine gA pk ?_)
    refine a_loopG2 (fun (j : Nat) (vd : Value) => [(4, .ip [grsA ps, ints gn, edsA ge, AB inj, mssA ms]), (5, .ip [AI 3, AI i, AI ty, AI fr, AI to]), (6, .pt U6 0 0 0), (11, .ip [grsA ps, ints gn', edsA ge', AB inj, mssA ms']), (13, .lit vd), (14, AI j)]) (fun j vd => [(vd, OB.row 72 2 ((F.take j).map fun x => [nilS, mosA x])), (U6, OB.box [nilS, nilS, nilS, AB false, nilS])]) (fun j _ => j ≤ ps.length) (fun j _ => ps.length - j) 0 (.slice none 0 0) (Nat.zero_le _) (.sub (by exact subQ) (.free (OSub.refl _))) ?_
    intro j vd hj
    have lD : ((F.take j).map fun x => [nilS, mosA x]).length = j := by rw [List.length_map, List.length_take]; omega
    rcases Nat.lt_or_ge j ps.length with h | h
    · obtain ⟨m, f, e1, e2, hw⟩ := hW j h
      have mk : (ms.map cMos)[(j : Int).toNat]? = some [mosA m] := map_get (f := cMos) e1
      have lms : (ms.map cMos).length = ms.length := by simp
      have hjm := (List.getElem?_eq_some_iff.1 e1).1
      have hset : ((F.take (j + 1)).map fun x => [nilS, mosA x]) = ((F.take j).map fun x => [nilS, mosA x]) ++ [[nilS, mosA f]] := by rw [List.take_add_one, e2]; simp
      repeat (first | refine gN pk ?_ | (show AL _ _ _ _ _ _ _; first | refine jL tok (fun ud => ?_)))
      refine a_regG ((List.range 10).map fun i => if inL [7, 9] i = true then .eff else if inL [1, 3, 4, 6] i = true then .read else .pure) [] [0, 1, 2, 3, 4, 5, 6, 7, 8, 9] .stop mixed rfl rfl (by decide +kernel) ?_
      repeat' (first | (with_reducible show AG _ _ _ _ _ _ _ _ _ _; first | exact ag_none | refine ag_stop ?_ | refine ag_nd ?_ ?_) | (show AMid _ _ _ _; first | refine amid_f ?_ | refine amid_g (by first | exact OSub.refl _ | exact .drop (OSub.refl _) | exact .drop (.drop (OSub.refl _))) ?_) | refine gY pk ?_ | (show AL _ _ _ _ _ _ _; first | refine jX tok mk ?_ | refine jP hw ?_ | refine jS tok 0 ?_) | fail)
      repeat (first | refine gA pk ?_ | (show AL _ _ _ _ _ _ _; first | refine jO tok 0 ?_ | refine s_build1A tok rfl rfl rfl rfl rfl rfl rfl rfl (by decide) (fun lv => ?_) | refine s_append1K tok 1 rfl rfl rfl rfl rfl rfl (by decide) rfl rfl rfl rfl (by omega) (by omega) (fun v' hv' => ?_)))
      exact ⟨j + 1, v', by omega, by omega, .sub (by exact subQ) (by rw [hset]; exact .drop (OSub.refl _))⟩
    · obtain rfl : j = ps.length := by omega
      rw [← hF, List.take_length]
      refine a_frz 0 13 rfl rfl ?_
      rw [hF]
      repeat (first | refine gV pk ?_ | (show AL _ _ _ _ _ _ _; first | refine jS tok 0 ?_))
      refine a_frzBox 0 6 rfl rfl ?_
      refine a_ret ?_
      exact ⟨.inr rfl, _, _, [], rfl, Turn.of (Sub.tup (l := [.agg [grsA ps, ints gn', edsA ge', AB inj, mssA ms'], .im 2 (F.map fun x => [nilS, mosA x]), AI 0]) (m := [.agg [grsA ps, ints gn', edsA ge', AB inj, mssA ms'], .im 2 (F.map cDelG), AI 0]) ⟨Sub.refl _, Sub.im (subLL_map (f := fun x => [nilS, mosA x]) (g := cDelG) (fun x => show SubL [nilS, mosA x] [mosA [], mosA x] from ⟨Sub.nil 2, Sub.refl _, trivial⟩) F), Sub.refl _, trivial⟩) (OSub.none _), rfl, rfl⟩
theorem gApply4_spec (t : Tys) (w : Wat) (i ty fr to : Int) (g' : Gr) (ms' F : List (List Mo)) (hps : w.ps.length ≤ 5) (hgl : g'.nodes.length ≤ 1000000 ∧ g'.edges.length ≤ 1000000) (hF : F.length = w.ps.length)
    (hV : Pure Tryz.prog 20 [tysA t, watA w] (AI 0))
    (hE : Pure Tryz.prog 45 [grA w.g, .agg [AI 4, AI i, AI ty, AI fr, AI to], AI (t.nodes.map cNod).length, AI (t.edges.map cEdg).length] (AI 0))
    (hG : Pure Tryz.prog 24 [grA w.g, .agg [AI 4, AI i, AI ty, AI fr, AI to]] (grA g'))
    (hN : Pure Tryz.prog 13 [tysA t, grsA w.ps, grA g', AB w.inj] (.tup [watA ⟨w.ps, g', w.inj, ms'⟩, AI 0]))
    (hW : ∀ j : Nat, j < w.ps.length → ∃ m f, w.ms[j]? = some m ∧ F[j]? = some f ∧ Pure Tryz.prog 46 [mosA m, AB true, AI (i)] (mosA f)) :
    Pure Tryz.prog 19 [tysA t, watA w, .agg [AI 4, AI i, AI ty, AI fr, AI to]] (.tup [watA ⟨w.ps, g', w.inj, ms'⟩, .im 2 (F.map cDelG), AI 0]) := by
  change Pure _ _ _ (.tup [.agg [grsA w.ps, ints g'.nodes, edsA g'.edges, AB w.inj, mssA ms'], AI 0]) at hN
  have lps : (w.ps.map cGr).length = w.ps.length := by simp
  have lgn' : (rowI g'.nodes).length = g'.nodes.length := by simp
  have lge' : (g'.edges.map cEd).length = g'.edges.length := by simp
  obtain ⟨ps, g, inj, ms⟩ := w
  obtain ⟨gn, ge⟩ := g
  obtain ⟨gn', ge'⟩ := g'
  simp only at *
  change Pure _ _ [.agg [ints gn, edsA ge], .agg [AI 4, AI i, AI ty, AI fr, AI to], _, _] _ at hE
  change Pure _ _ [.agg [ints gn, edsA ge], .agg [AI 4, AI i, AI ty, AI fr, AI to]] (.agg [ints gn', edsA ge']) at hG
  refine a_enterM (rs := [.cell 6 37, .tmp 7, .tmp 8]) tok Tryz.func19 (by kernel_rfl) rfl Tryz.ntmps19 rfl (by decide) (by simp) ?_
  refine a_seq ?_
  refine a_reg ?_
  repeat (first | refine gZ pk ?_ | (show AL _ _ _ _ _ _ _; first | refine jB (fun u => ?_) | refine jL tok (fun U6 => ?_)))
  refine a_frzBox 3 3 rfl rfl ?_
  refine a_frzBox 2 4 rfl rfl ?_
  refine a_frzBox 1 5 rfl rfl ?_
  repeat (first | refine gN pk ?_ | (show AL _ _ _ _ _ _ _; first | refine jP hV ?_ | refine jP hE ?_))
  refine AWp.mono (Q := fun e st L => e = .normal ∧ ∃ un, GoTo 119 st L (lk [(4, .ip [grsA ps, ints gn, edsA ge, AB inj, mssA ms]), (5, .ip [AI 4, AI i, AI ty, AI fr, AI to]), (6, .pt U6 0 0 0), (11, .pt un 0 0 0), (12, AI 0)]) [(un, OB.box [grsA ps, ints gn', edsA ge', AB inj, mssA ms']), (U6, OB.box [nilS, nilS, nilS, AB false, nilS])]) ?_ (fun e st L h => ?_)
  · refine a_regG ((List.range 16).map fun i => if inL [6, 9, 13, 14] i = true then .eff else if inL [0, 2, 4, 5, 8] i = true then .read else .pure) [6, 13] [0, 1, 2, 3, 4, 5, 7, 8] (.nd 6 [] (.nd 9 [10, 11, 12] (.nd 13 [14, 15] .stop .stop) (.nd 13 [9, 10, 11, 12, 14, 15] .stop .stop)) (.nd 13 [] (.nd 6 [9, 10, 11, 12, 14, 15] .stop .stop) .stop)) mixed rfl rfl (by decide +kernel) ?_
    repeat' (first | (with_reducible show AG _ _ _ _ _ _ _ _ _ _; first | exact ag_none | refine ag_stop ?_ | refine ag_nd ?_ ?_) | (show AMid _ _ _ _; first | refine amid_f ?_ | refine amid_g (by first | exact OSub.refl _ | exact .drop (OSub.refl _) | exact .drop (.drop (OSub.refl _))) ?_) | refine gY pk ?_ | (show AL _ _ _ _ _ _ _; first | refine jP hG ?_ | refine jP hN ?_ | refine jL tok (fun un => ?_) | refine jS tok 0 ?_) | fail)
    all_goals exact ⟨rfl, _, .sub (by exact subQ) (OSub.refl _)⟩
  · obtain ⟨rfl, un, h⟩ := h
    refine a_goto h ?_
    clear h
    refine a_frzBox 0 11 rfl rfl ?_
    repeat (first | refine gA pk ?_)
    refine a_loopG2 (fun (j : Nat) (vd : Value) => [(4, .ip [grsA ps, ints gn, edsA ge, AB inj, mssA ms]), (5, .ip [AI 4, AI i, AI ty, AI fr, AI to]), (6, .pt U6 0 0 0), (11, .ip [grsA ps, ints gn', edsA ge', AB inj, mssA ms']), (13, .lit vd), (14, AI j)]) (fun j vd => [(vd, OB.row 72 2 ((F.take j).map fun x => [nilS, mosA x])), (U6, OB.box [nilS, nilS, nilS, AB false, nilS])]) (fun j _ => j ≤ ps.length) (fun j _ => ps.length - j) 0 (.slice none 0 0) (Nat.zero_le _) (.sub (by exact subQ) (.free (OSub.refl _))) ?_
    intro j vd hj
    have lD : ((F.take j).map fun x => [nilS, mosA x]).length = j := by rw [List.length_map, List.length_take]; omega
    rcases Nat.lt_or_ge j ps.length with h | h
    · obtain ⟨m, f, e1, e2, hw⟩ := hW j h
      have mk : (ms.map cMos)[(j : Int).toNat]? = some [mosA m] := map_get (f := cMos) e1
      have lms : (ms.map cMos).length = ms.length := by simp
      have hjm := (List.getElem?_eq_some_iff.1 e1).1
      have hset : ((F.take (j + 1)).map fun x => [nilS, mosA x]) = ((F.take j).map fun x => [nilS, mosA x]) ++ [[nilS, mosA f]] := by rw [List.take_add_one, e2]; simp
      repeat (first | refine gN pk ?_ | (show AL _ _ _ _ _ _ _; first | refine jL tok (fun ud => ?_)))
      refine a_regG ((List.range 10).map fun i => if inL [7, 9] i = true then .eff else if inL [1, 3, 4, 6] i = true then .read else .pure) [] [0, 1, 2, 3, 4, 5, 6, 7, 8, 9] .stop mixed rfl rfl (by decide +kernel) ?_
      repeat' (first | (with_reducible show AG _ _ _ _ _ _ _ _ _ _; first | exact ag_none | refine ag_stop ?_ | refine ag_nd ?_ ?_) | (show AMid _ _ _ _; first | refine amid_f ?_ | refine amid_g (by first | exact OSub.refl _ | exact .drop (OSub.refl _) | exact .drop (.drop (OSub.refl _))) ?_) | refine gY pk ?_ | (show AL _ _ _ _ _ _ _; first | refine jX tok mk ?_ | refine jP hw ?_ | refine jS tok 0 ?_) | fail)
      repeat (first | refine gA pk ?_ | (show AL _ _ _ _ _ _ _; first | refine jO tok 0 ?_ | refine s_build1A tok rfl rfl rfl rfl rfl rfl rfl rfl (by decide) (fun lv => ?_) | refine s_append1K tok 1 rfl rfl rfl rfl rfl rfl (by decide) rfl rfl rfl rfl (by omega) (by omega) (fun v' hv' => ?_)))
      exact ⟨j + 1, v', by omega, by omega, .sub (by exact subQ) (by rw [hset]; exact .drop (OSub.refl _))⟩
    · obtain rfl : j = ps.length := by omega
      rw [← hF, List.take_length]
      refine a_frz 0 13 rfl rfl ?_
      rw [hF]
      repeat (first | refine gV pk ?_ | (show AL _ _ _ _ _ _ _; first | refine jS tok 0 ?_))
      refine a_frzBox 0 6 rfl rfl ?_
      refine a_ret ?_
      exact ⟨.inr rfl, _, _, [], rfl, Turn.of (Sub.tup (l := [.agg [grsA ps, ints gn', edsA ge', AB inj, mssA ms'], .im 2 (F.map fun x => [nilS, mosA x]), AI 0]) (m := [.agg [grsA ps, ints gn', edsA ge', AB inj, mssA ms'], .im 2 (F.map cDelG), AI 0]) ⟨Sub.refl _, Sub.im (subLL_map (f := fun x => [nilS, mosA x]) (g := cDelG) (fun x => show SubL [nilS, mosA x] [mosA [], mosA x] from ⟨Sub.nil 2, Sub.refl _, trivial⟩) F), Sub.refl _, trivial⟩) (OSub.none _), rfl, rfl⟩
theorem allR_facts {t : Tys} {ps : List Gr} {g : Gr} {inj : Bool} (h : matsE t ps g inj = 0) : ∀ p ∈ ps, GV p ∧ (allR t p g inj).1 = matL (seaA t p g inj) ∧ (matL (seaA t p g inj)).length ≤ 5000 := fun p hp => by
  have h2 := (matsE_zero h).2.2 p hp
  exact ⟨(validS_zero (allR_zero h2)).2.1, (allR_mat h2).1, (allR_mat h2).2⟩
theorem gGraph_spec (t : Tys) (g : Gr) (hg : GV g) (e : Edt) (he : edtE t g e = 0) : Pure Tryz.prog 24 [grA g, .agg [AI e.kind, AI e.idx, AI e.ty, AI e.fr, AI e.to]] (grA (ediG g e)) := by
  obtain ⟨og, og1, og2⟩ := gv_small hg
  have hn := hg.nl
  have hb : ∀ x ∈ g.edges, (-1000000 ≤ x.fr ∧ x.fr ≤ 1000000) ∧ -1000000 ≤ x.to ∧ x.to ≤ 1000000 := fun x hx => by
    have := hg.edges x hx
    omega
  obtain ⟨k, i, ty, fr, to⟩ := e
  rcases edit_kind he with ⟨hk, a, b⟩ | ⟨hk, a, b, c, d⟩ | ⟨hk, a, b⟩ | ⟨hk, a⟩
  · simp only at hk; subst hk
    exact gGraph1_spec g og1 og2 hb i ty fr to
  · simp only at hk; subst hk
    exact gGraph2_spec g og1 og2 hb i ty fr to
  · simp only at hk a; subst hk
    obtain ⟨d, rfl⟩ : ∃ d : Nat, i = d := ⟨i.toNat, by omega⟩
    exact gGraph3_spec g og1 og2 hb d ty fr to
  · simp only at hk a; subst hk
    obtain ⟨d, rfl⟩ : ∃ d : Nat, i = d := ⟨i.toNat, by omega⟩
    exact gGraph4_spec g og1 og2 hb d ty fr to
theorem gApplyF_spec (t : Tys) (ht : Small t) (w : Wat) (hw : WatOk w) (e : Edt) :
    Pure Tryz.prog 19 [tysA t, watA w, .agg (cEt e)] (.tup [watA (applyR t w e).1, .im 2 ((applyR t w e).2.1.map cDel), AI (applyR t w e).2.2]) := by
  have hV := gvalidW_spec t ht w hw
  rw [applyR_eq]
  by_cases hv : wvalE t w = 0
  rotate_left
  · rw [if_pos hv]
    exact gApplyV_spec t w e.kind e.idx e.ty e.fr e.to _ hv hV
  rw [if_neg (Decidable.not_not.2 hv)]
  rw [hv] at hV
  have hgv : GV w.g := (matsE_zero (wval_zero hv).1).1
  obtain ⟨og, og1, og2⟩ := gv_small hgv
  have hE1 := gedit_spec w.g og (by omega) e (t.nodes.map cNod).length (t.edges.map cEdg).length
  have e0 : editE w.g e ((t.nodes.map cNod).length : Nat) ((t.edges.map cEdg).length : Nat) = edtE t w.g e := by rw [List.length_map, List.length_map]
  rw [e0] at hE1
  unfold applyB
  by_cases he : edtE t w.g e = 0
  rotate_left
  · rw [if_pos he]
    exact gApplyX_spec t w e.kind e.idx e.ty e.fr e.to _ he hV hE1
  rw [if_neg (Decidable.not_not.2 he)]
  rw [he] at hE1
  have hE := edOk ht hv he
  have h5 := hE.hl
  have hG := gGraph_spec t w.g hgv e he
  have hb : t.nodes.length ≤ 100 ∧ t.edges.length ≤ 100 := ⟨by have := ht.nodes; omega, by have := ht.edges; omega⟩
  have hgv' : GV (ediG w.g e) := (validS_zero hE.hv0).2.2.1
  have hN := gnew_spec t ht w.ps (ediG w.g e) w.inj hw.ps hw.pl (gv_small hgv').1
  unfold newR at hN
  by_cases hM : matsE t w.ps (ediG w.g e) w.inj = 0
  rotate_left
  · rw [if_pos hM] at hN ⊢
    exact gApplyN_spec t w e.kind e.idx e.ty e.fr e.to _ (ediG w.g e) hM hV hE1 hG hN
  · rw [if_neg (Decidable.not_not.2 hM)] at hN ⊢
    have hall := allR_facts hM
    have hgl : (ediG w.g e).nodes.length ≤ 1000000 ∧ (ediG w.g e).edges.length ≤ 1000000 := by
      have h1 := hgv'.nl
      have h2 := hgv'.el
      omega
    have hkk := edit_kind he
    obtain ⟨e0', he0⟩ : ∃ e0', e = e0' := ⟨_, rfl⟩
    obtain ⟨ps, g, inj, ms⟩ := w
    obtain ⟨k, i, ty, fr, to⟩ := e
    simp only at *
    change Pure _ _ [grA g, .agg [AI k, AI i, AI ty, AI fr, AI to], _, _] _ at hE1
    rcases hkk with ⟨hk, a, b⟩ | ⟨hk, a, b, c, d⟩ | ⟨hk, a, b⟩ | ⟨hk, a⟩
    all_goals (clear he0; try simp only at hk)
    · subst hk
      have e1 : ediG g (⟨1, i, ty, fr, to⟩ : Edt) = ⟨g.nodes ++ [ty], g.edges⟩ := rfl
      have el : lastZ (ediG g (⟨1, i, ty, fr, to⟩ : Edt)) false = g.nodes.length := by rw [e1]; simp [lastZ]
      have hz : (((rowI (ediG g (⟨1, i, ty, fr, to⟩ : Edt)).nodes).length : Int) - 1) = lastZ (ediG g (⟨1, i, ty, fr, to⟩ : Edt)) false := by simp [lastZ]
      have h := gApply1_spec t ⟨ps, g, inj, ms⟩ i ty fr to (ediG g (⟨1, i, ty, fr, to⟩ : Edt)) (matsL t ps (ediG g (⟨1, i, ty, fr, to⟩ : Edt)) inj) (ps.map fun p => freM t p (ediG g (⟨1, i, ty, fr, to⟩ : Edt)) false inj) h5 hgl (by simp) hV hE1 hG hN (fun j hj => by
        have hp := List.getElem?_eq_getElem (l := ps) hj
        generalize ps[j] = p at hp
        obtain ⟨m1, m2, m3⟩ := hall p (List.mem_of_getElem? hp)
        refine ⟨matL (seaA t p (ediG g (⟨1, i, ty, fr, to⟩ : Edt)) inj), _, by unfold matsL; rw [List.getElem?_map, hp, ← m2]; rfl, by rw [List.getElem?_map, hp]; rfl, ?_⟩
        rw [hz]
        exact with_spec _ (by omega) (fun x hx => mat_mob m1 hx) false _)
      have e2 : (ps.map fun p => freM t p (ediG g (⟨1, i, ty, fr, to⟩ : Edt)) false inj).map cDelN = (ps.map (delR t g (⟨1, i, ty, fr, to⟩ : Edt) inj)).map cDel := by
        rw [List.map_map, List.map_map]
        refine List.map_congr_left fun p _ => ?_
        show cDelN (freM t p (ediG g (⟨1, i, ty, fr, to⟩ : Edt)) false inj) = cDel ((matL (seaA t p (ediG g (⟨1, i, ty, fr, to⟩ : Edt)) inj)).filter (hasN g.nodes.length), [])
        unfold freM
        rw [el]
        rfl
      rw [e2] at h
      exact h
    · subst hk
      have e1 : ediG g (⟨2, i, ty, fr, to⟩ : Edt) = ⟨g.nodes, g.edges ++ [⟨ty, fr, to⟩]⟩ := rfl
      have el : lastZ (ediG g (⟨2, i, ty, fr, to⟩ : Edt)) true = g.edges.length := by rw [e1]; simp [lastZ]
      have hz : ((((ediG g (⟨2, i, ty, fr, to⟩ : Edt)).edges.map cEd).length : Int) - 1) = lastZ (ediG g (⟨2, i, ty, fr, to⟩ : Edt)) true := by simp [lastZ]
      have h := gApply2_spec t ⟨ps, g, inj, ms⟩ i ty fr to (ediG g (⟨2, i, ty, fr, to⟩ : Edt)) (matsL t ps (ediG g (⟨2, i, ty, fr, to⟩ : Edt)) inj) (ps.map fun p => freM t p (ediG g (⟨2, i, ty, fr, to⟩ : Edt)) true inj) h5 hgl (by simp) hV hE1 hG hN (fun j hj => by
        have hp := List.getElem?_eq_getElem (l := ps) hj
        generalize ps[j] = p at hp
        obtain ⟨m1, m2, m3⟩ := hall p (List.mem_of_getElem? hp)
        refine ⟨matL (seaA t p (ediG g (⟨2, i, ty, fr, to⟩ : Edt)) inj), _, by unfold matsL; rw [List.getElem?_map, hp, ← m2]; rfl, by rw [List.getElem?_map, hp]; rfl, ?_⟩
        rw [hz]
        exact with_spec _ (by omega) (fun x hx => mat_mob m1 hx) true _)
      have e2 : (ps.map fun p => freM t p (ediG g (⟨2, i, ty, fr, to⟩ : Edt)) true inj).map cDelN = (ps.map (delR t g (⟨2, i, ty, fr, to⟩ : Edt) inj)).map cDel := by
        rw [List.map_map, List.map_map]
        refine List.map_congr_left fun p _ => ?_
        show cDelN (freM t p (ediG g (⟨2, i, ty, fr, to⟩ : Edt)) true inj) = cDel ((matL (seaA t p (ediG g (⟨2, i, ty, fr, to⟩ : Edt)) inj)).filter (hasE g.edges.length), [])
        unfold freM
        rw [el]
        rfl
      rw [e2] at h
      exact h
    · subst hk
      have h := gApply3_spec t ⟨ps, g, inj, ms⟩ i ty fr to (ediG g (⟨3, i, ty, fr, to⟩ : Edt)) (matsL t ps (ediG g (⟨3, i, ty, fr, to⟩ : Edt)) inj) (ps.map fun p => (matL (seaA t p g inj)).filter (hasB false i)) h5 hgl (by simp) hV hE1 hG hN (fun j hj => by
        have hp := List.getElem?_eq_getElem (l := ps) hj
        generalize ps[j] = p at hp
        have hpm := List.mem_of_getElem? hp
        obtain ⟨v1, v2, v3⟩ := hE.hv p hpm
        have v4 : (matL (seaA t p g inj)).length ≤ 5000 := v3
        refine ⟨matL (seaA t p g inj), _, hE.ms j p hp, by rw [List.getElem?_map, hp]; rfl, ?_⟩
        exact with_spec _ (by omega) (fun x hx => mat_mob (validS_zero v1).2.1 hx) false _)
      have e2 : (ps.map fun p => (matL (seaA t p g inj)).filter (hasB false i)).map cDelG = (ps.map (delR t g (⟨3, i, ty, fr, to⟩ : Edt) inj)).map cDel := by
        rw [List.map_map, List.map_map]
        exact List.map_congr_left fun p _ => rfl
      rw [e2] at h
      exact h
    · subst hk
      have h := gApply4_spec t ⟨ps, g, inj, ms⟩ i ty fr to (ediG g (⟨4, i, ty, fr, to⟩ : Edt)) (matsL t ps (ediG g (⟨4, i, ty, fr, to⟩ : Edt)) inj) (ps.map fun p => (matL (seaA t p g inj)).filter (hasB true i)) h5 hgl (by simp) hV hE1 hG hN (fun j hj => by
        have hp := List.getElem?_eq_getElem (l := ps) hj
        generalize ps[j] = p at hp
        have hpm := List.mem_of_getElem? hp
        obtain ⟨v1, v2, v3⟩ := hE.hv p hpm
        have v4 : (matL (seaA t p g inj)).length ≤ 5000 := v3
        refine ⟨matL (seaA t p g inj), _, hE.ms j p hp, by rw [List.getElem?_map, hp]; rfl, ?_⟩
        exact with_spec _ (by omega) (fun x hx => mat_mob (validS_zero v1).2.1 hx) true _)
      have e2 : (ps.map fun p => (matL (seaA t p g inj)).filter (hasB true i)).map cDelG = (ps.map (delR t g (⟨4, i, ty, fr, to⟩ : Edt) inj)).map cDel := by
        rw [List.map_map, List.map_map]
        exact List.map_congr_left fun p _ => rfl
      rw [e2] at h
      exact h
end Go.Proofs.YtddohheabpiljaaGreat
end
