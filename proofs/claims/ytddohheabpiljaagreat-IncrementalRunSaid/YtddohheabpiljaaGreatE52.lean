/- Parts of a proof. -/
import Derived.Test.YtddohheabpiljaaGreatE50
set_option linter.unusedVariables false
set_option linter.unusedSimpArgs false
section
namespace Go.Proofs.YtddohheabpiljaaGreat
open Go.Sj Go.Sj.Typ Go.Sj.Sta Go.Sj.Inc
set_option maxRecDepth 8000
set_option maxHeartbeats 16000000
def runB (t : Tys) : Wat → List Edt → Nat → Wat × Int × Int
  | w, [], i => (w, i, 0)
  | w, e :: l, i => if (applyB t w e).2.2 ≠ 0 then (zeroW, i, (applyB t w e).2.2) else runB t (applyB t w e).1 l (i + 1)
def runR (t : Tys) (w : Wat) (l : List Edt) : Wat × Int × Int :=
  if wvalE t w ≠ 0 then (zeroW, 0, wvalE t w) else if 100 < l.length then (zeroW, 0, 3) else runB t w l 0
theorem applyB_valid {t : Tys} {w : Wat} {e : Edt} (h : (applyB t w e).2.2 = 0) : wvalE t (applyB t w e).1 = 0 := by
  unfold applyB at h ⊢
  split at h
  · rename_i h1; exact absurd h h1
  · rename_i h1
    rw [if_neg h1]
    split at h
    · rename_i h2; exact absurd h h2
    · rename_i h2
      rw [if_neg h2]
      unfold wvalE
      rw [if_neg h2, if_pos rfl]
theorem watOk_valid {t : Tys} {w : Wat} (h : wvalE t w = 0) : WatOk w ∧ GV w.g ∧ w.ps.length ≤ 5 ∧ (∀ p ∈ w.ps, GV p) ∧ w.ms.length = w.ps.length ∧ ∀ l ∈ w.ms, l.length ≤ 5000 := by
  obtain ⟨h1, h2⟩ := wval_zero h
  obtain ⟨hg, h5, hall⟩ := matsE_zero h1
  have hf := allR_facts h1
  have hml : w.ms.length = w.ps.length := by rw [h2]; unfold matsL; rw [List.length_map]
  have hms : ∀ l ∈ w.ms, l.length ≤ 5000 ∧ ∀ m ∈ l, MoB m := fun l hl => by
    rw [h2] at hl
    unfold matsL at hl
    obtain ⟨p, hp, rfl⟩ := List.mem_map.1 hl
    obtain ⟨q1, q2, q3⟩ := hf p hp
    rw [q2]
    exact ⟨q3, fun m hm => mat_mob q1 hm⟩
  exact ⟨⟨fun p hp => (gv_small (hf p hp).1).1, by omega, (gv_small hg).1, fun l hl => ⟨by have := (hms l hl).1; omega, (hms l hl).2⟩, by omega⟩, hg, h5, fun p hp => (hf p hp).1, hml, fun l hl => (hms l hl).1⟩
abbrev watC (w : Wat) : List AV := [grsA w.ps, ints w.g.nodes, edsA w.g.edges, AB w.inj, mssA w.ms]
abbrev edtsA (l : List Edt) : AV := .im 5 (l.map cEt)
theorem iRun_spec (t : Tys) (ht : Small t) (w : Wat) (hw : WatOk w) (l : List Edt) (hl : l.length ≤ 140737488355328) : Pure Tryz.prog 25 [tysA t, watA w, edtsA l] (.tup [watA (runR t w l).1, AI (runR t w l).2.1, AI (runR t w l).2.2]) := by
  have hV := ivalid_spec t ht w hw
  have ll : (l.map cEt).length = l.length := by simp
  have hap := fun w h e => iapply_spec t ht w h e
  have hav := fun w h => watOk_valid (t := t) (w := w) h
  unfold runR
  obtain ⟨ps, g, inj, ms⟩ := w
  obtain ⟨gn, ge⟩ := g
  have lms : (ms.map cMos).length = ms.length := by simp
  change Pure _ _ [tysA t, .agg [grsA ps, ints gn, edsA ge, AB inj, mssA ms]] _ at hV
  refine a_enterM (rs := [.cell 6 37, .tmp 7, .tmp 8]) tok Tryz.func25 (by kernel_rfl) rfl Tryz.ntmps25 rfl (by decide) (by simp) ?_
  refine a_seq ?_
  refine a_reg ?_
  repeat (first | refine gZ pk ?_ | (show AL _ _ _ _ _ _ _; first | refine jB (fun u => ?_) | refine jL tok (fun U6 => ?_)))
  refine a_frzBox 2 3 rfl rfl ?_
  refine a_frzBox 1 4 rfl rfl ?_
  by_cases hv : wvalE t ⟨ps, ⟨gn, ge⟩, inj, ms⟩ = 0
  rotate_left
  · rw [if_pos hv]
    generalize wvalE t ⟨ps, ⟨gn, ge⟩, inj, ms⟩ = c at *
    repeat (first | refine gV pk ?_ | (show AL _ _ _ _ _ _ _; first | refine jP hV ?_ | refine jS tok 0 ?_))
    refine a_frzBox 0 6 rfl rfl ?_
    refine a_ret ?_
    exact ⟨.inr rfl, _, _, [], rfl, Turn.of (Sub.tup (l := [.agg [nilS, nilS, nilS, AB false, nilS], AI 0, AI c]) (m := [watA ⟨[], ⟨[], []⟩, false, []⟩, AI 0, AI c]) ⟨Sub.agg (m := [grsA [], ints [], edsA [], AB false, mssA []]) ⟨Sub.nil 2, Sub.nil 1, Sub.nil 3, Sub.refl _, Sub.nil 1, trivial⟩, Sub.refl _, Sub.refl _, trivial⟩) (OSub.none _), rfl, rfl⟩
  rw [if_neg (Decidable.not_not.2 hv)]
  rw [hv] at hV
  by_cases h100 : 100 < l.length
  · rw [if_pos h100]
    repeat (first | refine gV pk ?_ | (show AL _ _ _ _ _ _ _; first | refine jP hV ?_ | refine jS tok 0 ?_))
    refine a_frzBox 0 6 rfl rfl ?_
    refine a_ret ?_
    exact ⟨.inr rfl, _, _, [], rfl, Turn.of (Sub.tup (l := [.agg [nilS, nilS, nilS, AB false, nilS], AI 0, AI 3]) (m := [watA ⟨[], ⟨[], []⟩, false, []⟩, AI 0, AI 3]) ⟨Sub.agg (m := [grsA [], ints [], edsA [], AB false, mssA []]) ⟨Sub.nil 2, Sub.nil 1, Sub.nil 3, Sub.refl _, Sub.nil 1, trivial⟩, Sub.refl _, Sub.refl _, trivial⟩) (OSub.none _), rfl, rfl⟩
  rw [if_neg h100]
  obtain ⟨ok, okg, ok5, okp, okm, okl⟩ := hav _ hv
  have hpo : ∀ p ∈ ps, p.nodes.length ≤ 1000 ∧ p.edges.length ≤ 1000 := fun p hp => (gv_small (okp p hp)).2
  have ok5 : ps.length ≤ 5 := ok5
  have okm : ms.length = ps.length := okm
  have s1 := ipatterns_spec ps hpo (by omega)
  have s2 := icopied_spec ⟨gn, ge⟩ (gv_small okg).2.1 (gv_small okg).2.2
  change Pure _ _ [.agg [ints gn, edsA ge]] (.agg [ints gn, edsA ge]) at s2
  have hmm : ∀ m ∈ ms, m.length ≤ 5000 ∧ ∀ x ∈ m, MoB x := fun m hm => ⟨okl m hm, (ok.ms m hm).2⟩
  obtain ⟨R, hR⟩ : ∃ R, runB t ⟨ps, ⟨gn, ge⟩, inj, ms⟩ l 0 = R := ⟨_, rfl⟩
  rw [hR]
  repeat (first | refine gN pk ?_ | (show AL _ _ _ _ _ _ _; first | refine jP hV ?_))
  refine AWp.mono (Q := fun e st L => e = .normal ∧ ∃ ub, GoTo 78 st L (lk [(2, edtsA l), (3, tysP t), (4, .ip [grsA ps, ints gn, edsA ge, AB inj, mssA ms]), (6, .pt U6 0 0 0), (10, .pt ub 0 0 0)]) [(ub, OB.box [grsA ps, ints gn, edsA ge, AB inj, nilS]), (U6, OB.box [nilS, nilS, nilS, AB false, nilS])]) ?_ (fun e st L h => ?_)
  · refine a_regG ((List.range 11).map fun i => if inL [2, 5, 9, 10] i = true then .eff else if inL [1, 4, 7] i = true then .read else .pure) [2, 5, 9] [0, 1, 3, 4, 6, 7] (.nd 2 [] (.nd 5 [8] (.nd 9 [10] .stop .stop) (.nd 9 [] (.nd 5 [8, 10] .stop .stop) .stop)) (.nd 9 [] (.nd 2 [] (.nd 5 [8, 10] .stop .stop) .stop) .stop)) mixed rfl rfl (by decide +kernel) ?_
    repeat' (first | (with_reducible show AG _ _ _ _ _ _ _ _ _ _; first | exact ag_none | refine ag_stop ?_ | refine ag_nd ?_ ?_) | (show AMid _ _ _ _; first | refine amid_f ?_ | refine amid_g (by first | exact OSub.refl _ | exact .drop (OSub.refl _) | exact .drop (.drop (OSub.refl _))) ?_) | refine gY pk ?_ | (show AL _ _ _ _ _ _ _; first | refine jP s1 ?_ | refine jP s2 ?_ | refine jL tok (fun ub => ?_) | refine jS tok 0 ?_) | fail)
    all_goals exact ⟨rfl, _, .sub (by exact subQ) (OSub.refl _)⟩
  obtain ⟨rfl, ub, h⟩ := h
  refine a_goto h ?_
  clear h
  repeat (first | refine gA pk ?_)
  rw [lms]
  refine a_loopG2 (fun (i : Nat) (vm : Value) => [(2, edtsA l), (3, tysP t), (6, .pt U6 0 0 0), (10, .pt ub 0 0 0), (39, mssA ms), (40, AI ms.length), (41, AI i)]) (fun i vm => [(ub, OB.box [grsA ps, ints gn, edsA ge, AB inj, .lit vm]), (vm, OB.row 70 1 ((ms.take i).map cMos)), (U6, OB.box [nilS, nilS, nilS, AB false, nilS])]) (fun i _ => i ≤ ms.length) (fun i _ => ms.length - i) 0 (.slice none 0 0) (Nat.zero_le _) (.sub (by exact subQ) (.keep (.free (OSub.refl _)))) ?_
  intro i vm hi
  rcases Nat.lt_or_ge i ms.length with h | h
  · have h1 := List.getElem?_eq_getElem h
    obtain ⟨b1, b2⟩ := hmm _ (List.getElem_mem h)
    generalize ms[i] = m at h1 b1 b2
    have s3 := iown_spec m b2 (by omega)
    have hset : (ms.take (i + 1)).map cMos = (ms.take i).map cMos ++ [[mosA m]] := by rw [List.take_add_one, h1]; simp
    have lP : ((ms.take i).map cMos).length = i := by rw [List.length_map, List.length_take]; omega
    have xk : (ms.map cMos)[(i : Int).toNat]? = some [mosA m] := map_get (f := cMos) h1
    repeat (first | refine gN pk ?_ | (show AL _ _ _ _ _ _ _; first | refine jX tok xk ?_))
    refine a_regG ((List.range 8).map fun i => if inL [3, 4, 5, 7] i = true then .eff else if inL [1] i = true then .read else .pure) [3, 4] [0, 1, 2] (.nd 3 [] (.nd 4 [5, 6, 7] .stop .stop) .stop) mixed rfl rfl (by decide +kernel) ?_
    repeat' (first | (with_reducible show AG _ _ _ _ _ _ _ _ _ _; first | exact ag_none | refine ag_stop ?_ | refine ag_nd ?_ ?_) | (show AMid _ _ _ _; first | refine amid_f ?_ | refine amid_g (by first | exact OSub.refl _ | exact .drop (OSub.refl _) | exact .drop (.drop (OSub.refl _))) ?_) | refine gY pk ?_ | (show AL _ _ _ _ _ _ _; first | refine jO tok 0 ?_ | refine jP s3 ?_ | refine s_build1M tok rfl rfl rfl rfl rfl rfl rfl (fun lv => ?_) | refine s_append1K tok 1 rfl rfl rfl rfl rfl rfl (by decide) rfl rfl rfl rfl (by omega) (by omega) (fun w hw => ?_) | refine s_storeB tok 0 rfl rfl rfl rfl rfl rfl rfl hw rfl (Nat.le_of_ble_eq_true rfl) rfl ?_) | fail)
    all_goals
      repeat (first | refine gA pk ?_)
      exact ⟨i + 1, w, by omega, by omega, .sub (by exact subQ) (by rw [hset]; exact OSub.refl _)⟩
  obtain rfl : i = ms.length := by omega
  rw [List.take_length]
  refine a_goto (GoTo.freeze 1 rfl (FZS.refl _) [(ub, OB.box [grsA ps, ints gn, edsA ge, AB inj, mssA ms]), (U6, OB.box [nilS, nilS, nilS, AB false, nilS])] (fzo_box ⟨FZ.refl _, FZ.refl _, FZ.refl _, FZ.refl _, FZ.here, trivial⟩ (fzo_box (FZL.refl _) trivial))) ?_
  repeat (first | refine gA pk ?_)
  rw [ll]
  refine a_loopX (fun x : Nat × Wat => [(2, edtsA l), (3, tysP t), (6, .pt U6 0 0 0), (10, .pt ub 0 0 0), (53, edtsA l), (54, AI l.length), (55, AI x.1)]) (fun x => [(ub, .box (watC x.2)), (U6, .box [nilS, nilS, nilS, AB false, nilS])]) (fun x => x.1 ≤ l.length ∧ wvalE t x.2 = 0 ∧ runB t x.2 (l.drop x.1) x.1 = R) (fun x => l.length - x.1) (0, ⟨ps, ⟨gn, ge⟩, inj, ms⟩) ⟨Nat.zero_le _, hv, hR⟩ ?_ (OSub.refl _) ?_
  · exact subQ
  clear hR s1 s2 hV hv hmm hpo ok okg ok5 okp okm okl
  rintro ⟨i, wc⟩ ⟨k1, k2, k3⟩
  simp only at k1 k2 k3
  dsimp only
  rcases Nat.lt_or_ge i l.length with h | h
  · have h1 := List.getElem?_eq_getElem h
    rw [List.drop_eq_getElem_cons h] at k3
    generalize l[i] = e at h1 k3
    rw [runB] at k3
    have s4 := hap wc k2 e
    have hnv := applyB_valid (t := t) (w := wc) (e := e)
    have xk0 : (l.map cEt)[(i : Int).toNat]? = some (cEt e) := map_get (f := cEt) h1
    generalize applyB t wc e = r at *
    obtain ⟨⟨rp, ⟨rn, re⟩, ri, rm⟩, rd, rc⟩ := r
    obtain ⟨wp, ⟨wn, we⟩, wi, wm⟩ := wc
    obtain ⟨ek, ei, et, ef, eo⟩ := e
    simp only at k3 hnv
    have xk : (l.map cEt)[(i : Int).toNat]? = some [AI ek, AI ei, AI et, AI ef, AI eo] := xk0
    change Pure _ _ [tysA t, .agg [grsA wp, ints wn, edsA we, AB wi, mssA wm], .agg [AI ek, AI ei, AI et, AI ef, AI eo]] (.tup [.agg [grsA rp, ints rn, edsA re, AB ri, mssA rm], .im 2 (rd.map cDel), AI rc]) at s4
    show AWp _ _ _ _ _ [(ub, .box [grsA wp, ints wn, edsA we, AB wi, mssA wm]), (U6, .box [nilS, nilS, nilS, AB false, nilS])]
    by_cases hc : rc = 0
    · subst hc
      rw [if_neg (by decide)] at k3
      repeat (first | refine gA pk ?_ | (show AL _ _ _ _ _ _ _; first | refine jX tok xk ?_ | refine jL tok (fun ux => ?_) | refine jO tok 0 ?_ | refine jO tok 1 ?_ | refine jP s4 ?_ | refine jS tok 0 ?_ | refine jS tok 2 ?_))
      exact ⟨(i + 1, ⟨rp, ⟨rn, re⟩, ri, rm⟩), ⟨by show i + 1 ≤ l.length; omega, hnv rfl, k3⟩, by show l.length - (i + 1) < l.length - i; omega, by exact subQ, .drop (.drop (OSub.refl _))⟩
    · rw [if_pos hc] at k3
      subst k3
      repeat (first | refine gV pk ?_ | (show AL _ _ _ _ _ _ _; first | refine jX tok xk ?_ | refine jL tok (fun ux => ?_) | refine jO tok 0 ?_ | refine jO tok 1 ?_ | refine jP s4 ?_ | refine jS tok 0 ?_ | refine jS tok 3 ?_))
      refine a_frzBox 3 6 rfl rfl ?_
      refine a_ret ?_
      exact ⟨.inr rfl, _, _, [], rfl, Turn.of (Sub.tup (l := [.agg [nilS, nilS, nilS, AB false, nilS], AI i, AI rc]) (m := [watA ⟨[], ⟨[], []⟩, false, []⟩, AI i, AI rc]) ⟨Sub.agg (m := [grsA [], ints [], edsA [], AB false, mssA []]) ⟨Sub.nil 2, Sub.nil 1, Sub.nil 3, Sub.refl _, Sub.nil 1, trivial⟩, Sub.refl _, Sub.refl _, trivial⟩) (OSub.none _), rfl, rfl⟩
  · obtain rfl : i = l.length := by omega
    rw [List.drop_length, runB] at k3
    subst k3
    obtain ⟨wp, ⟨wn, we⟩, wi, wm⟩ := wc
    show AWp _ _ _ _ _ [(ub, .box [grsA wp, ints wn, edsA we, AB wi, mssA wm]), (U6, .box [nilS, nilS, nilS, AB false, nilS])]
    repeat (first | refine gV pk ?_ | (show AL _ _ _ _ _ _ _; first | refine jO tok 0 ?_ | refine jS tok 1 ?_))
    refine a_frzBox 1 6 rfl rfl ?_
    refine a_ret ?_
    rw [ll]
    exact ⟨.inr rfl, _, _, [], rfl, Turn.of (Sub.refl _) (OSub.none _), rfl, rfl⟩
theorem gRun_spec (t : Tys) (ht : Small t) (w : Wat) (hw : WatOk w) (l : List Edt) (hl : l.length ≤ 140737488355328) : Pure Tryz.prog 26 [tysA t, watA w, edtsA l] (.tup [watA (runR t w l).1, AI (runR t w l).2.1, AI (runR t w l).2.2]) := by
  have hV := gvalidW_spec t ht w hw
  have ll : (l.map cEt).length = l.length := by simp
  have hap := fun w h e => gApplyF_spec t ht w h e
  have hav := fun w h => watOk_valid (t := t) (w := w) h
  unfold runR
  obtain ⟨ps, g, inj, ms⟩ := w
  obtain ⟨gn, ge⟩ := g
  change Pure _ _ [tysA t, .agg [grsA ps, ints gn, edsA ge, AB inj, mssA ms]] _ at hV
  refine a_enterM (rs := [.cell 6 37, .tmp 7, .tmp 8]) tok Tryz.func26 (by kernel_rfl) rfl Tryz.ntmps26 rfl (by decide) (by simp) ?_
  refine a_seq ?_
  refine a_reg ?_
  repeat (first | refine gZ pk ?_ | (show AL _ _ _ _ _ _ _; first | refine jB (fun u => ?_) | refine jL tok (fun U6 => ?_)))
  refine a_frzBox 2 3 rfl rfl ?_
  by_cases hv : wvalE t ⟨ps, ⟨gn, ge⟩, inj, ms⟩ = 0
  rotate_left
  · rw [if_pos hv]
    generalize wvalE t ⟨ps, ⟨gn, ge⟩, inj, ms⟩ = c at *
    repeat (first | refine gV pk ?_ | (show AL _ _ _ _ _ _ _; first | refine jO tok 1 ?_ | refine jP hV ?_ | refine jS tok 0 ?_))
    refine a_frzBox 0 6 rfl rfl ?_
    refine a_ret ?_
    exact ⟨.inr rfl, _, _, [], rfl, Turn.of (Sub.tup (l := [.agg [nilS, nilS, nilS, AB false, nilS], AI 0, AI c]) (m := [watA ⟨[], ⟨[], []⟩, false, []⟩, AI 0, AI c]) ⟨Sub.agg (m := [grsA [], ints [], edsA [], AB false, mssA []]) ⟨Sub.nil 2, Sub.nil 1, Sub.nil 3, Sub.refl _, Sub.nil 1, trivial⟩, Sub.refl _, Sub.refl _, trivial⟩) (OSub.none _), rfl, rfl⟩
  rw [if_neg (Decidable.not_not.2 hv)]
  rw [hv] at hV
  by_cases h100 : 100 < l.length
  · rw [if_pos h100]
    repeat (first | refine gV pk ?_ | (show AL _ _ _ _ _ _ _; first | refine jO tok 1 ?_ | refine jP hV ?_ | refine jS tok 0 ?_))
    refine a_frzBox 0 6 rfl rfl ?_
    refine a_ret ?_
    exact ⟨.inr rfl, _, _, [], rfl, Turn.of (Sub.tup (l := [.agg [nilS, nilS, nilS, AB false, nilS], AI 0, AI 3]) (m := [watA ⟨[], ⟨[], []⟩, false, []⟩, AI 0, AI 3]) ⟨Sub.agg (m := [grsA [], ints [], edsA [], AB false, mssA []]) ⟨Sub.nil 2, Sub.nil 1, Sub.nil 3, Sub.refl _, Sub.nil 1, trivial⟩, Sub.refl _, Sub.refl _, trivial⟩) (OSub.none _), rfl, rfl⟩
  rw [if_neg h100]
  obtain ⟨R, hR⟩ : ∃ R, runB t ⟨ps, ⟨gn, ge⟩, inj, ms⟩ l 0 = R := ⟨_, rfl⟩
  rw [hR]
  repeat (first | refine gA pk ?_ | (show AL _ _ _ _ _ _ _; first | refine jO tok 1 ?_ | refine jP hV ?_))
  refine a_loopX (fun x : Nat × Wat => [(2, edtsA l), (3, tysP t), (4, .pt u 0 0 0), (6, .pt U6 0 0 0), (10, AI x.1)]) (fun x => [(U6, .box [nilS, nilS, nilS, AB false, nilS]), (u, .box (watC x.2))]) (fun x => x.1 ≤ l.length ∧ wvalE t x.2 = 0 ∧ runB t x.2 (l.drop x.1) x.1 = R) (fun x => l.length - x.1) (0, ⟨ps, ⟨gn, ge⟩, inj, ms⟩) ⟨Nat.zero_le _, hv, hR⟩ ?_ (OSub.refl _) ?_
  · exact subQ
  clear hR hV hv
  rintro ⟨i, wc⟩ ⟨k1, k2, k3⟩
  simp only at k1 k2 k3
  dsimp only
  rcases Nat.lt_or_ge i l.length with h | h
  · have h1 := List.getElem?_eq_getElem h
    rw [List.drop_eq_getElem_cons h] at k3
    generalize l[i] = e at h1 k3
    rw [runB] at k3
    have s4 := hap wc (hav wc k2).1 e
    rw [applyR_eq, if_neg (Decidable.not_not.2 k2)] at s4
    have hnv := applyB_valid (t := t) (w := wc) (e := e)
    have xk0 : (l.map cEt)[(i : Int).toNat]? = some (cEt e) := map_get (f := cEt) h1
    generalize applyB t wc e = r at *
    obtain ⟨⟨rp, ⟨rn, re⟩, ri, rm⟩, rd, rc⟩ := r
    obtain ⟨wp, ⟨wn, we⟩, wi, wm⟩ := wc
    obtain ⟨ek, ei, et, ef, eo⟩ := e
    simp only at k3 hnv
    have xk : (l.map cEt)[(i : Int).toNat]? = some [AI ek, AI ei, AI et, AI ef, AI eo] := xk0
    change Pure _ _ [tysA t, .agg [grsA wp, ints wn, edsA we, AB wi, mssA wm], .agg [AI ek, AI ei, AI et, AI ef, AI eo]] (.tup [.agg [grsA rp, ints rn, edsA re, AB ri, mssA rm], .im 2 (rd.map cDel), AI rc]) at s4
    show AWp _ _ _ _ _ [(U6, .box [nilS, nilS, nilS, AB false, nilS]), (u, .box [grsA wp, ints wn, edsA we, AB wi, mssA wm])]
    refine a_seq ?_
    refine a_seq ?_
    refine a_reg ?_
    repeat (first | refine gY pk ?_)
    refine a_condT rfl ?_
    refine a_skip ?_
    refine a_seq ?_
    refine a_block ?_
    refine a_mid (fun st L => ∃ un, GoTo 51 st L (lk [(2, edtsA l), (3, tysP t), (4, .pt u 0 0 0), (6, .pt U6 0 0 0), (10, AI i), (11, .pt un 0 0 0), (13, AI rc)]) [(un, .box [grsA rp, ints rn, edsA re, AB ri, mssA rm]), (U6, .box [nilS, nilS, nilS, AB false, nilS]), (u, .box [grsA wp, ints wn, edsA we, AB wi, mssA wm])]) ?_ (fun st L h => ?_)
    · refine a_regG ((List.range 15).map fun i => if inL [6, 11, 12] i = true then .eff else if inL [0, 1, 4, 5] i = true then .read else .pure) [11] [0, 1, 2, 3, 4, 5] (.nd 6 [7, 8, 9, 10] (.nd 11 [12, 13, 14] .stop .stop) (.nd 11 [6, 7, 8, 9, 10, 12, 13, 14] .stop .stop)) mixed rfl rfl (by decide +kernel) ?_
      repeat' (first | (with_reducible show AG _ _ _ _ _ _ _ _ _ _; first | exact ag_none | refine ag_stop ?_ | refine ag_nd ?_ ?_) | (show AMid _ _ _ _; first | refine amid_f ?_ | refine amid_g (by first | exact OSub.refl _ | exact .drop (OSub.refl _) | exact .drop (.drop (OSub.refl _))) ?_) | refine gY pk ?_ | (show AL _ _ _ _ _ _ _; first | refine jO tok 1 ?_ | refine jO tok 2 ?_ | refine jX tok xk ?_ | refine jP s4 ?_ | refine jL tok (fun un => ?_) | refine jS tok 0 ?_) | fail)
      all_goals exact ⟨_, .sub (by exact subQ) (OSub.refl _)⟩
    obtain ⟨un, h⟩ := h
    refine a_goto h ?_
    by_cases hc : rc = 0
    · subst hc
      rw [if_neg (by decide)] at k3
      repeat (first | refine gA pk ?_ | (show AL _ _ _ _ _ _ _; first | refine jO tok 0 ?_ | refine jS tok 2 ?_))
      exact ⟨(i + 1, ⟨rp, ⟨rn, re⟩, ri, rm⟩), ⟨by show i + 1 ≤ l.length; omega, hnv rfl, k3⟩, by show l.length - (i + 1) < l.length - i; omega, by exact subQ, .drop (OSub.refl _)⟩
    · rw [if_pos hc] at k3
      subst k3
      repeat (first | refine gV pk ?_ | (show AL _ _ _ _ _ _ _; first | refine jS tok 1 ?_))
      refine a_frzBox 1 6 rfl rfl ?_
      refine a_ret ?_
      exact ⟨.inr rfl, _, _, [], rfl, Turn.of (Sub.tup (l := [.agg [nilS, nilS, nilS, AB false, nilS], AI i, AI rc]) (m := [watA ⟨[], ⟨[], []⟩, false, []⟩, AI i, AI rc]) ⟨Sub.agg (m := [grsA [], ints [], edsA [], AB false, mssA []]) ⟨Sub.nil 2, Sub.nil 1, Sub.nil 3, Sub.refl _, Sub.nil 1, trivial⟩, Sub.refl _, Sub.refl _, trivial⟩) (OSub.none _), rfl, rfl⟩
  · obtain rfl : i = l.length := by omega
    rw [List.drop_length, runB] at k3
    subst k3
    obtain ⟨wp, ⟨wn, we⟩, wi, wm⟩ := wc
    show AWp _ _ _ _ _ [(U6, .box [nilS, nilS, nilS, AB false, nilS]), (u, .box [grsA wp, ints wn, edsA we, AB wi, mssA wm])]
    repeat (first | refine gV pk ?_ | (show AL _ _ _ _ _ _ _; first | refine jO tok 1 ?_ | refine jS tok 0 ?_))
    refine a_frzBox 0 6 rfl rfl ?_
    refine a_ret ?_
    rw [ll]
    exact ⟨.inr rfl, _, _, [], rfl, Turn.of (Sub.refl _) (OSub.none _), rfl, rfl⟩
end Go.Proofs.YtddohheabpiljaaGreat
end
section
namespace Go.Proofs.YtddohheabpiljaaGreat
open Go.Sj Go.Sj.Typ Go.Sj.Sta Go.Sj.Inc
set_option maxRecDepth 8000
set_option maxHeartbeats 16000000
theorem same_valid {t : Tys} {w : Wat} (h : wvalE t w = 0) : Pure Tryz.prog 14 [watA w, watA w] (AB true) := by
  obtain ⟨ok, okg, ok5, okp, okm, okl⟩ := watOk_valid h
  have hn := okg.nl
  have he := okg.el
  exact gSameW_spec w ok.ms ok.ml (fun p hp => by
    have h1 := (okp p hp).nl
    have h2 := (okp p hp).el
    omega) (by omega) ⟨by omega, by omega⟩
theorem runB_same {t : Tys} : ∀ (l : List Edt) (w : Wat) (i : Nat), wvalE t w = 0 → Pure Tryz.prog 14 [watA (runB t w l i).1, watA (runB t w l i).1] (AB true)
  | [], w, i, h => same_valid h
  | e :: l, w, i, h => by
    rw [runB]
    split
    · exact same_zero
    · rename_i h2
      exact runB_same l _ _ (applyB_valid (Decidable.not_not.1 h2))
theorem runR_same (t : Tys) (w : Wat) (l : List Edt) : Pure Tryz.prog 14 [watA (runR t w l).1, watA (runR t w l).1] (AB true) := by
  unfold runR
  split
  · exact same_zero
  · rename_i h
    split
    · exact same_zero
    · exact runB_same l w 0 (Decidable.not_not.1 h)
theorem IncrementalRun_spec (t : Tys) (ht : OkT t) (w : Wat) (hw : OkW w) (l : List Edt) (hl : l.length ≤ 140737488355328) : Pure Tryz.prog 7 [wtdA t w, edtsA l] (AB true) := by
  have sa := awakeI_spec
  have sf := few20_spec t ht w hw
  have ll : (l.map cEt).length = l.length := by simp
  have lcell : (l.map cEt).all (fun e => e.all AV.cell) = true := List.all_eq_true.2 fun x hx => by
    obtain ⟨y, _, rfl⟩ := List.mem_map.1 hx
    rfl
  have ss := runR_same t w l
  have key : FewW t w → (Pure Tryz.prog 18 [watA w] (watA w)) ∧ (Pure Tryz.prog 25 [tysA t, watA w, edtsA l] (.tup [watA (runR t w l).1, AI (runR t w l).2.1, AI (runR t w l).2.2])) ∧ (Pure Tryz.prog 26 [tysA t, watA w, edtsA l] (.tup [watA (runR t w l).1, AI (runR t w l).2.1, AI (runR t w l).2.2])) := fun hf => by
    have hk := watOk_of hw hf
    have q1 := hf.pl
    have q2 := hf.ml
    have q3 := hf.gn
    have q4 := hf.ge
    exact ⟨copiedW_spec w (by omega) (fun p hp => by have := hf.ps p hp; omega) ⟨by omega, by omega⟩ (by omega) (fun l hl => by
      obtain ⟨h1, h2⟩ := hf.ms l hl
      exact ⟨by omega, fun m hm => by have := h2 m hm; omega⟩), iRun_spec t hf.sm w hk l hl, gRun_spec t hf.sm w hk l hl⟩
  generalize runR t w l = r at *
  obtain ⟨⟨rp, ⟨rn, re⟩, ri, rm⟩, rk, rc⟩ := r
  obtain ⟨wp, ⟨wn, we⟩, wi, wm⟩ := w
  obtain ⟨tn, te⟩ := t
  change Pure _ _ [.agg [nodsA tn, edgsA te, grsA wp, ints wn, edsA we, AB wi, mssA wm], edtsA l] _
  change Go.Sj.ACalls _ _ [.agg [nodsA tn, edgsA te], .agg [grsA wp, ints wn, edsA we, AB wi, mssA wm]] _ _ at sf
  change Pure _ _ [.agg [grsA rp, ints rn, edsA re, AB ri, mssA rm], .agg [grsA rp, ints rn, edsA re, AB ri, mssA rm]] _ at ss
  refine a_enter Tryz.func7 (by kernel_rfl) rfl Tryz.ntmps7 rfl (by simp) ?_
  refine a_seq ?_
  refine a_reg ?_
  repeat (first | refine gZ pk ?_ | (show AL _ _ _ _ _ _ _; first | refine jB (fun u => ?_)))
  refine a_frzBox 0 2 rfl rfl ?_
  repeat (first | refine gN pk ?_ | (show AL _ _ _ _ _ _ _; first | refine jP sa ?_ | refine s_call (Lc := []) (Lr := []) rfl rfl rfl rfl rfl sf (SubL.of_eq rfl) (List.Perm.refl _) ?_; rintro _ _ ⟨⟨b1, rfl, hb1⟩, rfl⟩))
  cases b1 with
  | false =>
    repeat (first | refine gA pk ?_ | (show AL _ _ _ _ _ _ _; first | refine jP sa ?_))
    refine finQ ?_
    exact ⟨rfl, rfl⟩
  | true =>
  by_cases hA : 8 < l.length ∧ l.length ≤ 100
  · obtain ⟨hA1, hA2⟩ := hA
    repeat (first | refine gA pk ?_ | (show AL _ _ _ _ _ _ _; first | refine jP sa ?_))
    refine finQ ?_
    exact ⟨rfl, rfl⟩
  by_cases hB : 110 < l.length
  · repeat (first | refine gA pk ?_ | (show AL _ _ _ _ _ _ _; first | refine jP sa ?_))
    refine finQ ?_
    exact ⟨rfl, rfl⟩
  obtain ⟨sc, si, sg⟩ := key (hb1 rfl)
  change Pure _ _ [.agg [grsA wp, ints wn, edsA we, AB wi, mssA wm]] (.agg [grsA wp, ints wn, edsA we, AB wi, mssA wm]) at sc
  change Pure _ _ [.agg [nodsA tn, edgsA te], .agg [grsA wp, ints wn, edsA we, AB wi, mssA wm], edtsA l] (.tup [.agg [grsA rp, ints rn, edsA re, AB ri, mssA rm], AI rk, AI rc]) at si sg
  have hlen : l.length ≤ 8 ∨ (100 < l.length ∧ l.length ≤ 110) := by omega
  rcases hlen with hlen | ⟨hlen, hlen2⟩
  all_goals
    repeat (first | refine gN pk ?_)
    refine AWp.mono (Q := fun e st L => e = .normal ∧ ∃ ux, GoTo 73 st L (lk [(1, edtsA l), (2, .ip [nodsA tn, edgsA te, grsA wp, ints wn, edsA we, AB wi, mssA wm]), (5, .pt ux 0 0 0), (6, AI rk), (7, AI rc)]) [(ux, .box [grsA rp, ints rn, edsA re, AB ri, mssA rm])]) ?_ (fun e st L h => ?_)
    · refine a_regXP [0, 1, 2, 3, 6] (.nd [4] (.nd [5] (.nd [7] (.nd [8, 9, 10, 11, 12, 13, 14, 15, 16] .stop (.nd [13, 8, 9, 10, 11, 12, 14, 15, 16] .stop .stop)) (.nd [13, 7, 8, 9, 10, 11, 12, 14, 15, 16] .stop .stop)) (.nd [13, 5, 7, 8, 9, 10, 11, 12, 14, 15, 16] .stop .stop)) (.nd [5] (.nd [4] (.nd [7] (.nd [8, 9, 10, 11, 12, 13, 14, 15, 16] .stop (.nd [13, 8, 9, 10, 11, 12, 14, 15, 16] .stop .stop)) (.nd [13, 7, 8, 9, 10, 11, 12, 14, 15, 16] .stop .stop)) (.nd [13, 4, 7, 8, 9, 10, 11, 12, 14, 15, 16] .stop .stop)) (.nd [13] (.nd [4, 5, 7, 8, 9, 10, 11, 12, 14, 15, 16] .stop (.nd [5, 4, 7, 8, 9, 10, 11, 12, 14, 15, 16] .stop .stop)) .stop))) mixed rfl rfl (by decide +kernel) ?_
      repeat' (first | (with_reducible show AX _ _ _ _ _ _ _ _ _; first | exact ax_none | refine ax_stop ?_ | refine ax_nd ?_ ?_) | refine gY pk ?_ | (show AL _ _ _ _ _ _ _; first | refine jP sc ?_ | refine s_build tok (parts := []) rfl rfl rfl rfl rfl rfl rfl rfl (by decide) (by decide) (fun v => ?_) | refine s_appendImF tok 0 rfl rfl rfl rfl rfl rfl (by decide) rfl rfl rfl rfl lcell (by simp only [ll, List.length_nil]; omega) (by simp only [ll, List.length_nil]; omega) ?_ | refine s_appendImF tok 1 rfl rfl rfl rfl rfl rfl (by decide) rfl rfl rfl rfl lcell (by simp only [ll, List.length_nil]; omega) (by simp only [ll, List.length_nil]; omega) ?_ | refine jP si ?_ | refine jL tok (fun ux => ?_) | refine jS tok 0 ?_ | refine jS tok 1 ?_) | fail)
      all_goals exact ⟨rfl, _, .sub (by exact subQ) (OSub.refl _)⟩
    obtain ⟨rfl, ux, h⟩ := h
    refine a_goto h ?_
    clear h
    repeat (first | refine gA pk ?_ | (show AL _ _ _ _ _ _ _; first | refine jP sg ?_ | refine jL tok (fun uy => ?_) | refine jS tok 0 ?_ | refine jO tok 0 ?_ | refine jO tok 1 ?_ | refine jP ss ?_))
    refine finQ ?_
    exact ⟨rfl, rfl⟩
abbrev REdt := Int × Int × Int × Int × Int × Unit
def toEdt (x : REdt) : Edt := ⟨x.1, x.2.1, x.2.2.1, x.2.2.2.1, x.2.2.2.2.1⟩
def gEdt (x : REdt) : List AV := [.lit (.int .i64 x.1)] ++ ([.lit (.int .i64 x.2.1)] ++ ([.lit (.int .i64 x.2.2.1)] ++ ([.lit (.int .i64 x.2.2.2.1)] ++ ([.lit (.int .i64 x.2.2.2.2.1)] ++ []))))
theorem edts_vr {σ : Hp} {v : Value} {x : List REdt} (h : VR σ (.im 5 (x.map gEdt)) v) : VR σ (edtsA (x.map toEdt)) v := by
  have e : x.map gEdt = (x.map toEdt).map cEt := by
    rw [List.map_map]
    rfl
  rw [e] at h
  exact h
theorem edts_ok {x : List REdt} {q : Prop} (h : q ∧ x.length ≤ reachBytes) : (x.map toEdt).length ≤ 140737488355328 := by
  have h2 := h.2
  unfold reachBytes at h2
  rw [List.length_map]
  omega
end Go.Proofs.YtddohheabpiljaaGreat
end
