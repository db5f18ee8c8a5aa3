/- Parts of a proof. -/
import Derived.Test.YtddohheabpiljaaGreatU45
set_option linter.unusedVariables false
set_option linter.unusedSimpArgs false
section
namespace Go.Proofs.YtddohheabpiljaaGreat
open Go.Sj Go.Sj.Typ Go.Sj.Sta Go.Sj.Inc
set_option maxRecDepth 8000
set_option maxHeartbeats 16000000
def cDelN (n : List Mo) : List AV := [mosA n, mosA []]
structure AddJ (t : Tys) (w : Wat) (g' : Gr) (edge : Bool) (Ns Rs : List (List Mo)) (j : Nat) (p : Gr) : Prop where
  ex : ∃ n m r, Ns[j]? = some n ∧ w.ms[j]? = some m ∧ Rs[j]? = some r ∧ n.length + m.length ≤ 5000 ∧ r.length ≤ 1000000 ∧ (∀ x ∈ n, MoB x) ∧ (∀ x ∈ r, MoB x) ∧
    Pure Tryz.prog 66 [tysA t, grA p, grA g', AB edge, AB w.inj] (.tup [mosA n, AI 0]) ∧
    Gives Tryz.prog 67 [mosA m, mosA n] 95 2 (r.map cMo)
theorem iapplyA_spec (t : Tys) (ht : Small t) (w : Wat) (k i ty fr to : Int) (edge : Bool) (hk : (k = 1 ∧ edge = false) ∨ (k = 2 ∧ edge = true)) (g' : Gr) (Ns Rs : List (List Mo))
    (hps : w.ps.length ≤ 5) (hpl : ∀ p ∈ w.ps, p.nodes.length ≤ 1000 ∧ p.edges.length ≤ 1000) (hms : w.ms.length = w.ps.length) (hRs : Rs.length = w.ps.length) (hNs : Ns.length = w.ps.length)
    (hE : Pure Tryz.prog 54 [grA w.g, .agg [AI k, AI i, AI ty, AI fr, AI to], AI (t.nodes.map cNod).length, AI (t.edges.map cEdg).length] (AI 0))
    (hG : Pure Tryz.prog 64 [grA w.g, .agg [AI k, AI i, AI ty, AI fr, AI to]] (grA g'))
    (hj : ∀ (j : Nat) (p : Gr), w.ps[j]? = some p → AddJ t w g' edge Ns Rs j p) :
    Pure Tryz.prog 44 [tysA t, watA w, .agg [AI k, AI i, AI ty, AI fr, AI to]] (.tup [watA ⟨w.ps, g', w.inj, Rs⟩, .im 2 (Ns.map cDelN), AI 0]) := by
  have s1 := ipatterns_spec w.ps hpl (by omega)
  obtain ⟨ps, g, inj, ms⟩ := w
  simp only at *
  obtain ⟨gn, ge⟩ := g
  obtain ⟨gn', ge'⟩ := g'
  have lps : (ps.map cGr).length = ps.length := by simp
  change Pure _ _ [.agg [ints gn, edsA ge], .agg [AI k, AI i, AI ty, AI fr, AI to], _, _] _ at hE
  change Pure _ _ [.agg [ints gn, edsA ge], .agg [AI k, AI i, AI ty, AI fr, AI to]] (.agg [ints gn', edsA ge']) at hG
  refine a_enterM (rs := [.cell 6 37, .tmp 7, .tmp 8]) tok Tryz.func44 (by kernel_rfl) rfl Tryz.ntmps44 rfl (by decide) (by simp) ?_
  refine a_seq ?_
  refine a_reg ?_
  repeat (first | refine gZ pk ?_ | (show AL _ _ _ _ _ _ _; first | refine jB (fun u => ?_) | refine jL tok (fun U6 => ?_)))
  refine zfb 3 3 rfl rfl ?_
  refine zfb 2 4 rfl rfl ?_
  refine zfb 1 5 rfl rfl ?_
  repeat (first | refine gN pk ?_ | (show AL _ _ _ _ _ _ _; first | refine jP hE ?_))
  refine AWp.mono (Q := fun e st L => e = .normal ∧ ∃ ub, GoTo 116 st L (lk [(3, tysP t), (4, .ip [grsA ps, ints gn, edsA ge, AB inj, mssA ms]), (5, .ip [AI k, AI i, AI ty, AI fr, AI to]), (6, .pt U6 0 0 0), (10, .pt ub 0 0 0)]) [(ub, OB.box [grsA ps, ints gn', edsA ge', AB inj, nilS]), (U6, OB.box [nilS, nilS, nilS, AB false, nilS])]) ?_ (fun e st L h => ?_)
  · refine zrg ((List.range 12).map fun i => if inL [2, 6, 10, 11] i = true then .eff else .pure) [] [0, 1, 3, 4, 5, 7, 8] (.nd 2 [] (.nd 6 [9, 10, 11] .stop (.nd 10 [6, 9, 11] .stop .stop)) (.nd 10 [2, 6, 9, 11] .stop .stop)) mixed rfl rfl (by decide +kernel) ?_
    repeat' (first | (with_reducible show AG _ _ _ _ _ _ _ _ _ _; first | exact zgn | refine zgs ?_ | refine znd ?_ ?_) | (show AMid _ _ _ _; first | refine zmf ?_ | refine zmg (by first | exact OSub.refl _ | exact .drop (OSub.refl _) | exact .drop (.drop (OSub.refl _))) ?_) | refine gY pk ?_ | (show AL _ _ _ _ _ _ _; first | refine jP s1 ?_ | refine jP hG ?_ | refine jL tok (fun ub => ?_) | refine jS tok 0 ?_) | fail)
    all_goals exact ⟨rfl, _, .sub (by exact subQ) (OSub.refl _)⟩
  · obtain ⟨rfl, ub, h⟩ := h
    refine zgt h ?_
    clear h
    repeat (first | refine gA pk ?_)
    rw [lps]
    refine a_loopG3 (fun (j : Nat) (vm vd : Value) => [(3, tysP t), (4, .ip [grsA ps, ints gn, edsA ge, AB inj, mssA ms]), (5, .ip [AI k, AI i, AI ty, AI fr, AI to]), (6, .pt U6 0 0 0), (10, .pt ub 0 0 0), (11, .lit vd), (43, grsA ps), (44, AI ps.length), (45, AI j)]) (fun j vm vd => [(ub, OB.box [grsA ps, ints gn', edsA ge', AB inj, .lit vm]), (vm, OB.row 70 1 ((Rs.take j).map cMos)), (vd, OB.row 72 2 ((Ns.take j).map cDelN)), (U6, OB.box [nilS, nilS, nilS, AB false, nilS])]) (fun j _ _ => j ≤ ps.length) (fun j _ _ => ps.length - j) 0 (.slice none 0 0) (.slice none 0 0) (Nat.zero_le _) (.sub (by exact subQ) (.keep (.free (.free (OSub.refl _))))) ?_
    intro j vm vd hjl
    have lR : ((Rs.take j).map cMos).length = j := by rw [List.length_map, List.length_take]; omega
    have lN : ((Ns.take j).map cDelN).length = j := by rw [List.length_map, List.length_take]; omega
    rcases Nat.lt_or_ge j ps.length with h | h
    · have hp := List.getElem?_eq_getElem h
      obtain ⟨n, m, r, e1, e2, e3, e4, e5, e6, e7, hf, hm⟩ := (hj j _ hp).ex
      generalize ps[j] = p at hp hf
      have xk : (ps.map cGr)[(j : Int).toNat]? = some (cGr p) := zmp (f := cGr) hp
      have mk : (ms.map cMos)[(j : Int).toNat]? = some [mosA m] := zmp (f := cMos) e2
      have hR : (Rs.take (j + 1)).map cMos = (Rs.take j).map cMos ++ [[mosA r]] := by rw [List.take_add_one, e3]; simp
      have hN : (Ns.take (j + 1)).map cDelN = (Ns.take j).map cDelN ++ [[mosA n, mosA []]] := by rw [List.take_add_one, e1]; simp [cDelN]
      have s2 := iown_spec r e7 e5
      have s3 := iown_spec n e6 (by omega)
      have s4 := Pure.subA (iown_spec [] (by simp) (by simp)) (args' := [nilS]) ⟨Sub.nil 2, trivial⟩
      have hm1 := hm.pure
      have ln : (n.map cMo).length = n.length := by simp
      have lm : (m.map cMo).length = m.length := by simp
      have lms : (ms.map cMos).length = ms.length := by simp
      obtain ⟨pn, pe⟩ := p
      change Pure _ _ [tysA t, .agg [ints pn, edsA pe], .agg [ints gn', edsA ge'], AB edge, AB inj] _ at hf
      rcases hk with ⟨rfl, rfl⟩ | ⟨rfl, rfl⟩
      all_goals
        repeat (first | refine gN pk ?_ | (show AL _ _ _ _ _ _ _; first | refine jX tok xk ?_ | refine jX tok mk ?_ | refine jL tok (fun up => ?_) | refine jS tok 0 ?_ | refine jO tok 1 ?_ | refine jO tok 2 ?_ | refine jP hf ?_ | refine jP hm1 ?_ | refine jS tok 0 ?_))
        refine zfb 0 14 rfl rfl ?_
        refine zrg ((List.range 19).map fun i => if inL [3, 4, 5, 9, 12, 14, 15, 17] i = true then .eff else if inL [1] i = true then .read else .pure) [3, 4] [0, 1, 2, 6, 7, 8, 10, 11] (.nd 3 [] (.nd 4 [5, 16, 9, 12, 13, 14, 15, 17, 18] .stop .stop) .stop) mixed rfl rfl (by decide +kernel) ?_
        repeat' (first | (with_reducible show AG _ _ _ _ _ _ _ _ _ _; first | exact zgn | refine zgs ?_ | refine znd ?_ ?_) | (show AMid _ _ _ _; first | refine zmf ?_ | refine zmg (by first | exact OSub.refl _ | exact .drop (OSub.refl _) | exact .drop (.drop (OSub.refl _))) ?_) | refine gY pk ?_ | (show AL _ _ _ _ _ _ _; first | refine jO tok 1 ?_ | refine jP s2 ?_ | refine jP s3 ?_ | refine jP s4 ?_ | refine s_build1M tok rfl rfl rfl rfl rfl rfl rfl (fun lv => ?_) | refine zba tok rfl rfl rfl rfl rfl rfl rfl rfl (by decide) (fun lv => ?_) | refine zak tok 2 rfl rfl rfl rfl rfl rfl (by decide) rfl rfl rfl rfl (by omega) (by omega) (fun w1 hw1 => ?_) | refine zak tok 3 rfl rfl rfl rfl rfl rfl (by decide) rfl rfl rfl rfl (by omega) (by omega) (fun w2 hw2 => ?_) | refine zsb tok 1 rfl rfl rfl rfl rfl rfl rfl hw1 rfl (Nat.le_of_ble_eq_true rfl) rfl ?_) | fail)
        repeat (first | refine gA pk ?_)
        exact ⟨j + 1, w1, w2, by omega, by omega, .sub (by exact subQ) (by rw [hR, hN]; exact .drop (OSub.refl _))⟩
    · obtain rfl : j = ps.length := by omega
      rw [← hRs, List.take_length, hRs, ← hNs, List.take_length]
      have hr1 : ∀ x ∈ Rs.map cMos, x.length = 1 := fun x hx => by
        obtain ⟨y, _, rfl⟩ := List.mem_map.1 hx
        rfl
      have hr2 : ∀ x ∈ Ns.map cDelN, x.length = 2 := fun x hx => by
        obtain ⟨y, _, rfl⟩ := List.mem_map.1 hx
        rfl
      refine zgt (GoTo.freeze 1 rfl (FZS.refl _) [(ub, OB.box [grsA ps, ints gn', edsA ge', AB inj, mssA Rs]), (vd, OB.row 72 2 (Ns.map cDelN)), (U6, OB.box [nilS, nilS, nilS, AB false, nilS])] (zfo ⟨FZ.refl _, FZ.refl _, FZ.refl _, FZ.refl _, FZ.here, trivial⟩ (zfw hr2 (zfo (FZL.refl _) trivial)))) ?_
      refine a_frz 1 11 rfl rfl ?_
      refine zfb 0 10 rfl rfl ?_
      rw [hNs]
      repeat (first | refine gV pk ?_ | (show AL _ _ _ _ _ _ _; first | refine jS tok 0 ?_))
      refine zfb 0 6 rfl rfl ?_
      refine a_ret ?_
      exact ⟨.inr rfl, _, _, [], rfl, Turn.of (Sub.refl _) (OSub.none _), rfl, rfl⟩
theorem iApply_spec (t : Tys) (w v : Wat) (k i ty fr to : Int) (D : List (List AV))
    (hV : Pure Tryz.prog 15 [tysA t, watA w] (AI 0))
    (hA : Pure Tryz.prog 44 [tysA t, watA w, .agg [AI k, AI i, AI ty, AI fr, AI to]] (.tup [watA v, .im 2 D, AI 0])) :
    Pure Tryz.prog 17 [tysA t, watA w, .agg [AI k, AI i, AI ty, AI fr, AI to]] (.tup [watA v, .im 2 D, AI 0]) := by
  obtain ⟨ps, g, inj, ms⟩ := w
  obtain ⟨ps', g', inj', ms'⟩ := v
  refine a_enterM (rs := [.cell 6 37, .tmp 7, .tmp 8]) tok Tryz.func17 (by kernel_rfl) rfl Tryz.ntmps17 rfl (by decide) (by simp) ?_
  refine a_seq ?_
  refine a_reg ?_
  repeat (first | refine gZ pk ?_ | (show AL _ _ _ _ _ _ _; first | refine jB (fun u => ?_) | refine jL tok (fun U6 => ?_)))
  refine zfb 3 3 rfl rfl ?_
  refine zfb 2 4 rfl rfl ?_
  refine zfb 1 5 rfl rfl ?_
  repeat (first | refine gV pk ?_ | (show AL _ _ _ _ _ _ _; first | refine jP hV ?_ | refine jP hA ?_ | refine jS tok 0 ?_))
  refine zfb 0 6 rfl rfl ?_
  refine a_ret ?_
  exact ⟨.inr rfl, _, _, [], rfl, Turn.of (Sub.refl _) (OSub.none _), rfl, rfl⟩
end Go.Proofs.YtddohheabpiljaaGreat
end
section
namespace Go.Proofs.YtddohheabpiljaaGreat
open Go.Sj Go.Sj.Typ Go.Sj.Sta Go.Sj.Inc
set_option maxRecDepth 8000
set_option maxHeartbeats 16000000
structure AddE (t : Tys) (w : Wat) (g' : Gr) (edge : Bool) (j : Nat) (p : Gr) : Prop where
  ex : ∃ m, w.ms[j]? = some m ∧ m.length ≤ 1000000 ∧ ((Pure Tryz.prog 66 [tysA t, grA p, grA g', AB edge, AB w.inj] (.tup [mosA [], AI 3])) ∨
    ∃ n : List Mo, n.length ≤ 1000000 ∧ 5000 < n.length + m.length ∧ Pure Tryz.prog 66 [tysA t, grA p, grA g', AB edge, AB w.inj] (.tup [mosA n, AI 0]))
structure RemJ (w : Wat) (k i ty fr to : Int) (Gs Rs : List (List Mo)) (j : Nat) : Prop where
  ex : ∃ m r g, w.ms[j]? = some m ∧ Rs[j]? = some r ∧ Gs[j]? = some g ∧ r.length ≤ 1000000 ∧ g.length ≤ 1000000 ∧ (∀ x ∈ r, MoB x) ∧ (∀ x ∈ g, MoB x) ∧
    Pure Tryz.prog 65 [mosA m, .agg [AI k, AI i, AI ty, AI fr, AI to]] (.tup [mosA r, mosA g])
def cDelG (n : List Mo) : List AV := [mosA [], mosA n]
theorem iapplyAE_spec (t : Tys) (ht : Small t) (w : Wat) (k i ty fr to : Int) (edge : Bool) (hk : (k = 1 ∧ edge = false) ∨ (k = 2 ∧ edge = true)) (g' : Gr) (Ns Rs : List (List Mo))
    (hps : w.ps.length ≤ 5) (hpl : ∀ p ∈ w.ps, p.nodes.length ≤ 1000 ∧ p.edges.length ≤ 1000) (hms : w.ms.length = w.ps.length) (hRs : Rs.length = w.ps.length) (hNs : Ns.length = w.ps.length)
    (hE : Pure Tryz.prog 54 [grA w.g, .agg [AI k, AI i, AI ty, AI fr, AI to], AI (t.nodes.map cNod).length, AI (t.edges.map cEdg).length] (AI 0))
    (hG : Pure Tryz.prog 64 [grA w.g, .agg [AI k, AI i, AI ty, AI fr, AI to]] (grA g'))
    (j0 : Nat) (hj0 : j0 < w.ps.length) (hj : ∀ (j : Nat) (p : Gr), j < j0 → w.ps[j]? = some p → AddJ t w g' edge Ns Rs j p) (hjE : ∀ p, w.ps[j0]? = some p → AddE t w g' edge j0 p) :
    Pure Tryz.prog 44 [tysA t, watA w, .agg [AI k, AI i, AI ty, AI fr, AI to]] (.tup [watA ⟨[], ⟨[], []⟩, false, []⟩, .im 2 [], AI 3]) := by
  have s1 := ipatterns_spec w.ps hpl (by omega)
  obtain ⟨ps, g, inj, ms⟩ := w
  simp only at *
  obtain ⟨gn, ge⟩ := g
  obtain ⟨gn', ge'⟩ := g'
  have lps : (ps.map cGr).length = ps.length := by simp
  change Pure _ _ [.agg [ints gn, edsA ge], .agg [AI k, AI i, AI ty, AI fr, AI to], _, _] _ at hE
  change Pure _ _ [.agg [ints gn, edsA ge], .agg [AI k, AI i, AI ty, AI fr, AI to]] (.agg [ints gn', edsA ge']) at hG
  refine a_enterM (rs := [.cell 6 37, .tmp 7, .tmp 8]) tok Tryz.func44 (by kernel_rfl) rfl Tryz.ntmps44 rfl (by decide) (by simp) ?_
  refine a_seq ?_
  refine a_reg ?_
  repeat (first | refine gZ pk ?_ | (show AL _ _ _ _ _ _ _; first | refine jB (fun u => ?_) | refine jL tok (fun U6 => ?_)))
  refine zfb 3 3 rfl rfl ?_
  refine zfb 2 4 rfl rfl ?_
  refine zfb 1 5 rfl rfl ?_
  repeat (first | refine gN pk ?_ | (show AL _ _ _ _ _ _ _; first | refine jP hE ?_))
  refine AWp.mono (Q := fun e st L => e = .normal ∧ ∃ ub, GoTo 116 st L (lk [(3, tysP t), (4, .ip [grsA ps, ints gn, edsA ge, AB inj, mssA ms]), (5, .ip [AI k, AI i, AI ty, AI fr, AI to]), (6, .pt U6 0 0 0), (10, .pt ub 0 0 0)]) [(ub, OB.box [grsA ps, ints gn', edsA ge', AB inj, nilS]), (U6, OB.box [nilS, nilS, nilS, AB false, nilS])]) ?_ (fun e st L h => ?_)
  · refine zrg ((List.range 12).map fun i => if inL [2, 6, 10, 11] i = true then .eff else .pure) [] [0, 1, 3, 4, 5, 7, 8] (.nd 2 [] (.nd 6 [9, 10, 11] .stop (.nd 10 [6, 9, 11] .stop .stop)) (.nd 10 [2, 6, 9, 11] .stop .stop)) mixed rfl rfl (by decide +kernel) ?_
    repeat' (first | (with_reducible show AG _ _ _ _ _ _ _ _ _ _; first | exact zgn | refine zgs ?_ | refine znd ?_ ?_) | (show AMid _ _ _ _; first | refine zmf ?_ | refine zmg (by first | exact OSub.refl _ | exact .drop (OSub.refl _) | exact .drop (.drop (OSub.refl _))) ?_) | refine gY pk ?_ | (show AL _ _ _ _ _ _ _; first | refine jP s1 ?_ | refine jP hG ?_ | refine jL tok (fun ub => ?_) | refine jS tok 0 ?_) | fail)
    all_goals exact ⟨rfl, _, .sub (by exact subQ) (OSub.refl _)⟩
  · obtain ⟨rfl, ub, h⟩ := h
    refine zgt h ?_
    clear h
    repeat (first | refine gA pk ?_)
    rw [lps]
    refine a_loopG3 (fun (j : Nat) (vm vd : Value) => [(3, tysP t), (4, .ip [grsA ps, ints gn, edsA ge, AB inj, mssA ms]), (5, .ip [AI k, AI i, AI ty, AI fr, AI to]), (6, .pt U6 0 0 0), (10, .pt ub 0 0 0), (11, .lit vd), (43, grsA ps), (44, AI ps.length), (45, AI j)]) (fun j vm vd => [(ub, OB.box [grsA ps, ints gn', edsA ge', AB inj, .lit vm]), (vm, OB.row 70 1 ((Rs.take j).map cMos)), (vd, OB.row 72 2 ((Ns.take j).map cDelN)), (U6, OB.box [nilS, nilS, nilS, AB false, nilS])]) (fun j _ _ => j ≤ j0) (fun j _ _ => j0 - j) 0 (.slice none 0 0) (.slice none 0 0) (Nat.zero_le _) (.sub (by exact subQ) (.keep (.free (.free (OSub.refl _))))) ?_
    intro j vm vd hjl
    have lR : ((Rs.take j).map cMos).length = j := by rw [List.length_map, List.length_take]; omega
    have lN : ((Ns.take j).map cDelN).length = j := by rw [List.length_map, List.length_take]; omega
    have hjp : j < ps.length := by omega
    rcases Nat.lt_or_ge j j0 with h | h
    · have hp := List.getElem?_eq_getElem hjp
      obtain ⟨n, m, r, e1, e2, e3, e4, e5, e6, e7, hf, hm⟩ := (hj j _ h hp).ex
      generalize ps[j] = p at hp hf
      have xk : (ps.map cGr)[(j : Int).toNat]? = some (cGr p) := zmp (f := cGr) hp
      have mk : (ms.map cMos)[(j : Int).toNat]? = some [mosA m] := zmp (f := cMos) e2
      have hR : (Rs.take (j + 1)).map cMos = (Rs.take j).map cMos ++ [[mosA r]] := by rw [List.take_add_one, e3]; simp
      have hN : (Ns.take (j + 1)).map cDelN = (Ns.take j).map cDelN ++ [[mosA n, mosA []]] := by rw [List.take_add_one, e1]; simp [cDelN]
      have s2 := iown_spec r e7 e5
      have s3 := iown_spec n e6 (by omega)
      have s4 := Pure.subA (iown_spec [] (by simp) (by simp)) (args' := [nilS]) ⟨Sub.nil 2, trivial⟩
      have hm1 := hm.pure
      have ln : (n.map cMo).length = n.length := by simp
      have lm : (m.map cMo).length = m.length := by simp
      have lms : (ms.map cMos).length = ms.length := by simp
      obtain ⟨pn, pe⟩ := p
      change Pure _ _ [tysA t, .agg [ints pn, edsA pe], .agg [ints gn', edsA ge'], AB edge, AB inj] _ at hf
      rcases hk with ⟨rfl, rfl⟩ | ⟨rfl, rfl⟩
      all_goals
        repeat (first | refine gN pk ?_ | (show AL _ _ _ _ _ _ _; first | refine jX tok xk ?_ | refine jX tok mk ?_ | refine jL tok (fun up => ?_) | refine jS tok 0 ?_ | refine jO tok 1 ?_ | refine jO tok 2 ?_ | refine jP hf ?_ | refine jP hm1 ?_ | refine jS tok 0 ?_))
        refine zfb 0 14 rfl rfl ?_
        refine zrg ((List.range 19).map fun i => if inL [3, 4, 5, 9, 12, 14, 15, 17] i = true then .eff else if inL [1] i = true then .read else .pure) [3, 4] [0, 1, 2, 6, 7, 8, 10, 11] (.nd 3 [] (.nd 4 [5, 16, 9, 12, 13, 14, 15, 17, 18] .stop .stop) .stop) mixed rfl rfl (by decide +kernel) ?_
        repeat' (first | (with_reducible show AG _ _ _ _ _ _ _ _ _ _; first | exact zgn | refine zgs ?_ | refine znd ?_ ?_) | (show AMid _ _ _ _; first | refine zmf ?_ | refine zmg (by first | exact OSub.refl _ | exact .drop (OSub.refl _) | exact .drop (.drop (OSub.refl _))) ?_) | refine gY pk ?_ | (show AL _ _ _ _ _ _ _; first | refine jO tok 1 ?_ | refine jP s2 ?_ | refine jP s3 ?_ | refine jP s4 ?_ | refine s_build1M tok rfl rfl rfl rfl rfl rfl rfl (fun lv => ?_) | refine zba tok rfl rfl rfl rfl rfl rfl rfl rfl (by decide) (fun lv => ?_) | refine zak tok 2 rfl rfl rfl rfl rfl rfl (by decide) rfl rfl rfl rfl (by omega) (by omega) (fun w1 hw1 => ?_) | refine zak tok 3 rfl rfl rfl rfl rfl rfl (by decide) rfl rfl rfl rfl (by omega) (by omega) (fun w2 hw2 => ?_) | refine zsb tok 1 rfl rfl rfl rfl rfl rfl rfl hw1 rfl (Nat.le_of_ble_eq_true rfl) rfl ?_) | fail)
        repeat (first | refine gA pk ?_)
        exact ⟨j + 1, w1, w2, by omega, by omega, .sub (by exact subQ) (by rw [hR, hN]; exact .drop (OSub.refl _))⟩
    · obtain rfl : j = j0 := by omega
      have hp := List.getElem?_eq_getElem hjp
      obtain ⟨m, e2, e5, hcase⟩ := (hjE _ hp).ex
      generalize ps[j] = p at hp hcase
      have xk : (ps.map cGr)[(j : Int).toNat]? = some (cGr p) := zmp (f := cGr) hp
      have mk : (ms.map cMos)[(j : Int).toNat]? = some [mosA m] := zmp (f := cMos) e2
      have lm : (m.map cMo).length = m.length := by simp
      have lms : (ms.map cMos).length = ms.length := by simp
      obtain ⟨pn, pe⟩ := p
      rcases hcase with hf | ⟨n, hn1, hn2, hf⟩
      · change Pure _ _ [tysA t, .agg [ints pn, edsA pe], .agg [ints gn', edsA ge'], AB edge, AB inj] _ at hf
        rcases hk with ⟨rfl, rfl⟩ | ⟨rfl, rfl⟩
        all_goals
          repeat (first | refine gV pk ?_ | (show AL _ _ _ _ _ _ _; first | refine jX tok xk ?_ | refine jX tok mk ?_ | refine jL tok (fun up => ?_) | refine jS tok 0 ?_ | refine jO tok 1 ?_ | refine jO tok 2 ?_ | refine jP hf ?_ | refine jS tok 5 ?_))
          refine zfb 5 6 rfl rfl ?_
          refine a_ret ?_
          exact ⟨.inr rfl, _, _, [], rfl, Turn.of (Sub.tup (l := [.agg [nilS, nilS, nilS, AB false, nilS], nilS, AI 3]) (m := [watA ⟨[], ⟨[], []⟩, false, []⟩, .im 2 [], AI 3]) ⟨Sub.agg (m := [grsA [], ints [], edsA [], AB false, mssA []]) ⟨Sub.nil 2, Sub.nil 1, Sub.nil 3, Sub.refl _, Sub.nil 1, trivial⟩, Sub.nil 2, Sub.refl _, trivial⟩) (OSub.none _), rfl, rfl⟩
      · have ln : (n.map cMo).length = n.length := by simp
        change Pure _ _ [tysA t, .agg [ints pn, edsA pe], .agg [ints gn', edsA ge'], AB edge, AB inj] _ at hf
        rcases hk with ⟨rfl, rfl⟩ | ⟨rfl, rfl⟩
        all_goals
          repeat (first | refine gV pk ?_ | (show AL _ _ _ _ _ _ _; first | refine jX tok xk ?_ | refine jX tok mk ?_ | refine jL tok (fun up => ?_) | refine jS tok 0 ?_ | refine jO tok 1 ?_ | refine jO tok 2 ?_ | refine jP hf ?_ | refine jS tok 5 ?_))
          refine zfb 5 6 rfl rfl ?_
          refine a_ret ?_
          exact ⟨.inr rfl, _, _, [], rfl, Turn.of (Sub.tup (l := [.agg [nilS, nilS, nilS, AB false, nilS], nilS, AI 3]) (m := [watA ⟨[], ⟨[], []⟩, false, []⟩, .im 2 [], AI 3]) ⟨Sub.agg (m := [grsA [], ints [], edsA [], AB false, mssA []]) ⟨Sub.nil 2, Sub.nil 1, Sub.nil 3, Sub.refl _, Sub.nil 1, trivial⟩, Sub.nil 2, Sub.refl _, trivial⟩) (OSub.none _), rfl, rfl⟩
theorem iapplyR_spec (t : Tys) (ht : Small t) (w : Wat) (k i ty fr to : Int) (hk : k = 3 ∨ k = 4) (g' : Gr) (Ns Rs : List (List Mo))
    (hps : w.ps.length ≤ 5) (hpl : ∀ p ∈ w.ps, p.nodes.length ≤ 1000 ∧ p.edges.length ≤ 1000) (hms : w.ms.length = w.ps.length) (hRs : Rs.length = w.ps.length) (hNs : Ns.length = w.ps.length)
    (hE : Pure Tryz.prog 54 [grA w.g, .agg [AI k, AI i, AI ty, AI fr, AI to], AI (t.nodes.map cNod).length, AI (t.edges.map cEdg).length] (AI 0))
    (hG : Pure Tryz.prog 64 [grA w.g, .agg [AI k, AI i, AI ty, AI fr, AI to]] (grA g'))
    (hj : ∀ j : Nat, j < w.ps.length → RemJ w k i ty fr to Ns Rs j) :
    Pure Tryz.prog 44 [tysA t, watA w, .agg [AI k, AI i, AI ty, AI fr, AI to]] (.tup [watA ⟨w.ps, g', w.inj, Rs⟩, .im 2 (Ns.map cDelG), AI 0]) := by
  have s1 := ipatterns_spec w.ps hpl (by omega)
  obtain ⟨ps, g, inj, ms⟩ := w
  simp only at *
  obtain ⟨gn, ge⟩ := g
  obtain ⟨gn', ge'⟩ := g'
  have lps : (ps.map cGr).length = ps.length := by simp
  change Pure _ _ [.agg [ints gn, edsA ge], .agg [AI k, AI i, AI ty, AI fr, AI to], _, _] _ at hE
  change Pure _ _ [.agg [ints gn, edsA ge], .agg [AI k, AI i, AI ty, AI fr, AI to]] (.agg [ints gn', edsA ge']) at hG
  refine a_enterM (rs := [.cell 6 37, .tmp 7, .tmp 8]) tok Tryz.func44 (by kernel_rfl) rfl Tryz.ntmps44 rfl (by decide) (by simp) ?_
  refine a_seq ?_
  refine a_reg ?_
  repeat (first | refine gZ pk ?_ | (show AL _ _ _ _ _ _ _; first | refine jB (fun u => ?_) | refine jL tok (fun U6 => ?_)))
  refine zfb 3 3 rfl rfl ?_
  refine zfb 2 4 rfl rfl ?_
  refine zfb 1 5 rfl rfl ?_
  repeat (first | refine gN pk ?_ | (show AL _ _ _ _ _ _ _; first | refine jP hE ?_))
  refine AWp.mono (Q := fun e st L => e = .normal ∧ ∃ ub, GoTo 116 st L (lk [(3, tysP t), (4, .ip [grsA ps, ints gn, edsA ge, AB inj, mssA ms]), (5, .ip [AI k, AI i, AI ty, AI fr, AI to]), (6, .pt U6 0 0 0), (10, .pt ub 0 0 0)]) [(ub, OB.box [grsA ps, ints gn', edsA ge', AB inj, nilS]), (U6, OB.box [nilS, nilS, nilS, AB false, nilS])]) ?_ (fun e st L h => ?_)
  · refine zrg ((List.range 12).map fun i => if inL [2, 6, 10, 11] i = true then .eff else .pure) [] [0, 1, 3, 4, 5, 7, 8] (.nd 2 [] (.nd 6 [9, 10, 11] .stop (.nd 10 [6, 9, 11] .stop .stop)) (.nd 10 [2, 6, 9, 11] .stop .stop)) mixed rfl rfl (by decide +kernel) ?_
    repeat' (first | (with_reducible show AG _ _ _ _ _ _ _ _ _ _; first | exact zgn | refine zgs ?_ | refine znd ?_ ?_) | (show AMid _ _ _ _; first | refine zmf ?_ | refine zmg (by first | exact OSub.refl _ | exact .drop (OSub.refl _) | exact .drop (.drop (OSub.refl _))) ?_) | refine gY pk ?_ | (show AL _ _ _ _ _ _ _; first | refine jP s1 ?_ | refine jP hG ?_ | refine jL tok (fun ub => ?_) | refine jS tok 0 ?_) | fail)
    all_goals exact ⟨rfl, _, .sub (by exact subQ) (OSub.refl _)⟩
  · obtain ⟨rfl, ub, h⟩ := h
    refine zgt h ?_
    clear h
    repeat (first | refine gA pk ?_)
    rw [lps]
    refine a_loopG3 (fun (j : Nat) (vm vd : Value) => [(3, tysP t), (4, .ip [grsA ps, ints gn, edsA ge, AB inj, mssA ms]), (5, .ip [AI k, AI i, AI ty, AI fr, AI to]), (6, .pt U6 0 0 0), (10, .pt ub 0 0 0), (11, .lit vd), (43, grsA ps), (44, AI ps.length), (45, AI j)]) (fun j vm vd => [(ub, OB.box [grsA ps, ints gn', edsA ge', AB inj, .lit vm]), (vm, OB.row 70 1 ((Rs.take j).map cMos)), (vd, OB.row 72 2 ((Ns.take j).map cDelG)), (U6, OB.box [nilS, nilS, nilS, AB false, nilS])]) (fun j _ _ => j ≤ ps.length) (fun j _ _ => ps.length - j) 0 (.slice none 0 0) (.slice none 0 0) (Nat.zero_le _) (.sub (by exact subQ) (.keep (.free (.free (OSub.refl _))))) ?_
    intro j vm vd hjl
    have lR : ((Rs.take j).map cMos).length = j := by rw [List.length_map, List.length_take]; omega
    have lN : ((Ns.take j).map cDelG).length = j := by rw [List.length_map, List.length_take]; omega
    rcases Nat.lt_or_ge j ps.length with h | h
    · have hp := List.getElem?_eq_getElem h
      obtain ⟨m, r, n, e2, e3, e1, e5, e6, e7, e8, hf⟩ := (hj j h).ex
      generalize ps[j] = p at hp
      have xk : (ps.map cGr)[(j : Int).toNat]? = some (cGr p) := zmp (f := cGr) hp
      have mk : (ms.map cMos)[(j : Int).toNat]? = some [mosA m] := zmp (f := cMos) e2
      have hR : (Rs.take (j + 1)).map cMos = (Rs.take j).map cMos ++ [[mosA r]] := by rw [List.take_add_one, e3]; simp
      have hN : (Ns.take (j + 1)).map cDelG = (Ns.take j).map cDelG ++ [[mosA [], mosA n]] := by rw [List.take_add_one, e1]; simp [cDelG]
      have s2 := iown_spec r e7 e5
      have s4 := iown_spec n e8 (by omega)
      have s3 := Pure.subA (iown_spec [] (by simp) (by simp)) (args' := [nilS]) ⟨Sub.nil 2, trivial⟩
      have ln : (n.map cMo).length = n.length := by simp
      have lm : (m.map cMo).length = m.length := by simp
      have lms : (ms.map cMos).length = ms.length := by simp
      obtain ⟨pn, pe⟩ := p
      rcases hk with rfl | rfl
      all_goals
        repeat (first | refine gN pk ?_ | (show AL _ _ _ _ _ _ _; first | refine jX tok xk ?_ | refine jX tok mk ?_ | refine jL tok (fun up => ?_) | refine jS tok 0 ?_ | refine jP hf ?_ | refine jS tok 0 ?_))
        refine zfb 0 14 rfl rfl ?_
        refine zrg ((List.range 19).map fun i => if inL [3, 4, 5, 9, 12, 14, 15, 17] i = true then .eff else if inL [1] i = true then .read else .pure) [3, 4] [0, 1, 2, 6, 7, 8, 10, 11] (.nd 3 [] (.nd 4 [5, 16, 9, 12, 13, 14, 15, 17, 18] .stop .stop) .stop) mixed rfl rfl (by decide +kernel) ?_
        repeat' (first | (with_reducible show AG _ _ _ _ _ _ _ _ _ _; first | exact zgn | refine zgs ?_ | refine znd ?_ ?_) | (show AMid _ _ _ _; first | refine zmf ?_ | refine zmg (by first | exact OSub.refl _ | exact .drop (OSub.refl _) | exact .drop (.drop (OSub.refl _))) ?_) | refine gY pk ?_ | (show AL _ _ _ _ _ _ _; first | refine jO tok 1 ?_ | refine jP s2 ?_ | refine jP s3 ?_ | refine jP s4 ?_ | refine s_build1M tok rfl rfl rfl rfl rfl rfl rfl (fun lv => ?_) | refine zba tok rfl rfl rfl rfl rfl rfl rfl rfl (by decide) (fun lv => ?_) | refine zak tok 2 rfl rfl rfl rfl rfl rfl (by decide) rfl rfl rfl rfl (by omega) (by omega) (fun w1 hw1 => ?_) | refine zak tok 3 rfl rfl rfl rfl rfl rfl (by decide) rfl rfl rfl rfl (by omega) (by omega) (fun w2 hw2 => ?_) | refine zsb tok 1 rfl rfl rfl rfl rfl rfl rfl hw1 rfl (Nat.le_of_ble_eq_true rfl) rfl ?_) | fail)
        repeat (first | refine gA pk ?_)
        exact ⟨j + 1, w1, w2, by omega, by omega, .sub (by exact subQ) (by rw [hR, hN]; exact .drop (OSub.refl _))⟩
    · obtain rfl : j = ps.length := by omega
      rw [← hRs, List.take_length, hRs, ← hNs, List.take_length]
      have hr1 : ∀ x ∈ Rs.map cMos, x.length = 1 := fun x hx => by
        obtain ⟨y, _, rfl⟩ := List.mem_map.1 hx
        rfl
      have hr2 : ∀ x ∈ Ns.map cDelG, x.length = 2 := fun x hx => by
        obtain ⟨y, _, rfl⟩ := List.mem_map.1 hx
        rfl
      refine zgt (GoTo.freeze 1 rfl (FZS.refl _) [(ub, OB.box [grsA ps, ints gn', edsA ge', AB inj, mssA Rs]), (vd, OB.row 72 2 (Ns.map cDelG)), (U6, OB.box [nilS, nilS, nilS, AB false, nilS])] (zfo ⟨FZ.refl _, FZ.refl _, FZ.refl _, FZ.refl _, FZ.here, trivial⟩ (zfw hr2 (zfo (FZL.refl _) trivial)))) ?_
      refine a_frz 1 11 rfl rfl ?_
      refine zfb 0 10 rfl rfl ?_
      rw [hNs]
      repeat (first | refine gV pk ?_ | (show AL _ _ _ _ _ _ _; first | refine jS tok 0 ?_))
      refine zfb 0 6 rfl rfl ?_
      refine a_ret ?_
      exact ⟨.inr rfl, _, _, [], rfl, Turn.of (Sub.refl _) (OSub.none _), rfl, rfl⟩
theorem iapplyX_spec (t : Tys) (w : Wat) (k i ty fr to : Int) (e : Int) (he : e ≠ 0)
    (hE : Pure Tryz.prog 54 [grA w.g, .agg [AI k, AI i, AI ty, AI fr, AI to], AI (t.nodes.map cNod).length, AI (t.edges.map cEdg).length] (AI e)) :
    Pure Tryz.prog 44 [tysA t, watA w, .agg [AI k, AI i, AI ty, AI fr, AI to]] (.tup [watA ⟨[], ⟨[], []⟩, false, []⟩, .im 2 [], AI e]) := by
  obtain ⟨ps, g, inj, ms⟩ := w
  simp only at *
  obtain ⟨gn, ge⟩ := g
  change Pure _ _ [.agg [ints gn, edsA ge], .agg [AI k, AI i, AI ty, AI fr, AI to], _, _] _ at hE
  refine a_enterM (rs := [.cell 6 37, .tmp 7, .tmp 8]) tok Tryz.func44 (by kernel_rfl) rfl Tryz.ntmps44 rfl (by decide) (by simp) ?_
  refine a_seq ?_
  refine a_reg ?_
  repeat (first | refine gZ pk ?_ | (show AL _ _ _ _ _ _ _; first | refine jB (fun u => ?_) | refine jL tok (fun U6 => ?_)))
  refine zfb 3 3 rfl rfl ?_
  refine zfb 2 4 rfl rfl ?_
  refine zfb 1 5 rfl rfl ?_
  repeat (first | refine gV pk ?_ | (show AL _ _ _ _ _ _ _; first | refine jP hE ?_ | refine jS tok 0 ?_))
  refine zfb 0 6 rfl rfl ?_
  refine a_ret ?_
  exact ⟨.inr rfl, _, _, [], rfl, Turn.of (Sub.tup (l := [.agg [nilS, nilS, nilS, AB false, nilS], nilS, AI e]) (m := [watA ⟨[], ⟨[], []⟩, false, []⟩, .im 2 [], AI e]) ⟨Sub.agg (m := [grsA [], ints [], edsA [], AB false, mssA []]) ⟨Sub.nil 2, Sub.nil 1, Sub.nil 3, Sub.refl _, Sub.nil 1, trivial⟩, Sub.nil 2, Sub.refl _, trivial⟩) (OSub.none _), rfl, rfl⟩
end Go.Proofs.YtddohheabpiljaaGreat
end
