/-
  The canonical graph of the reference: the walks. Conditions: valid graphs of at most 8 nodes.
-/
import Derived.Test.YtoaenbfidlgjhaaSjQ8
import Derived.Test.YtoaenbfidlgjhaaW22
import Derived.Test.YtoaenbfidlgjhaaW17
namespace Go.Proofs.Ytoaenbfidlgjhaa
open Go.Sj Go.Sj.Typ Go.Sj.Sta Go.Sj.Can
set_option linter.unusedVariables false
set_option linter.unusedSimpArgs false
set_option maxHeartbeats 16000000

theorem take_spec (g : Gr) (hg : GV g) (o : List Int) (ho : Cpl g.nodes.length o) (a b : Nat) (ha : a < g.nodes.length) (hb : b < g.nodes.length) (vn mn me ve : Value) (hvn : vn.oneCell' = true) (hve : ve.oneCell' = true) (X : List (Int × Int × Int)) (hX : X.length + (putE g o a b).length ≤ 100000) :
    ACalls Try.prog 50 [grA g, .agg [.lit vn, .lit ve], .agg [.lit mn, .lit me], ints o, AI a, AI b] [(me, .row 3 1 (rowI (mR g X))), (ve, .row 60 3 (eR g X))] (fun y M => ∃ ve', ve'.oneCell' = true ∧ y = .agg [.lit vn, .lit ve'] ∧ M = [(me, .row 3 1 (rowI (mR g (X ++ putE g o a b)))), (ve', .row 60 3 (eR g (X ++ putE g o a b)))]) := by
  have le : (g.edges.map cEd).length = g.edges.length := by simp
  have hel := hg.el
  have hol := ho.len
  have hnl := hg.nl
  have lo : (rowI o).length = g.nodes.length := by simp [hol]
  have xa := atO_get (o := o) (k := a) (by omega)
  have xb := atO_get (o := o) (k := b) (by omega)
  have hpe : putE g o a b = (bt g (atO o a) (atO o b)).map fun i => (i, (a : Int), (b : Int)) := rfl
  rw [hpe, List.length_map] at hX
  rw [hpe]
  have s1 := between_spec g hg (atO o a) (atO o b)
  have hm := fun i (h : i ∈ bt g (atO o a) (atO o b)) => bt_rng h
  have het := fun (k : Nat) (h : k < g.edges.length) => hg.edges _ (List.getElem_mem h)
  have lb : (rowI (bt g (atO o a) (atO o b))).length = (bt g (atO o a) (atO o b)).length := by simp
  generalize bt g (atO o a) (atO o b) = B at *
  generalize atO o a = p at *
  generalize atO o b = q at *
  have ka : (rowI o)[(a : Int).toNat]? = some [AI p] := map_get (f := cI) xa
  have kb : (rowI o)[(b : Int).toNat]? = some [AI q] := map_get (f := cI) xb
  clear hpe
  refine a_enterC Try.func50 (by kernel_rfl) rfl Try.ntmps50 rfl (tok _ _ rfl) (by simp) ?_
  refine a_seq ?_
  refine a_reg ?_
  repeat (first | refine gZ pk ?_ | (show AL _ _ _ _ _ _ _; first | refine jB (fun uu => ?_) | refine jL tok (fun u12 => ?_)))
  refine a_frzBox 3 6 rfl rfl ?_
  refine a_frzBox 1 8 rfl rfl ?_
  repeat (first | refine gN pk ?_)
  refine a_regG ((List.range 11).map fun i => if inL [9] i = true then .eff else .pure) [] [0, 1, 2, 3, 4, 5, 6, 7, 8, 9, 10] .stop mixed rfl rfl (by decide +kernel) ?_
  repeat' (first | (with_reducible show AG _ _ _ _ _ _ _ _ _ _; first | exact ag_none | refine ag_stop ?_ | refine ag_nd ?_ ?_) | (show AMid _ _ _ _; first | refine amid_f ?_ | refine amid_g (by first | exact OSub.refl _ | exact .drop (OSub.refl _) | exact .drop (.drop (OSub.refl _))) ?_) | refine gY pk ?_ | (show AL _ _ _ _ _ _ _; first | refine jX tok ka ?_ | refine jX tok kb ?_ | refine jP s1 ?_) | fail)
  repeat (first | refine gN pk ?_)
  rename_i ug uo
  refine a_loopG2 (fun (c : Nat) (ve : Value) => [(4, AI a), (5, AI b), (6, grP g), (7, .pt uo 0 0 0), (8, .ip [.lit mn, .lit me]), (12, .pt u12 0 0 0), (13, ints B), (14, AI c)]) (fun c ve => [(u12, .box [nilA, nilA]), (uo, .box [.lit vn, .lit ve]), (me, .row 3 1 (rowI (mR g (X ++ (B.take c).map fun i => (i, (a : Int), (b : Int)))))), (ve, .row 60 3 (eR g (X ++ (B.take c).map fun i => (i, (a : Int), (b : Int)))))]) (fun c ve => c ≤ B.length ∧ ve.oneCell' = true) (fun c ve => B.length - c) 0 ve ⟨Nat.zero_le _, hve⟩ (.sub (by exact subQ) (by rw [List.take_zero, List.map_nil, List.append_nil]; exact OSub.refl _)) ?_
  clear hve
  rintro c ve ⟨hc, hve⟩
  rcases Nat.lt_or_ge c B.length with h | h
  · have hx := List.getElem?_eq_getElem h
    obtain ⟨i, hi, hil⟩ := hm _ (List.getElem_mem h)
    rw [hi] at hx
    have hxe := List.getElem?_eq_getElem hil
    have hty := tyI_get hxe
    have he := het i hil
    generalize g.edges[i] = e at hxe hty he
    obtain ⟨e1, e2, e3⟩ := e
    simp only at hty he
    have xk : (rowI B)[(c : Int).toNat]? = some [AI i] := map_get (f := cI) hx
    have ek : (g.edges.map cEd)[(i : Int).toNat]? = some [AI e1, AI e2, AI e3] := map_get (f := cEd) hxe
    have hs : (X ++ (B.take (c + 1)).map fun i => (i, (a : Int), (b : Int))) = (X ++ (B.take c).map fun i => (i, (a : Int), (b : Int))) ++ [((i : Int), (a : Int), (b : Int))] := by
      rw [List.take_add_one, hx, List.map_append, ← List.append_assoc]
      rfl
    have hlX : (X ++ (B.take c).map fun i => (i, (a : Int), (b : Int))).length ≤ 100000 := by
      rw [List.length_append, List.length_map, List.length_take]; omega
    generalize (X ++ (B.take c).map fun i => (i, (a : Int), (b : Int))) = Y at *
    have hm1 := mR_snoc g Y i a b
    have he1 := eR_snoc g Y (i, a, b)
    have hed : cEd (edOf g ((i : Int), (a : Int), (b : Int))) = [AI e1, AI a, AI b] := by unfold edOf cEd; simp only [hty]
    rw [hed] at he1
    have lmr := mR_len g Y
    have ler := eR_len g Y
    have lmr' : (rowI (mR g Y)).length = g.edges.length := by rw [List.length_map, lmr]
    repeat (first | refine gN pk ?_)
    refine a_regG ((List.range 11).map fun i => if inL [10] i = true then .eff else if inL [7, 8, 9] i = true then .read else .pure) [] [0, 1, 2, 3, 4, 5, 6, 7, 8, 9, 10] .stop mixed rfl rfl (by decide +kernel) ?_
    repeat' (first | (with_reducible show AG _ _ _ _ _ _ _ _ _ _; first | exact ag_none | refine ag_stop ?_ | refine ag_nd ?_ ?_) | (show AMid _ _ _ _; first | refine amid_f ?_ | refine amid_g (by first | exact OSub.refl _ | exact .drop (OSub.refl _) | exact .drop (.drop (OSub.refl _))) ?_) | refine gY pk ?_ | (show AL _ _ _ _ _ _ _; first | refine jX tok xk ?_ | refine jO tok 1 ?_ | refine s_ownLen tok 3 rfl rfl rfl rfl (by decide) rfl rfl rfl ?_ | refine s_ownIndex tok 2 rfl rfl rfl rfl (by decide) rfl rfl rfl rfl rfl rfl (by omega) (by omega) ?_ | refine s_storeI tok 2 rfl rfl rfl rfl rfl rfl rfl rfl (by omega) ?_) | fail)
    rw [ler, ← hm1]
    repeat (first | refine gN pk ?_)
    refine a_regG ((List.range 18).map fun i => if inL [14, 15, 17] i = true then .eff else if inL [1] i = true then .read else .pure) [14] [0, 1, 2, 3, 4, 5, 6, 7, 8, 9, 10, 11, 12, 13] (.nd 14 [15, 16, 17] .stop .stop) mixed rfl rfl (by decide +kernel) ?_
    repeat' (first | (with_reducible show AG _ _ _ _ _ _ _ _ _ _; first | exact ag_none | refine ag_stop ?_ | refine ag_nd ?_ ?_) | (show AMid _ _ _ _; first | refine amid_f ?_ | refine amid_g (by first | exact OSub.refl _ | exact .drop (OSub.refl _) | exact .drop (.drop (OSub.refl _))) ?_) | refine gY pk ?_ | (show AL _ _ _ _ _ _ _; first | refine jO tok 1 ?_ | refine jX tok xk ?_ | refine jX tok ek ?_ | refine s_build1A tok rfl rfl rfl rfl rfl rfl rfl rfl (by decide) (fun lv => ?_) | refine s_append1K tok 3 rfl rfl rfl rfl rfl rfl (by decide) rfl rfl rfl rfl (by omega) (by omega) (fun w hw => ?_) | refine s_storeB tok 1 rfl rfl rfl rfl rfl rfl rfl (by assumption) rfl (Nat.le_of_ble_eq_true rfl) rfl ?_) | fail)
    repeat (first | refine gA pk ?_)
    refine ⟨c + 1, w, ⟨by omega, by assumption⟩, by omega, .sub (by exact subQ) ?_⟩
    rw [hs]
    show OSub [(u12, .box [nilA, nilA]), (uo, .box [.lit vn, .lit w]), (me, .row 3 1 (rowI (mR g (Y ++ [((i : Int), (a : Int), (b : Int))])))), (w, .row 60 3 (eR g (Y ++ [((i : Int), (a : Int), (b : Int))])))] _
    rw [he1]
    exact OSub.refl _
  · obtain rfl : c = B.length := by omega
    rw [List.take_length]
    repeat (first | refine gV pk ?_ | (show AL _ _ _ _ _ _ _; first | refine jO tok 1 ?_ | refine s_store (a := .agg [.lit vn, .lit ve]) tok 0 rfl rfl rfl rfl rfl rfl (by simp [AV.storable, AV.cell, hvn, hve]) rfl (by decide) rfl rfl rfl (Nat.le_of_ble_eq_true rfl) ?_))
    refine a_frzBox 0 12 rfl rfl ?_
    refine a_ret ?_
    exact ⟨.inr rfl, _, _, _, _, rfl, rfl, Turn.of (Sub.of_eq rfl) (.drop (OSub.refl _)), ve, hve, rfl, rfl⟩
theorem rOf_spec (g : Gr) (hg : OkG g) : Pure Try.prog 22 [grA g] (cRes (canR g)) := by
  have s1 := rvalid_spec g hg
  have ln : (rowI g.nodes).length = g.nodes.length := by simp
  have le : (g.edges.map cEd).length = g.edges.length := by simp
  unfold canR
  by_cases h : cvalid g = 0
  · have hV := cvalid_zero.1 h
    have hel := hV.1.el
    have hnl := hV.1.nl
    have s3 := rfind_spec g hV.1 hV.2
    have ho := (findG_eq g).2.1
    have sp := fun (a b : Nat) (ha : a < g.nodes.length) (hb : b < g.nodes.length) => take_spec g hV.1 (ordG g) ho a b ha hb
    have hpl := fun (k : Nat) (hk : k ≤ (ordG g).length) => plE_le g ho.po hk
    have hol := ho.len
    have lo : (rowI (ordG g)).length = g.nodes.length := by simp [hol]
    have hcg : canG g = ⟨(ordG g).map (nN g), (plE g (ordG g) (ordG g).length).map (edOf g)⟩ := rfl
    have hcm : canM g = (ms g.nodes.length (ordG g), mR g (plE g (ordG g) (ordG g).length)) := rfl
    rw [if_neg (Decidable.not_not.2 h)]
    rw [h] at s1
    rw [hcg, hcm]
    clear hcg hcm
    generalize codG g = c at *
    generalize ordG g = o at *
    have z1 : List.replicate (((rowI g.nodes).length : Int)).toNat (List.map AV.lit [Value.int IntKind.i64 0]) = rowI (ms g.nodes.length []) := by simp [ms_nil, cI]
    have z2 : List.replicate (((g.edges.map cEd).length : Int)).toNat (List.map AV.lit [Value.int IntKind.i64 0]) = rowI (mR g []) := by simp [mR, ms_nil, cI]
    refine a_enterM (rs := [.cell 2 25, .cell 3 38, .tmp 4]) tok Try.func22 (by kernel_rfl) rfl Try.ntmps22 rfl (by decide) (by simp) ?_
    refine a_seq ?_
    refine a_reg ?_
    repeat (first | refine gZ pk ?_ | (show AL _ _ _ _ _ _ _; first | refine jB (fun u => ?_) | refine jL tok (fun u2 => ?_)))
    refine a_frzBox 2 1 rfl rfl ?_
    repeat (first | refine gN pk ?_ | (show AL _ _ _ _ _ _ _; first | refine jP s1 ?_ | refine jP s3 ?_))
    refine AWp.mono (Q := fun e st L => e = .normal ∧ ∃ mn me bm U3 U2, GoTo 84 st L (lk [(1, grP g), (2, .pt U2 0 0 0), (3, .pt U3 0 0 0), (6, ints o), (8, .pt bm 0 0 0)]) [(mn, OB.row 3 1 (rowI (ms g.nodes.length []))), (me, OB.row 3 1 (rowI (mR g []))), (bm, OB.box [.lit mn, .lit me]), (U3, OB.box [nilA, nilA]), (U2, OB.box [nilA, nilA])]) ?_ (fun e st L h => ?_)
    · refine a_regG ((List.range 11).map fun i => if inL [3, 7, 9, 10] i = true then .eff else .pure) [] [0, 1, 2, 4, 5, 6] (.nd 3 [] (.nd 7 [8, 9, 10] .stop (.nd 9 [7, 8, 10] .stop .stop)) (.nd 7 [] (.nd 3 [8, 9, 10] .stop (.nd 9 [3, 8, 10] .stop .stop)) (.nd 9 [] (.nd 3 [7, 8, 10] .stop (.nd 7 [3, 8, 10] .stop .stop)) .stop))) mixed rfl rfl (by decide +kernel) ?_
      repeat' (first | (with_reducible show AG _ _ _ _ _ _ _ _ _ _; first | exact ag_none | refine ag_stop ?_ | refine ag_nd ?_ ?_) | (show AMid _ _ _ _; first | refine amid_f ?_ | refine amid_g (by first | exact OSub.refl _ | exact .drop (OSub.refl _) | exact .drop (.drop (OSub.refl _))) ?_) | refine gY pk ?_ | (show AL _ _ _ _ _ _ _; first | refine s_makeQ tok rfl rfl rfl rfl rfl rfl rfl rfl z1 (by omega) (by omega) (by simp; omega) (by omega) (fun a m j => ?_) | refine s_makeQ tok rfl rfl rfl rfl rfl rfl rfl rfl z2 (by omega) (by omega) (by simp; omega) (by omega) (fun a m j => ?_) | refine jL tok (fun u => ?_) | refine jS tok 0 ?_ | refine jS tok 1 ?_ | refine jS tok 2 ?_) | fail)
      all_goals
        first | exact ⟨rfl, _, _, _, _, _, (GoTo.sub (by exact subQ) (OSub.refl _)).trans (GoTo.perm (List.Perm.refl _))⟩ | exact ⟨rfl, _, _, _, _, _, (GoTo.sub (by exact subQ) (OSub.refl _)).trans (GoTo.perm (List.Perm.append_right [_, _] (perm3 _ _ _).1))⟩ | exact ⟨rfl, _, _, _, _, _, (GoTo.sub (by exact subQ) (OSub.refl _)).trans (GoTo.perm (List.Perm.append_right [_, _] (perm3 _ _ _).2.1))⟩ | exact ⟨rfl, _, _, _, _, _, (GoTo.sub (by exact subQ) (OSub.refl _)).trans (GoTo.perm (List.Perm.append_right [_, _] (perm3 _ _ _).2.2.1))⟩ | exact ⟨rfl, _, _, _, _, _, (GoTo.sub (by exact subQ) (OSub.refl _)).trans (GoTo.perm (List.Perm.append_right [_, _] (perm3 _ _ _).2.2.2.1))⟩ | exact ⟨rfl, _, _, _, _, _, (GoTo.sub (by exact subQ) (OSub.refl _)).trans (GoTo.perm (List.Perm.append_right [_, _] (perm3 _ _ _).2.2.2.2.1))⟩
    · obtain ⟨rfl, mn, me, bm, U3, U2, h⟩ := h
      refine a_goto h ?_
      clear h
      repeat (first | refine gN pk ?_)
      repeat (first | refine gZ pk ?_ | (show AL _ _ _ _ _ _ _; first | refine jL tok (fun bo => ?_)))
      repeat (first | refine gN pk ?_)
      refine a_loopG3 (fun (k : Nat) (vn ve : Value) => [(1, grP g), (2, .pt U2 0 0 0), (3, .pt U3 0 0 0), (6, ints o), (8, .pt bm 0 0 0), (9, .pt bo 0 0 0), (10, AI k)]) (fun k vn ve => [(me, OB.row 3 1 (rowI (mR g (plE g o k)))), (ve, OB.row 60 3 (eR g (plE g o k))), (bo, OB.box [.lit vn, .lit ve]), (bm, OB.box [.lit mn, .lit me]), (mn, OB.row 3 1 (rowI (ms g.nodes.length (o.take k)))), (vn, OB.row 3 1 (rowI ((o.take k).map (nN g)))), (U3, OB.box [nilA, nilA]), (U2, OB.box [nilA, nilA])]) (fun k vn ve => k ≤ g.nodes.length ∧ vn.oneCell' = true ∧ ve.oneCell' = true) (fun k _ _ => g.nodes.length - k) 0 (.slice none 0 0) (.slice none 0 0) ⟨Nat.zero_le _, rfl, rfl⟩ (GoTo.trans (GoTo.perm (L' := [(me, OB.row 3 1 (rowI (mR g []))), (bo, OB.box [nilA, nilA]), (bm, OB.box [.lit mn, .lit me]), (mn, OB.row 3 1 (rowI (ms g.nodes.length []))), (U3, OB.box [nilA, nilA]), (U2, OB.box [nilA, nilA])]) ((List.Perm.cons _ (.swap _ _ _)).trans ((List.Perm.swap _ _ _).trans (.cons _ (.cons _ (.swap _ _ _)))))) (.sub (by exact subQ) (.keep (.free (.keep (.keep (.keep (.free (OSub.refl _))))))))) ?_
      rintro k vn ve ⟨hk, hvn, hve⟩
      rcases Nat.lt_or_ge k g.nodes.length with h | h
      · have hx := atO_get (o := o) (k := k) (by omega)
        have hxr := ho.po.rng _ (List.mem_of_getElem? hx)
        have hmk : ms g.nodes.length (o.take (k + 1)) = (ms g.nodes.length (o.take k)).set (atO o k).toNat k := by
          rw [Go.Sj.Can.take_snoc o (by omega), ms_snoc, List.length_take, Nat.min_eq_left (by omega)]
        have hnk : rowI ((o.take (k + 1)).map (nN g)) = rowI ((o.take k).map (nN g)) ++ [[AI (nN g (atO o k))]] := by
          rw [Go.Sj.Can.take_snoc o (by omega)]
          simp [cI]
        have nk : (rowI g.nodes)[(atO o k).toNat]? = some [AI (nN g (atO o k))] := map_get (f := cI) (nodeAt_get hxr.1 hxr.2)
        have xk : (rowI o)[(k : Int).toNat]? = some [AI (atO o k)] := map_get (f := cI) hx
        have hpl1 := hpl k (by omega)
        have hst := fun j => stpE_le g o k hel j
        have hpu := fun a b => putE_le g o a b
        have lms : (ms g.nodes.length (o.take k)).length = g.nodes.length := ms_len _ _
        have lms' : (rowI (ms g.nodes.length (o.take k))).length = g.nodes.length := by rw [List.length_map, lms]
        have lvn : (rowI ((o.take k).map (nN g))).length = k := by simp; omega
        have hps := plE_succ g o k
        generalize hxv : atO o k = x at *
        generalize nN g x = nx at *
        repeat (first | refine gN pk ?_)
        refine a_regG ((List.range 9).map fun i => if inL [8] i = true then .eff else if inL [1, 7] i = true then .read else .pure) [] [0, 1, 2, 3, 4, 5, 6, 7, 8] .stop mixed rfl rfl (by decide +kernel) ?_
        repeat' (first | (with_reducible show AG _ _ _ _ _ _ _ _ _ _; first | exact ag_none | refine ag_stop ?_ | refine ag_nd ?_ ?_) | (show AMid _ _ _ _; first | refine amid_f ?_ | refine amid_g (by first | exact OSub.refl _ | exact .drop (OSub.refl _) | exact .drop (.drop (OSub.refl _))) ?_) | refine gY pk ?_ | (show AL _ _ _ _ _ _ _; first | refine jX tok xk ?_ | refine jO tok 3 ?_ | refine s_ownIndex tok 4 rfl rfl rfl rfl (by decide) rfl rfl rfl rfl rfl rfl (by omega) (by omega) ?_ | refine s_storeI tok 4 rfl rfl rfl rfl rfl rfl rfl rfl (by omega) ?_) | fail)
        rw [← hmk]
        repeat (first | refine gN pk ?_)
        refine a_regG ((List.range 14).map fun i => if inL [10, 11, 13] i = true then .eff else if inL [1] i = true then .read else .pure) [10] [0, 1, 2, 3, 4, 5, 6, 7, 8, 9] (.nd 10 [11, 12, 13] .stop .stop) mixed rfl rfl (by decide +kernel) ?_
        repeat' (first | (with_reducible show AG _ _ _ _ _ _ _ _ _ _; first | exact ag_none | refine ag_stop ?_ | refine ag_nd ?_ ?_) | (show AMid _ _ _ _; first | refine amid_f ?_ | refine amid_g (by first | exact OSub.refl _ | exact .drop (OSub.refl _) | exact .drop (.drop (OSub.refl _))) ?_) | refine gY pk ?_ | (show AL _ _ _ _ _ _ _; first | refine jO tok 2 ?_ | refine jX tok xk ?_ | refine jX tok nk ?_ | refine s_build1 tok rfl rfl rfl rfl rfl rfl rfl rfl (fun lv => ?_) | refine s_append1K tok 5 rfl rfl rfl rfl rfl rfl (by decide) rfl rfl rfl rfl (by omega) (by omega) (fun vn2 hvn2 => ?_) | refine s_storeB tok 2 rfl rfl rfl rfl rfl rfl rfl (by assumption) rfl (Nat.le_of_ble_eq_true rfl) rfl ?_) | fail)
        rw [← hnk]
        repeat (first | refine gN pk ?_)
        refine a_loopG2 (fun (j : Nat) (ve : Value) => [(1, grP g), (2, .pt U2 0 0 0), (3, .pt U3 0 0 0), (6, ints o), (8, .pt bm 0 0 0), (9, .pt bo 0 0 0), (10, AI k), (11, AI j)]) (fun j ve => [(me, OB.row 3 1 (rowI (mR g (if j ≤ k then plE g o k ++ stpE g o k j else plE g o (k + 1))))), (ve, OB.row 60 3 (eR g (if j ≤ k then plE g o k ++ stpE g o k j else plE g o (k + 1)))), (bo, OB.box [.lit vn2, .lit ve]), (bm, OB.box [.lit mn, .lit me]), (mn, OB.row 3 1 (rowI (ms g.nodes.length (o.take (k + 1))))), (vn2, OB.row 3 1 (rowI ((o.take (k + 1)).map (nN g)))), (U3, OB.box [nilA, nilA]), (U2, OB.box [nilA, nilA])]) (fun j ve => j ≤ k + 1 ∧ ve.oneCell' = true) (fun j _ => k + 1 - j) 0 ve ⟨Nat.zero_le _, hve⟩ (.sub (by exact subQ) (by rw [if_pos (Nat.zero_le _), show stpE g o k 0 = [] from rfl, List.append_nil]; exact OSub.refl _)) ?_
        clear hve ve
        rintro j ve ⟨hj, hve⟩
        rcases Nat.lt_or_ge k j with h2 | h2
        · obtain rfl : j = k + 1 := by omega
          rw [if_neg (by omega)]
          repeat (first | refine gA pk ?_)
          exact ⟨k + 1, vn2, ve, ⟨by omega, by assumption, by assumption⟩, by omega, .sub (by exact subQ) (OSub.refl _)⟩
        · rw [if_pos h2]
          have l1 := hst j
          have l2 := hpu j k
          have l3 := hpu k j
          have p1 := fun ve hve => sp j k (by omega) h vn2 mn me ve hvn2 hve (plE g o k ++ stpE g o k j) (by rw [List.length_append]; omega)
          rcases Nat.lt_or_ge j k with h3 | h3
          · have p2 := fun ve hve => sp k j h (by omega) vn2 mn me ve hvn2 hve ((plE g o k ++ stpE g o k j) ++ putE g o j k) (by rw [List.length_append, List.length_append]; omega)
            have hss := stpE_succ g o k j
            repeat (first | refine gA pk ?_ | (show AL _ _ _ _ _ _ _; first | refine jO tok 2 ?_ | refine jO tok 3 ?_ | refine s_call (Lc := [(me, OB.row 3 1 (rowI (mR g (plE g o k ++ stpE g o k j)))), (ve, OB.row 60 3 (eR g (plE g o k ++ stpE g o k j)))]) (Lr := [(bo, OB.box [.lit vn2, .lit ve]), (bm, OB.box [.lit mn, .lit me]), (mn, OB.row 3 1 (rowI (ms g.nodes.length (o.take (k + 1))))), (vn2, OB.row 3 1 (rowI ((o.take (k + 1)).map (nN g)))), (U3, OB.box [nilA, nilA]), (U2, OB.box [nilA, nilA])]) rfl rfl rfl rfl rfl (p1 ve hve) (SubL.of_eq rfl) (List.Perm.refl _) ?_; rintro _ _ ⟨ve2, hve2, rfl, rfl⟩ | refine s_call (Lc := [(me, OB.row 3 1 (rowI (mR g ((plE g o k ++ stpE g o k j) ++ putE g o j k)))), (ve2, OB.row 60 3 (eR g ((plE g o k ++ stpE g o k j) ++ putE g o j k)))]) (Lr := [(bo, OB.box [.lit vn2, .lit ve2]), (bm, OB.box [.lit mn, .lit me]), (mn, OB.row 3 1 (rowI (ms g.nodes.length (o.take (k + 1))))), (vn2, OB.row 3 1 (rowI ((o.take (k + 1)).map (nN g)))), (U3, OB.box [nilA, nilA]), (U2, OB.box [nilA, nilA])]) rfl rfl rfl rfl rfl (p2 ve2 hve2) (SubL.of_eq rfl) (List.Perm.refl _) ?_; rintro _ _ ⟨ve3, hve3, rfl, rfl⟩ | refine s_store (a := .agg [.lit vn2, .lit ve2]) tok 2 rfl rfl rfl rfl rfl rfl (by simp [AV.storable, AV.cell, hvn2, hve2]) rfl (by decide) rfl rfl rfl (Nat.le_of_ble_eq_true rfl) ?_ | refine s_store (a := .agg [.lit vn2, .lit ve3]) tok 2 rfl rfl rfl rfl rfl rfl (by simp [AV.storable, AV.cell, hvn2, hve3]) rfl (by decide) rfl rfl rfl (Nat.le_of_ble_eq_true rfl) ?_))
            refine ⟨j + 1, ve3, ⟨by omega, hve3⟩, by omega, .sub (by exact subQ) ?_⟩
            rw [if_pos (by omega), hss, ← List.append_assoc, ← List.append_assoc]
            exact OSub.refl _
          · obtain rfl : j = k := by omega
            repeat (first | refine gA pk ?_ | (show AL _ _ _ _ _ _ _; first | refine jO tok 2 ?_ | refine jO tok 3 ?_ | refine s_call (Lc := [(me, OB.row 3 1 (rowI (mR g (plE g o j ++ stpE g o j j)))), (ve, OB.row 60 3 (eR g (plE g o j ++ stpE g o j j)))]) (Lr := [(bo, OB.box [.lit vn2, .lit ve]), (bm, OB.box [.lit mn, .lit me]), (mn, OB.row 3 1 (rowI (ms g.nodes.length (o.take (j + 1))))), (vn2, OB.row 3 1 (rowI ((o.take (j + 1)).map (nN g)))), (U3, OB.box [nilA, nilA]), (U2, OB.box [nilA, nilA])]) rfl rfl rfl rfl rfl (p1 ve hve) (SubL.of_eq rfl) (List.Perm.refl _) ?_; rintro _ _ ⟨ve2, hve2, rfl, rfl⟩ | refine s_store (a := .agg [.lit vn2, .lit ve2]) tok 2 rfl rfl rfl rfl rfl rfl (by simp [AV.storable, AV.cell, hvn2, hve2]) rfl (by decide) rfl rfl rfl (Nat.le_of_ble_eq_true rfl) ?_))
            refine ⟨j + 1, ve2, ⟨by omega, hve2⟩, by omega, .sub (by exact subQ) ?_⟩
            rw [if_neg (by omega), hps, ← List.append_assoc]
            exact OSub.refl _
      · obtain rfl : k = g.nodes.length := by omega
        rw [List.take_of_length_le (by omega), ← hol]
        have heR : eR g (plE g o o.length) = ((plE g o o.length).map (edOf g)).map cEd := by rw [List.map_map]; rfl
        generalize hX : plE g o o.length = X at *
        have hr1 : ∀ (l : List Int), ∀ x ∈ rowI l, x.length = 1 := fun l x hx => by
          obtain ⟨y, _, rfl⟩ := List.mem_map.1 hx
          rfl
        have hr3 : ∀ x ∈ eR g X, x.length = 3 := fun x hx => by
          obtain ⟨y, _, rfl⟩ := List.mem_map.1 hx
          rfl
        refine a_goto (GoTo.freeze 5 rfl (FZS.refl _) [(me, OB.row 3 1 (rowI (mR g X))), (ve, OB.row 60 3 (eR g X)), (bo, OB.box [ints (o.map (nN g)), .lit ve]), (bm, OB.box [.lit mn, .lit me]), (mn, OB.row 3 1 (rowI (ms o.length o))), (U3, OB.box [nilA, nilA]), (U2, OB.box [nilA, nilA])] (fzo_row (hr1 _) (fzo_row hr3 (fzo_box ⟨FZ.here, FZ.refl _, trivial⟩ (fzo_box (FZL.refl _) (fzo_row (hr1 _) (fzo_box (FZL.refl _) (fzo_box (FZL.refl _) (trivial))))))))) ?_
        refine a_goto (GoTo.freeze 4 rfl (FZS.refl _) [(me, OB.row 3 1 (rowI (mR g X))), (ve, OB.row 60 3 (eR g X)), (bo, OB.box [ints (o.map (nN g)), .lit ve]), (bm, OB.box [ints (ms o.length o), .lit me]), (U3, OB.box [nilA, nilA]), (U2, OB.box [nilA, nilA])] (fzo_row (hr1 _) (fzo_row hr3 (fzo_box (FZL.refl _) (fzo_box ⟨FZ.here, FZ.refl _, trivial⟩ (fzo_box (FZL.refl _) (fzo_box (FZL.refl _) (trivial)))))))) ?_
        refine a_goto (GoTo.freeze 1 rfl (FZS.refl _) [(me, OB.row 3 1 (rowI (mR g X))), (bo, OB.box [ints (o.map (nN g)), .im 3 (eR g X)]), (bm, OB.box [ints (ms o.length o), .lit me]), (U3, OB.box [nilA, nilA]), (U2, OB.box [nilA, nilA])] (fzo_row (hr1 _) (fzo_box ⟨FZ.refl _, FZ.here, trivial⟩ (fzo_box (FZL.refl _) (fzo_box (FZL.refl _) (fzo_box (FZL.refl _) (trivial))))))) ?_
        refine a_goto (GoTo.freeze 0 rfl (FZS.refl _) [(bo, OB.box [ints (o.map (nN g)), .im 3 (eR g X)]), (bm, OB.box [ints (ms o.length o), ints (mR g X)]), (U3, OB.box [nilA, nilA]), (U2, OB.box [nilA, nilA])] (fzo_box (FZL.refl _) (fzo_box ⟨FZ.refl _, FZ.here, trivial⟩ (fzo_box (FZL.refl _) (fzo_box (FZL.refl _) (trivial)))))) ?_
        refine a_frzBox 0 9 rfl rfl ?_
        refine a_frzBox 0 8 rfl rfl ?_
        rw [heR]
        repeat (first | refine gN pk ?_)
        refine a_regG ((List.range 5).map fun i => if inL [2, 3] i = true then .eff else .pure) [] [0, 1, 2, 3, 4] .stop mixed rfl rfl (by decide +kernel) ?_
        repeat' (first | (with_reducible show AG _ _ _ _ _ _ _ _ _ _; first | exact ag_none | refine ag_stop ?_ | refine ag_nd ?_ ?_) | (show AMid _ _ _ _; first | refine amid_f ?_ | refine amid_g (by first | exact OSub.refl _ | exact .drop (OSub.refl _) | exact .drop (.drop (OSub.refl _))) ?_) | refine gY pk ?_ | (show AL _ _ _ _ _ _ _; first | refine jS tok 1 ?_ | refine jS tok 0 ?_) | fail)
        repeat (first | refine gV pk ?_ | (show AL _ _ _ _ _ _ _; first | refine jS tok 1 ?_))
        refine a_frzBox 0 3 rfl rfl ?_
        refine a_frzBox 0 2 rfl rfl ?_
        refine a_ret ?_
        exact ⟨.inr rfl, _, _, [], rfl, Turn.of (Sub.refl _) (OSub.none _), rfl, rfl⟩
  · rw [if_pos h]
    generalize cvalid g = e at *
    refine a_enterM (rs := [.cell 2 25, .cell 3 38, .tmp 4]) tok Try.func22 (by kernel_rfl) rfl Try.ntmps22 rfl (by decide) (by simp) ?_
    refine a_seq ?_
    refine a_reg ?_
    repeat (first | refine gZ pk ?_ | (show AL _ _ _ _ _ _ _; first | refine jB (fun u => ?_) | refine jL tok (fun u2 => ?_)))
    refine a_frzBox 2 1 rfl rfl ?_
    repeat (first | refine gV pk ?_ | (show AL _ _ _ _ _ _ _; first | refine jP s1 ?_ | refine jS tok 1 ?_ | refine jS tok 0 ?_))
    refine a_frzBox 0 3 rfl rfl ?_
    refine a_frzBox 0 2 rfl rfl ?_
    refine a_ret ?_
    exact ⟨.inr rfl, _, _, [], rfl, Turn.of (Sub.tup (l := [.agg [nilA, nilA], .agg [nilA, nilA], AI e]) (m := [grA ⟨[], []⟩, morA ([], []), AI e]) ⟨Sub.agg (m := [ints [], edsA []]) ⟨Sub.nil 1, Sub.nil 3, trivial⟩, Sub.agg (m := [ints [], ints []]) ⟨Sub.nil 1, Sub.nil 1, trivial⟩, Sub.refl _, trivial⟩) (OSub.none _), rfl, rfl⟩
end Go.Proofs.Ytoaenbfidlgjhaa
