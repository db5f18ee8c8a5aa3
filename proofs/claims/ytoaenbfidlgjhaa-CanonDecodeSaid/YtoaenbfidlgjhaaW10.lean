/-
  The canonical graph and the isomorphism to it: the program's walks. Conditions: valid graphs of at most 8 nodes.
-/
import Derived.Test.YtoaenbfidlgjhaaSjQ8
import Derived.Test.YtoaenbfidlgjhaaW9
import Derived.Test.YtoaenbfidlgjhaaSjL29
namespace Go.Proofs.Ytoaenbfidlgjhaa
open Go.Sj Go.Sj.Typ Go.Sj.Sta Go.Sj.Can
set_option linter.unusedVariables false
set_option linter.unusedSimpArgs false
set_option maxHeartbeats 16000000

def eR (g : Gr) (X : List (Int × Int × Int)) : List (List AV) := X.map fun x => cEd (edOf g x)
def mR (g : Gr) (X : List (Int × Int × Int)) : List Int := ms g.edges.length (X.map (·.1))
abbrev putL (E1 E2 : Nat) (g : Gr) (bo bm vn mn me ve : Value) (X : List (Int × Int × Int)) : Own := [(bo, .box [.lit vn, .lit ve]), (bm, .box [.lit mn, .lit me]), (me, .row E1 1 (rowI (mR g X))), (ve, .row E2 3 (eR g X))]
theorem eR_snoc (g : Gr) (X : List (Int × Int × Int)) (x : Int × Int × Int) : eR g (X ++ [x]) = eR g X ++ [cEd (edOf g x)] := by simp [eR]
theorem eR_len (g : Gr) (X : List (Int × Int × Int)) : (eR g X).length = X.length := by simp [eR]
theorem mR_len (g : Gr) (X : List (Int × Int × Int)) : (mR g X).length = g.edges.length := ms_len _ _
theorem mR_snoc (g : Gr) (X : List (Int × Int × Int)) (i a b : Int) : mR g (X ++ [(i, a, b)]) = (mR g X).set i.toNat X.length := by
  unfold mR
  rw [List.map_append, List.map_cons, List.map_nil, ms_snoc, List.length_map]
theorem put_spec (g : Gr) (hg : GV g) (o : List Int) (ho : Cpl g.nodes.length o) (a b : Nat) (ha : a < g.nodes.length) (hb : b < g.nodes.length) (bo bm vn mn me ve : Value) (X : List (Int × Int × Int)) (hX : X.length + (putE g o a b).length ≤ 100000) :
    ACalls Try.prog 49 [AI a, AI b, .ip [tabP g], .ip [ints o], .pt bo 0 0 0, .pt bm 0 0 0, grP g] (putL 3 60 g bo bm vn mn me ve X) (fun y M => ∃ ve', y = .tup [] ∧ M = putL 3 60 g bo bm vn mn me ve' (X ++ putE g o a b)) := by
  have le : (g.edges.map cEd).length = g.edges.length := by simp
  have hel := hg.el
  have hol := ho.len
  have hnl := hg.nl
  have lo : (rowI o).length = g.nodes.length := by simp [hol]
  have xa := atO_get (o := o) (k := a) (by omega)
  have xb := atO_get (o := o) (k := b) (by omega)
  have ra := ho.po.rng _ (List.mem_of_getElem? xa)
  have rb := ho.po.rng _ (List.mem_of_getElem? xb)
  have hpe : putE g o a b = (bt g (atO o a) (atO o b)).map fun i => (i, (a : Int), (b : Int)) := rfl
  rw [hpe, List.length_map] at hX
  rw [hpe]
  generalize atO o a = p at *
  generalize atO o b = q at *
  obtain ⟨p, rfl⟩ : ∃ k : Nat, p = k := ⟨p.toNat, by omega⟩
  obtain ⟨q, rfl⟩ : ∃ k : Nat, q = k := ⟨q.toNat, by omega⟩
  have ka : (rowI o)[(a : Int).toNat]? = some [AI p] := map_get (f := cI) xa
  have kb : (rowI o)[(b : Int).toNat]? = some [AI q] := map_get (f := cI) xb
  have vk : ((List.range g.nodes.length).map fun (i : Nat) => [rowA g.nodes.length fun (j : Nat) => bt g i j])[(p : Int).toNat]? = some [rowA g.nodes.length fun (j : Nat) => bt g p j] := by rw [Int.toNat_natCast]; exact range_get (by omega)
  have wk : ((List.range g.nodes.length).map fun (j : Nat) => imI (bt g p j))[(q : Int).toNat]? = some (imI (bt g p q)) := by rw [Int.toNat_natCast]; exact range_get (by omega)
  have lv : ((List.range g.nodes.length).map fun (i : Nat) => [rowA g.nodes.length fun (j : Nat) => bt g i j]).length = g.nodes.length := by simp
  have lw : ((List.range g.nodes.length).map fun (j : Nat) => imI (bt g p j)).length = g.nodes.length := by simp
  have hm := fun i (h : i ∈ bt g p q) => bt_rng h
  have het := fun (k : Nat) (h : k < g.edges.length) => hg.edges _ (List.getElem_mem h)
  have lb : (rowI (bt g p q)).length = (bt g p q).length := by simp
  generalize bt g p q = B at *
  clear ra rb hpe
  refine a_enter Try.func49 (by kernel_rfl) rfl Try.ntmps49 rfl (by simp) ?_
  repeat (first | refine gA pk ?_ | (show AL _ _ _ _ _ _ _; first | refine jX tok ka ?_ | refine jX tok kb ?_ | refine jX tok vk ?_ | refine jX tok wk ?_))
  rw [lb]
  refine a_loop2 (fun (c : Nat) (ve : Value) => [(0, AI a), (1, AI b), (4, .pt bo 0 0 0), (5, .pt bm 0 0 0), (6, grP g), (26, ints B), (27, AI B.length), (28, AI c)]) (fun c ve => putL 3 60 g bo bm vn mn me ve (X ++ (B.take c).map fun i => (i, (a : Int), (b : Int)))) (fun c ve => c ≤ B.length) (fun c ve => B.length - c) 0 ve (Nat.zero_le _) ?_ (by rw [List.take_zero, List.map_nil, List.append_nil]; exact OSub.refl _) ?_
  · exact subQ
  · intro c ve hc
    rcases Nat.lt_or_ge c B.length with h | h
    · have hx := List.getElem?_eq_getElem h
      obtain ⟨i, hi, hil⟩ := hm _ (List.getElem_mem h)
      rw [hi] at hx
      have hxe := List.getElem?_eq_getElem hil
      have hty := tyI_get hxe
      have he := het i hil
      generalize g.edges[i] = e at hxe hty he
      obtain ⟨e1, e2, e3⟩ := e
      simp only at hty he
      have xk : (rowI B)[(c : Int).toNat]? = some [AI i] := map_get (f := cI) hx
      have ek : (g.edges.map cEd)[(i : Int).toNat]? = some [AI e1, AI e2, AI e3] := map_get (f := cEd) hxe
      have hs : (X ++ (B.take (c + 1)).map fun i => (i, (a : Int), (b : Int))) = (X ++ (B.take c).map fun i => (i, (a : Int), (b : Int))) ++ [((i : Int), (a : Int), (b : Int))] := by
        rw [List.take_add_one, hx, List.map_append, ← List.append_assoc]
        rfl
      have hlX : (X ++ (B.take c).map fun i => (i, (a : Int), (b : Int))).length ≤ 100000 := by
        rw [List.length_append, List.length_map, List.length_take]; omega
      generalize (X ++ (B.take c).map fun i => (i, (a : Int), (b : Int))) = Y at *
      have hm1 := mR_snoc g Y i a b
      have he1 := eR_snoc g Y (i, a, b)
      have hed : cEd (edOf g ((i : Int), (a : Int), (b : Int))) = [AI e1, AI a, AI b] := by unfold edOf cEd; simp only [hty]
      rw [hed] at he1
      have lmr := mR_len g Y
      have ler := eR_len g Y
      have lmr' : (rowI (mR g Y)).length = g.edges.length := by rw [List.length_map, lmr]
      repeat (first | refine gN pk ?_ | (show AL _ _ _ _ _ _ _; first | refine jX tok xk ?_ | refine jO tok 0 ?_ | refine jO tok 1 ?_ | refine s_ownLen tok 3 rfl rfl rfl rfl (by decide) rfl rfl rfl ?_ | refine s_ownIndex tok 2 rfl rfl rfl rfl (by decide) rfl rfl rfl rfl rfl rfl (by omega) (by omega) ?_ | refine s_storeI tok 2 rfl rfl rfl rfl rfl rfl rfl rfl (by omega) ?_))
      rw [ler]
      rw [← hm1]
      refine a_regG ((List.range 15).map fun i => if inL [11, 12, 14] i = true then .eff else if inL [1] i = true then .read else .pure) [11] [0, 1, 2, 3, 4, 5, 6, 7, 8, 9, 10] (.nd 11 [12, 13, 14] .stop .stop) mixed rfl rfl (by decide +kernel) ?_
      repeat' (first | (with_reducible show AG _ _ _ _ _ _ _ _ _ _; first | exact ag_none | refine ag_stop ?_ | refine ag_nd ?_ ?_) | (show AMid _ _ _ _; first | refine amid_f ?_ | refine amid_g (by first | exact OSub.refl _ | exact .drop (OSub.refl _) | exact .drop (.drop (OSub.refl _))) ?_) | refine gY pk ?_ | (show AL _ _ _ _ _ _ _; first | refine jO tok 0 ?_ | refine jX tok ek ?_ | refine s_build1A tok rfl rfl rfl rfl rfl rfl rfl rfl (by decide) (fun lv => ?_) | refine s_append1K tok 3 rfl rfl rfl rfl rfl rfl (by decide) rfl rfl rfl rfl (by omega) (by omega) (fun w hw => ?_) | refine s_storeB tok 0 rfl rfl rfl rfl rfl rfl rfl (by assumption) rfl (Nat.le_of_ble_eq_true rfl) rfl ?_) | fail)
      repeat (first | refine gA pk ?_)
      refine ⟨c + 1, w, by omega, by omega, by exact subQ, ?_⟩
      rw [hs]
      show OSub [(bo, .box [.lit vn, .lit w]), (bm, .box [.lit mn, .lit me]), (me, .row 3 1 (rowI (mR g (Y ++ [((i : Int), (a : Int), (b : Int))])))), (w, .row 60 3 (eR g (Y ++ [((i : Int), (a : Int), (b : Int))])))] _
      rw [he1]
      exact OSub.refl _
    · obtain rfl : c = B.length := by omega
      rw [List.take_length]
      repeat (first | refine gA pk ?_)
      refine fin (x := .tup []) (.inl rfl) rfl (Sub.refl _) ⟨_, rfl, rfl⟩ (OSub.refl _)
theorem stpE_le (g : Gr) (o : List Int) (k : Nat) (h : g.edges.length ≤ 80) : ∀ j, (stpE g o k j).length ≤ j * 160
  | 0 => Nat.zero_le _
  | j + 1 => by
    have ih := stpE_le g o k h j
    have h1 := bt_le g (atO o j) (atO o k)
    have h2 := bt_le g (atO o k) (atO o j)
    rw [stpE_succ, List.length_append, List.length_append]
    unfold putE
    rw [List.length_map, List.length_map]
    omega
theorem putE_le (g : Gr) (o : List Int) (a b : Nat) : (putE g o a b).length ≤ g.edges.length := by
  have h1 := bt_le g (atO o a) (atO o b)
  unfold putE
  rw [List.length_map]
  exact h1
theorem fzo_box {v : Value} {sz : Nat} {es : List (List AV)} {u : Value} {c c' : List AV} {L M : Own} (h : FZL v sz es c c') (k : FZO v sz es L M) : FZO v sz es ((u, .box c) :: L) ((u, .box c') :: M) := ⟨rfl, h, k⟩
theorem fzo_row {v : Value} {sz : Nat} {es : List (List AV)} {u : Value} {E s : Nat} {e : List (List AV)} {L M : Own} (h : ∀ x ∈ e, x.length = s) (k : FZO v sz es L M) : FZO v sz es ((u, .row E s e) :: L) ((u, .row E s e) :: M) := ⟨rfl, rfl, rfl, rfl, h, FZL.refl _, k⟩
abbrev morA (m : List Int × List Int) : AV := .agg [ints m.1, ints m.2]
def canM (g : Gr) : List Int × List Int := (ms g.nodes.length (ordG g), ms g.edges.length (canE g (ordG g)))
def canR (g : Gr) : Gr × (List Int × List Int) × Int := if cvalid g ≠ 0 then (⟨[], []⟩, ([], []), cvalid g) else (canG g, canM g, 0)
abbrev cRes (r : Gr × (List Int × List Int) × Int) : AV := .tup [grA r.1, morA r.2.1, AI r.2.2]
theorem COf_spec (g : Gr) (hg : OkG g) (hs : cvalid g = 0 → OkS' g) : Pure Try.prog 21 [grA g] (cRes (canR g)) := by
  have s1 := cvalid_spec g hg
  have ln : (rowI g.nodes).length = g.nodes.length := by simp
  have le : (g.edges.map cEd).length = g.edges.length := by simp
  unfold canR
  by_cases h : cvalid g = 0
  · have hV := cvalid_zero.1 h
    have hel := hV.1.el
    have hnl := hV.1.nl
    have s2 := tabled_spec g hV.1 hV.2 (hs h)
    have s3 := best_spec g hV.1 hV.2
    have ho := (findG_eq g).2.1
    have sp := fun (a b : Nat) (ha : a < g.nodes.length) (hb : b < g.nodes.length) => put_spec g hV.1 (ordG g) ho a b ha hb
    have hpl := fun (k : Nat) (hk : k ≤ (ordG g).length) => plE_le g ho.po hk
    have hol := ho.len
    have lo : (rowI (ordG g)).length = g.nodes.length := by simp [hol]
    have hcg : canG g = ⟨(ordG g).map (nN g), (plE g (ordG g) (ordG g).length).map (edOf g)⟩ := rfl
    have hcm : canM g = (ms g.nodes.length (ordG g), mR g (plE g (ordG g) (ordG g).length)) := rfl
    rw [if_neg (Decidable.not_not.2 h)]
    rw [h] at s1
    rw [hcg, hcm]
    clear hcg hcm
    generalize codG g = c at *
    generalize ordG g = o at *
    have z1 : List.replicate (((rowI g.nodes).length : Int)).toNat (List.map AV.lit [Value.int IntKind.i64 0]) = rowI (ms g.nodes.length []) := by simp [ms_nil, cI]
    have z2 : List.replicate (((g.edges.map cEd).length : Int)).toNat (List.map AV.lit [Value.int IntKind.i64 0]) = rowI (mR g []) := by simp [mR, ms_nil, cI]
    refine a_enterM (rs := [.cell 2 25, .cell 3 38, .tmp 4]) tok Try.func21 (by kernel_rfl) rfl Try.ntmps21 rfl (by decide) (by simp) ?_
    refine a_seq ?_
    refine a_reg ?_
    repeat (first | refine gZ pk ?_ | (show AL _ _ _ _ _ _ _; first | refine jB (fun u => ?_) | refine jL tok (fun u2 => ?_)))
    refine a_frzBox 2 1 rfl rfl ?_
    repeat (first | refine gN pk ?_ | (show AL _ _ _ _ _ _ _; first | refine jP s1 ?_ | refine jP s2 ?_ | refine jP s3 ?_ | refine jL tok (fun u6 => ?_) | refine jS tok 0 ?_ | refine jO tok 0 ?_))
    refine a_frzBox 0 7 rfl rfl ?_
    refine a_frzBox 0 6 rfl rfl ?_
    refine AWp.mono (Q := fun e st L => e = .normal ∧ ∃ mn me bm U3 U2, GoTo 81 st L (lk [(1, grP g), (2, .pt U2 0 0 0), (3, .pt U3 0 0 0), (6, .ip [tabP g]), (7, .ip [ints o]), (9, .pt bm 0 0 0)]) [(mn, OB.row 3 1 (rowI (ms g.nodes.length []))), (me, OB.row 3 1 (rowI (mR g []))), (bm, OB.box [.lit mn, .lit me]), (U3, OB.box [nilA, nilA]), (U2, OB.box [nilA, nilA])]) ?_ (fun e st L h => ?_)
    · refine a_regG ((List.range 11).map fun i => if inL [3, 7, 9, 10] i = true then .eff else .pure) [] [0, 1, 2, 4, 5, 6] (.nd 3 [] (.nd 7 [8, 9, 10] .stop (.nd 9 [7, 8, 10] .stop .stop)) (.nd 7 [] (.nd 3 [8, 9, 10] .stop (.nd 9 [3, 8, 10] .stop .stop)) (.nd 9 [] (.nd 3 [7, 8, 10] .stop (.nd 7 [3, 8, 10] .stop .stop)) .stop))) mixed rfl rfl (by decide +kernel) ?_
      repeat' (first | (with_reducible show AG _ _ _ _ _ _ _ _ _ _; first | exact ag_none | refine ag_stop ?_ | refine ag_nd ?_ ?_) | (show AMid _ _ _ _; first | refine amid_f ?_ | refine amid_g (by first | exact OSub.refl _ | exact .drop (OSub.refl _) | exact .drop (.drop (OSub.refl _))) ?_) | refine gY pk ?_ | (show AL _ _ _ _ _ _ _; first | refine s_makeQ tok rfl rfl rfl rfl rfl rfl rfl rfl z1 (by omega) (by omega) (by simp; omega) (by omega) (fun a m j => ?_) | refine s_makeQ tok rfl rfl rfl rfl rfl rfl rfl rfl z2 (by omega) (by omega) (by simp; omega) (by omega) (fun a m j => ?_) | refine jL tok (fun u => ?_) | refine jS tok 0 ?_ | refine jS tok 1 ?_ | refine jS tok 2 ?_) | fail)
      all_goals
        first | exact ⟨rfl, _, _, _, _, _, (GoTo.sub (by exact subQ) (OSub.refl _)).trans (GoTo.perm (List.Perm.refl _))⟩ | exact ⟨rfl, _, _, _, _, _, (GoTo.sub (by exact subQ) (OSub.refl _)).trans (GoTo.perm (List.Perm.append_right [_, _] (perm3 _ _ _).1))⟩ | exact ⟨rfl, _, _, _, _, _, (GoTo.sub (by exact subQ) (OSub.refl _)).trans (GoTo.perm (List.Perm.append_right [_, _] (perm3 _ _ _).2.1))⟩ | exact ⟨rfl, _, _, _, _, _, (GoTo.sub (by exact subQ) (OSub.refl _)).trans (GoTo.perm (List.Perm.append_right [_, _] (perm3 _ _ _).2.2.1))⟩ | exact ⟨rfl, _, _, _, _, _, (GoTo.sub (by exact subQ) (OSub.refl _)).trans (GoTo.perm (List.Perm.append_right [_, _] (perm3 _ _ _).2.2.2.1))⟩ | exact ⟨rfl, _, _, _, _, _, (GoTo.sub (by exact subQ) (OSub.refl _)).trans (GoTo.perm (List.Perm.append_right [_, _] (perm3 _ _ _).2.2.2.2.1))⟩
    · obtain ⟨rfl, mn, me, bm, U3, U2, h⟩ := h
      refine a_goto h ?_
      clear h
      repeat (first | refine gN pk ?_)
      repeat (first | refine gZ pk ?_ | (show AL _ _ _ _ _ _ _; first | refine jL tok (fun bo => ?_)))
      repeat (first | refine gN pk ?_)
      rw [lo]
      refine a_loopG3 (fun (k : Nat) (vn ve : Value) => [(1, grP g), (2, .pt U2 0 0 0), (3, .pt U3 0 0 0), (9, .pt bm 0 0 0), (10, .pt bo 0 0 0), (11, .fn (.func 49) [] [.ip [tabP g], .ip [ints o], .pt bo 0 0 0, .pt bm 0 0 0, grP g]), (39, ints o), (40, AI g.nodes.length), (41, AI k)]) (fun k vn ve => putL 3 60 g bo bm vn mn me ve (plE g o k) ++ [(mn, OB.row 3 1 (rowI (ms g.nodes.length (o.take k)))), (vn, OB.row 3 1 (rowI ((o.take k).map (nN g)))), (U3, OB.box [nilA, nilA]), (U2, OB.box [nilA, nilA])]) (fun k vn ve => k ≤ g.nodes.length) (fun k _ _ => g.nodes.length - k) 0 (.slice none 0 0) (.slice none 0 0) (Nat.zero_le _) (GoTo.trans (GoTo.perm (L' := [(bo, OB.box [nilA, nilA]), (bm, OB.box [.lit mn, .lit me]), (me, OB.row 3 1 (rowI (mR g []))), (mn, OB.row 3 1 (rowI (ms g.nodes.length []))), (U3, OB.box [nilA, nilA]), (U2, OB.box [nilA, nilA])]) (List.Perm.cons _ (List.Perm.append_right [_, _] (perm3 _ _ _).2.2.1))) (.sub (by exact subQ) (.keep (.keep (.keep (.free (.keep (.free (OSub.refl _))))))))) ?_
      intro k vn ve hk
      rcases Nat.lt_or_ge k g.nodes.length with h | h
      · have hx := atO_get (o := o) (k := k) (by omega)
        have hxr := ho.po.rng _ (List.mem_of_getElem? hx)
        have hmk : ms g.nodes.length (o.take (k + 1)) = (ms g.nodes.length (o.take k)).set (atO o k).toNat k := by
          rw [Go.Sj.Can.take_snoc o (by omega), ms_snoc, List.length_take, Nat.min_eq_left (by omega)]
        have hnk : rowI ((o.take (k + 1)).map (nN g)) = rowI ((o.take k).map (nN g)) ++ [[AI (nN g (atO o k))]] := by
          rw [Go.Sj.Can.take_snoc o (by omega)]
          simp [cI]
        have nk : (rowI g.nodes)[(atO o k).toNat]? = some [AI (nN g (atO o k))] := map_get (f := cI) (nodeAt_get hxr.1 hxr.2)
        have xk : (rowI o)[(k : Int).toNat]? = some [AI (atO o k)] := map_get (f := cI) hx
        have hpl1 := hpl k (by omega)
        have hst := fun j => stpE_le g o k hel j
        have hpu := fun a b => putE_le g o a b
        have lms : (ms g.nodes.length (o.take k)).length = g.nodes.length := ms_len _ _
        have lms' : (rowI (ms g.nodes.length (o.take k))).length = g.nodes.length := by rw [List.length_map, lms]
        have lvn : (rowI ((o.take k).map (nN g))).length = k := by simp; omega
        have hps := plE_succ g o k
        generalize hxv : atO o k = x at *
        generalize nN g x = nx at *
        repeat (first | refine gN pk ?_ | (show AL _ _ _ _ _ _ _; first | refine jX tok xk ?_ | refine jO tok 1 ?_ | refine s_ownIndex tok 4 rfl rfl rfl rfl (by decide) rfl rfl rfl rfl rfl rfl (by omega) (by omega) ?_ | refine s_storeI tok 4 rfl rfl rfl rfl rfl rfl rfl rfl (by omega) ?_))
        rw [← hmk]
        refine a_regG ((List.range 11).map fun i => if inL [7, 8, 10] i = true then .eff else if inL [1] i = true then .read else .pure) [7] [0, 1, 2, 3, 4, 5, 6] (.nd 7 [8, 9, 10] .stop .stop) mixed rfl rfl (by decide +kernel) ?_
        repeat' (first | (with_reducible show AG _ _ _ _ _ _ _ _ _ _; first | exact ag_none | refine ag_stop ?_ | refine ag_nd ?_ ?_) | (show AMid _ _ _ _; first | refine amid_f ?_ | refine amid_g (by first | exact OSub.refl _ | exact .drop (OSub.refl _) | exact .drop (.drop (OSub.refl _))) ?_) | refine gY pk ?_ | (show AL _ _ _ _ _ _ _; first | refine jO tok 0 ?_ | refine jX tok nk ?_ | refine s_build1 tok rfl rfl rfl rfl rfl rfl rfl rfl (fun lv => ?_) | refine s_append1K tok 5 rfl rfl rfl rfl rfl rfl (by decide) rfl rfl rfl rfl (by omega) (by omega) (fun vn2 hw => ?_) | refine s_storeB tok 0 rfl rfl rfl rfl rfl rfl rfl (by assumption) rfl (Nat.le_of_ble_eq_true rfl) rfl ?_) | fail)
        rw [← hnk]
        repeat (first | refine gN pk ?_)
        refine a_loopG2 (fun (j : Nat) (ve : Value) => [(1, grP g), (2, .pt U2 0 0 0), (3, .pt U3 0 0 0), (9, .pt bm 0 0 0), (10, .pt bo 0 0 0), (11, .fn (.func 49) [] [.ip [tabP g], .ip [ints o], .pt bo 0 0 0, .pt bm 0 0 0, grP g]), (39, ints o), (40, AI g.nodes.length), (41, AI k), (12, AI k), (61, AI k), (62, AI j)]) (fun j ve => putL 3 60 g bo bm vn2 mn me ve (plE g o k ++ stpE g o k j) ++ [(mn, OB.row 3 1 (rowI (ms g.nodes.length (o.take (k + 1))))), (vn2, OB.row 3 1 (rowI ((o.take (k + 1)).map (nN g)))), (U3, OB.box [nilA, nilA]), (U2, OB.box [nilA, nilA])]) (fun j ve => j ≤ k) (fun j _ => k - j) 0 ve (Nat.zero_le _) (.sub (by exact subQ) (by rw [show stpE g o k 0 = [] from rfl, List.append_nil]; exact OSub.refl _)) ?_
        clear ve
        intro j ve hj
        rcases Nat.lt_or_ge j k with h2 | h2
        · have l1 := hst j
          have l2 := hpu j k
          have l3 := hpu k j
          have p1 := fun ve => sp j k (by omega) h bo bm vn2 mn me ve (plE g o k ++ stpE g o k j) (by rw [List.length_append]; omega)
          have p2 := fun ve => sp k j h (by omega) bo bm vn2 mn me ve ((plE g o k ++ stpE g o k j) ++ putE g o j k) (by rw [List.length_append, List.length_append]; omega)
          have hss := stpE_succ g o k j
          repeat (first | refine gA pk ?_ | (show AL _ _ _ _ _ _ _; first | refine s_call (Lc := putL 3 60 g bo bm vn2 mn me ve (plE g o k ++ stpE g o k j)) (Lr := [(mn, OB.row 3 1 (rowI (ms g.nodes.length (o.take (k + 1))))), (vn2, OB.row 3 1 (rowI ((o.take (k + 1)).map (nN g)))), (U3, OB.box [nilA, nilA]), (U2, OB.box [nilA, nilA])]) rfl rfl rfl rfl rfl (p1 ve) (SubL.of_eq rfl) (List.Perm.refl _) ?_; rintro _ _ ⟨ve2, rfl, rfl⟩ | refine s_call (Lc := putL 3 60 g bo bm vn2 mn me ve2 ((plE g o k ++ stpE g o k j) ++ putE g o j k)) (Lr := [(mn, OB.row 3 1 (rowI (ms g.nodes.length (o.take (k + 1))))), (vn2, OB.row 3 1 (rowI ((o.take (k + 1)).map (nN g)))), (U3, OB.box [nilA, nilA]), (U2, OB.box [nilA, nilA])]) rfl rfl rfl rfl rfl (p2 ve2) (SubL.of_eq rfl) (List.Perm.refl _) ?_; rintro _ _ ⟨ve3, rfl, rfl⟩))
          refine ⟨j + 1, ve3, by omega, by omega, .sub (by exact subQ) ?_⟩
          rw [hss, ← List.append_assoc, ← List.append_assoc]
          exact OSub.refl _
        · obtain rfl : j = k := by omega
          have l1 := hst j
          have l2 := hpu j j
          have p1 := fun ve => sp j j h h bo bm vn2 mn me ve (plE g o j ++ stpE g o j j) (by rw [List.length_append]; omega)
          repeat (first | refine gA pk ?_ | (show AL _ _ _ _ _ _ _; first | refine s_call (Lc := putL 3 60 g bo bm vn2 mn me ve (plE g o j ++ stpE g o j j)) (Lr := [(mn, OB.row 3 1 (rowI (ms g.nodes.length (o.take (j + 1))))), (vn2, OB.row 3 1 (rowI ((o.take (j + 1)).map (nN g)))), (U3, OB.box [nilA, nilA]), (U2, OB.box [nilA, nilA])]) rfl rfl rfl rfl rfl (p1 ve) (SubL.of_eq rfl) (List.Perm.refl _) ?_; rintro _ _ ⟨ve2, rfl, rfl⟩))
          refine ⟨j + 1, vn2, ve2, by omega, by omega, .sub (by exact subQ) ?_⟩
          rw [hps, ← List.append_assoc]
          exact OSub.refl _
      · obtain rfl : k = g.nodes.length := by omega
        rw [List.take_of_length_le (by omega), ← hol]
        have heR : eR g (plE g o o.length) = ((plE g o o.length).map (edOf g)).map cEd := by rw [List.map_map]; rfl
        generalize hX : plE g o o.length = X at *
        have hr1 : ∀ (l : List Int), ∀ x ∈ rowI l, x.length = 1 := fun l x hx => by
          obtain ⟨y, _, rfl⟩ := List.mem_map.1 hx
          rfl
        have hr3 : ∀ x ∈ eR g X, x.length = 3 := fun x hx => by
          obtain ⟨y, _, rfl⟩ := List.mem_map.1 hx
          rfl
        refine a_goto (GoTo.freeze 5 rfl (FZS.refl _) [(bo, OB.box [ints (o.map (nN g)), .lit ve]), (bm, OB.box [.lit mn, .lit me]), (me, OB.row 3 1 (rowI (mR g X))), (ve, OB.row 60 3 (eR g X)), (mn, OB.row 3 1 (rowI (ms o.length o))), (U3, OB.box [nilA, nilA]), (U2, OB.box [nilA, nilA])] (fzo_box ⟨FZ.here, FZ.refl _, trivial⟩ (fzo_box (FZL.refl _) (fzo_row (hr1 _) (fzo_row hr3 (fzo_row (hr1 _) (fzo_box (FZL.refl _) (fzo_box (FZL.refl _) trivial)))))))) ?_
        refine a_goto (GoTo.freeze 4 rfl (FZS.refl _) [(bo, OB.box [ints (o.map (nN g)), .lit ve]), (bm, OB.box [ints (ms o.length o), .lit me]), (me, OB.row 3 1 (rowI (mR g X))), (ve, OB.row 60 3 (eR g X)), (U3, OB.box [nilA, nilA]), (U2, OB.box [nilA, nilA])] (fzo_box (FZL.refl _) (fzo_box ⟨FZ.here, FZ.refl _, trivial⟩ (fzo_row (hr1 _) (fzo_row hr3 (fzo_box (FZL.refl _) (fzo_box (FZL.refl _) trivial))))))) ?_
        refine a_goto (GoTo.freeze 3 rfl (FZS.refl _) [(bo, OB.box [ints (o.map (nN g)), .im 3 (eR g X)]), (bm, OB.box [ints (ms o.length o), .lit me]), (me, OB.row 3 1 (rowI (mR g X))), (U3, OB.box [nilA, nilA]), (U2, OB.box [nilA, nilA])] (fzo_box ⟨FZ.refl _, FZ.here, trivial⟩ (fzo_box (FZL.refl _) (fzo_row (hr1 _) (fzo_box (FZL.refl _) (fzo_box (FZL.refl _) trivial)))))) ?_
        refine a_goto (GoTo.freeze 2 rfl (FZS.refl _) [(bo, OB.box [ints (o.map (nN g)), .im 3 (eR g X)]), (bm, OB.box [ints (ms o.length o), ints (mR g X)]), (U3, OB.box [nilA, nilA]), (U2, OB.box [nilA, nilA])] (fzo_box (FZL.refl _) (fzo_box ⟨FZ.refl _, FZ.here, trivial⟩ (fzo_box (FZL.refl _) (fzo_box (FZL.refl _) trivial))))) ?_
        refine a_frzBox 0 10 rfl rfl ?_
        refine a_frzBox 0 9 rfl rfl ?_
        rw [heR]
        repeat (first | refine gN pk ?_)
        refine a_regG ((List.range 5).map fun i => if inL [2, 3] i = true then .eff else .pure) [] [0, 1, 2, 3, 4] .stop mixed rfl rfl (by decide +kernel) ?_
        repeat' (first | (with_reducible show AG _ _ _ _ _ _ _ _ _ _; first | exact ag_none | refine ag_stop ?_ | refine ag_nd ?_ ?_) | (show AMid _ _ _ _; first | refine amid_f ?_ | refine amid_g (by first | exact OSub.refl _ | exact .drop (OSub.refl _) | exact .drop (.drop (OSub.refl _))) ?_) | refine gY pk ?_ | (show AL _ _ _ _ _ _ _; first | refine jS tok 1 ?_ | refine jS tok 0 ?_) | fail)
        repeat (first | refine gV pk ?_ | (show AL _ _ _ _ _ _ _; first | refine jS tok 1 ?_))
        refine a_frzBox 0 3 rfl rfl ?_
        refine a_frzBox 0 2 rfl rfl ?_
        refine a_ret ?_
        exact ⟨.inr rfl, _, _, [], rfl, Turn.of (Sub.refl _) (OSub.none _), rfl, rfl⟩
  · rw [if_pos h]
    generalize cvalid g = e at *
    refine a_enterM (rs := [.cell 2 25, .cell 3 38, .tmp 4]) tok Try.func21 (by kernel_rfl) rfl Try.ntmps21 rfl (by decide) (by simp) ?_
    refine a_seq ?_
    refine a_reg ?_
    repeat (first | refine gZ pk ?_ | (show AL _ _ _ _ _ _ _; first | refine jB (fun u => ?_) | refine jL tok (fun u2 => ?_)))
    refine a_frzBox 2 1 rfl rfl ?_
    repeat (first | refine gV pk ?_ | (show AL _ _ _ _ _ _ _; first | refine jP s1 ?_ | refine jS tok 1 ?_ | refine jS tok 0 ?_))
    refine a_frzBox 0 3 rfl rfl ?_
    refine a_frzBox 0 2 rfl rfl ?_
    refine a_ret ?_
    exact ⟨.inr rfl, _, _, [], rfl, Turn.of (Sub.tup (l := [.agg [nilA, nilA], .agg [nilA, nilA], AI e]) (m := [grA ⟨[], []⟩, morA ([], []), AI e]) ⟨Sub.agg (m := [ints [], edsA []]) ⟨Sub.nil 1, Sub.nil 3, trivial⟩, Sub.agg (m := [ints [], ints []]) ⟨Sub.nil 1, Sub.nil 1, trivial⟩, Sub.refl _, trivial⟩) (OSub.none _), rfl, rfl⟩
end Go.Proofs.Ytoaenbfidlgjhaa
