/-
  Walks: Z18, Z19.
-/
import Derived.Test.YtcacbdohlfljfaaGreatSjQ8
import Derived.Test.YtcacbdohlfljfaaGreatZ7
import Derived.Test.YtcacbdohlfljfaaGreatY18
import Derived.Test.YtcacbdohlfljfaaGreatY23
import Derived.Test.YtcacbdohlfljfaaGreatSjQ6
import Derived.Test.YtcacbdohlfljfaaGreatSjQN
/-
  Graphs that numbers describe: the walk.
-/
namespace Go.Proofs.YtcacbdohlfljfaaGreat
open Go.Sj Go.Sj.Typ Go.Sj.Sta
set_option linter.unusedVariables false
set_option linter.unusedSimpArgs false
set_option maxHeartbeats 16000000

theorem madeM (t : Tys) (ns : List Int) (es : List (Int × Int × Int)) : ∃ M, (M ≤ 12 ∧ M ≤ es.length) ∧ (0 < M → 0 < ns.length ∧ 0 < t.edges.length) ∧ madeGM t ns es = es.take M ∧ (es.length ≤ M ∨ 12 ≤ M ∨ ns.length = 0 ∨ t.edges.length = 0) := by
  unfold madeGM
  by_cases h : ns.length = 0 ∨ t.edges.length = 0
  · exact ⟨0, by omega, by omega, by rw [if_pos h]; rfl, by omega⟩
  · exact ⟨min 12 es.length, by omega, by omega, by rw [if_neg h]; exact (List.take_eq_take_iff).2 (by omega), by omega⟩
theorem madeGE_succ {t : Tys} {ns : List Int} {es : List (Int × Int × Int)} {i : Nat} {c : Int × Int × Int} (hc : es[i]? = some c) :
    madeGE t ns (es.take (i + 1)) = madeGE t ns (es.take i) ++ (if edFits t ns (inE ns.length t.edges.length c) = true then [inE ns.length t.edges.length c] else []) := by
  obtain ⟨hk, rfl⟩ := List.getElem?_eq_some_iff.1 hc
  unfold madeGE
  rw [List.take_succ_eq_append_getElem hk, List.map_append, List.filter_append]
  congr 1
  simp only [List.map_cons, List.map_nil, List.filter_cons, List.filter_nil]
theorem obI {E : Nat} {l : List Int} {j : Nat} (h : j < l.length) : obAt (.row E 1 (rowI l)) j 0 = some [AI (l.getD j 0)] := by
  simp only [obAt, List.getElem?_map, List.getElem?_eq_getElem h, Option.map_some, List.getD_eq_getElem?_getD]; rfl
theorem refMade18_spec (t : Tys) (ht : Small t) (hn : 0 < t.nodes.length) (l : List Int) (hl : ∀ n ∈ l, 0 ≤ n ∧ n ≤ 255) (hll : l.length ≤ 140737488355328) (es : List (Int × Int × Int)) (he : ∀ c ∈ es, In3 c) (hel : es.length ≤ 140737488355328) :
    Pure Tryz.prog 60 [tysA t, bytesA l, .im 3 (es.map c83), AI 8] (grA (madeG t l es)) := by
  have l1 : (l.map c8).length = l.length := by simp
  have l2 : (es.map c83).length = es.length := by simp
  have lt : (t.nodes.map cNod).length = t.nodes.length := by simp
  have lte : (t.edges.map cEdg).length = t.edges.length := by simp
  have htn := ht.nodes
  have hte := ht.edges
  obtain ⟨ns, hns⟩ : ∃ ns, madeGN t l = ns := ⟨_, rfl⟩
  have hns' : ns = (l.take (min 8 l.length)).map fun x => x % ((t.nodes.map cNod).length : Int) := by
    rw [← hns, madeGN, lt]
    congr 1
    exact (List.take_eq_take_iff).2 (by omega)
  have hnl : ns.length ≤ 8 := by rw [hns', List.length_map, List.length_take]; omega
  have lns : (rowI ns).length = ns.length := by simp
  obtain ⟨M, hM1, hM2, hM3, hM4⟩ := madeM t ns es
  have hgoal : madeG t l es = ⟨ns, madeGE t ns (es.take M)⟩ := by rw [madeG, hns, hM3]
  rw [hgoal]
  refine a_enterC Tryz.func60 (by kernel_rfl) rfl Tryz.ntmps60 rfl (tok _ _ rfl) (by simp) ?_
  refine a_seq ?_
  refine a_reg ?_
  repeat (first | refine gZ pk ?_ | (show AL _ _ _ _ _ _ _; first | refine jB (fun u => ?_) | refine jL tok (fun u8 => ?_)))
  refine a_frzBox 1 4 rfl rfl ?_
  repeat (first | refine gN pk ?_ | (show AL _ _ _ _ _ _ _; first | refine jL tok (fun u9 => ?_)))
  refine a_loop2 (fun (i : Nat) (v : Value) => [(1, bytesA l), (2, .im 3 (es.map c83)), (3, AI 8), (4, tysP t), (8, .pt u8 0 0 0), (9, .pt u9 0 0 0), (10, AI i)]) (fun i v => [(v, .row 3 1 (rowI ((l.take i).map fun x => x % ((t.nodes.map cNod).length : Int)))), (u9, .box [.lit v, .lit (.slice none 0 0)]), (u8, .box [.lit (.slice none 0 0), .lit (.slice none 0 0)])]) (fun i v => i ≤ min 8 l.length) (fun i v => min 8 l.length - i) 0 (.slice none 0 0) (Nat.zero_le _) ?_ (.free (OSub.refl _)) ?_
  · exact subQ
  · intro i v hi
    by_cases hlt : i < min 8 l.length
    · have hx := List.getElem?_eq_getElem (l := l) (i := i) (by omega)
      have hr := hl _ (List.getElem_mem (l := l) (n := i) (by omega))
      have hsn : rowI ((l.take (i + 1)).map fun x => x % ((t.nodes.map cNod).length : Int)) = rowI ((l.take i).map fun x => x % ((t.nodes.map cNod).length : Int)) ++ [[AI (l[i] % ((t.nodes.map cNod).length : Int))]] := by
        rw [List.take_succ_eq_append_getElem (by omega), List.map_append]
        show ((_ ++ [_]).map cI) = _
        rw [List.map_append]; rfl
      generalize l[i] = x at *
      have xk : (l.map c8)[(i : Int).toNat]? = some [A8 x] := map_get (f := c8) hx
      have m1 := Int.emod_nonneg x (b := ((t.nodes.map cNod).length : Int)) (by omega)
      have m2 := Int.emod_lt_of_pos x (b := ((t.nodes.map cNod).length : Int)) (by omega)
      have lr : (rowI ((l.take i).map fun x => x % ((t.nodes.map cNod).length : Int))).length = i := by simp only [List.length_map, List.length_take]; omega
      repeat (first | refine gN pk ?_)
      refine a_regTK (ks := (List.range 15).map fun i => if i = 1 ∨ i = 11 ∨ i = 12 ∨ i = 14 then .eff else .pure) (.br [0, 2, 3, 4, 5, 6, 7, 8, 9, 10] (.seg [1, 11, 12, 13, 14]) (.seg [11, 1, 12, 13, 14])) mixed rfl rfl (by decide +kernel) (atk_br ?_)
      repeat (first | refine gY pk ?_ | (show AL _ _ _ _ _ _ _; first | refine jX tok xk ?_ | refine s_conv tok rfl rfl rfl rfl rfl rfl rfl (IntWalk.i64_in _ (by omega)) ?_ | refine s_rem rfl rfl rfl rfl rfl rfl (by omega) (by omega) ?_))
      refine ⟨atk_seg ?_, atk_seg ?_⟩
      · repeat (first | refine gY pk ?_ | (show AL _ _ _ _ _ _ _; first | refine jO tok 1 ?_))
        refine s_build1 tok rfl rfl rfl rfl rfl rfl rfl rfl (fun w => ?_)
        refine s_append1K tok 0 rfl rfl rfl rfl rfl rfl (by decide) rfl rfl rfl rfl (by omega) (by omega) (fun v' hv => ?_)
        repeat (first | refine gA pk ?_ | (show AL _ _ _ _ _ _ _; first | refine s_store (a := .lit v') tok 1 rfl rfl rfl rfl rfl rfl hv rfl (by decide) rfl rfl rfl (Nat.le_of_ble_eq_true rfl) ?_))
        refine ⟨i + 1, v', by omega, by omega, by exact subQ, ?_⟩
        rw [hsn]
        exact OSub.refl _
      · refine s_build1 tok rfl rfl rfl rfl rfl rfl rfl rfl (fun w => ?_)
        repeat (first | refine gY pk ?_ | (show AL _ _ _ _ _ _ _; first | refine jO tok 2 ?_))
        refine s_append1K tok 0 rfl rfl rfl rfl rfl rfl (by decide) rfl rfl rfl rfl (by omega) (by omega) (fun v' hv => ?_)
        repeat (first | refine gA pk ?_ | (show AL _ _ _ _ _ _ _; first | refine s_store (a := .lit v') tok 1 rfl rfl rfl rfl rfl rfl hv rfl (by decide) rfl rfl rfl (Nat.le_of_ble_eq_true rfl) ?_))
        refine ⟨i + 1, v', by omega, by omega, by exact subQ, ?_⟩
        rw [hsn]
        exact OSub.refl _
    · obtain rfl : i = min 8 l.length := by omega
      rw [← hns']
      refine AWp.mono (Q := fun e st L => e = .exit 0 ∧ GoTo 114 st L (lk [(2, .im 3 (es.map c83)), (4, tysP t), (8, .pt u8 0 0 0), (9, .pt u9 0 0 0)]) [(v, .row 3 1 (rowI ns)), (u9, .box [.lit v, .lit (.slice none 0 0)]), (u8, .box [.lit (.slice none 0 0), .lit (.slice none 0 0)])]) ?_ (fun e st L h => ?_)
      · by_cases hA : min 8 l.length < l.length
        all_goals
          repeat (first | refine gA pk ?_)
          exact ⟨rfl, GoTo.sub (by exact subQ) (OSub.refl _)⟩
      · obtain ⟨rfl, h⟩ := h
        refine a_goto h ?_
        repeat (first | refine gA pk ?_)
        refine a_loop2 (fun (i : Nat) (w : Value) => [(2, .im 3 (es.map c83)), (4, tysP t), (8, .pt u8 0 0 0), (9, .pt u9 0 0 0), (11, AI i)]) (fun i w => [(w, .row 70 3 ((madeGE t ns (es.take i)).map cEd)), (v, .row 3 1 (rowI ns)), (u9, .box [.lit v, .lit w]), (u8, .box [.lit (.slice none 0 0), .lit (.slice none 0 0)])]) (fun i w => i ≤ M) (fun i w => M - i) 0 (.slice none 0 0) (Nat.zero_le _) ?_ (.free (OSub.refl _)) ?_
        · exact subQ
        · intro i w hi
          by_cases hlt : i < M
          · have hx := List.getElem?_eq_getElem (l := es) (i := i) (by omega)
            have hr := he _ (List.getElem_mem (l := es) (n := i) (by omega))
            have hsn := madeGE_succ (t := t) (ns := ns) hx
            obtain ⟨p1, p2⟩ := hM2 (by omega)
            have hgl : (madeGE t ns (es.take i)).length ≤ i := by
              unfold madeGE
              refine Nat.le_trans (List.length_filter_le _ _) ?_
              rw [List.length_map, List.length_take]; omega
            have hgl' : ((madeGE t ns (es.take i)).map cEd).length ≤ i := by rw [List.length_map]; exact hgl
            generalize es[i] = c at *
            obtain ⟨x, y, z⟩ := c
            unfold In3 at hr
            simp only at hr
            have xk : (es.map c83)[(i : Int).toNat]? = some [A8 x, A8 y, A8 z] := map_get (f := c83) hx
            have m1 := Int.emod_nonneg x (b := ((t.edges.map cEdg).length : Int)) (by omega)
            have m2 := Int.emod_lt_of_pos x (b := ((t.edges.map cEdg).length : Int)) (by omega)
            have m3 := Int.emod_nonneg y (b := ((rowI ns).length : Int)) (by omega)
            have m4 := Int.emod_lt_of_pos y (b := ((rowI ns).length : Int)) (by omega)
            have m5 := Int.emod_nonneg z (b := ((rowI ns).length : Int)) (by omega)
            have m6 := Int.emod_lt_of_pos z (b := ((rowI ns).length : Int)) (by omega)
            have hin : inE ns.length t.edges.length (x, y, z) = ⟨x % ((t.edges.map cEdg).length : Int), y % ((rowI ns).length : Int), z % ((rowI ns).length : Int)⟩ := by rw [lte, lns]; rfl
            rw [hin] at hsn
            have o1 := obI (E := 3) (l := ns) (j := (y % ((rowI ns).length : Int)).toNat) (by omega)
            have o2 := obI (E := 3) (l := ns) (j := (z % ((rowI ns).length : Int)).toNat) (by omega)
            have s1 := refFits_spec t ht (x % ((t.edges.map cEdg).length : Int)) (ns.getD (y % ((rowI ns).length : Int)).toNat 0) (ns.getD (z % ((rowI ns).length : Int)).toNat 0)
            have hfe : edFits t ns ⟨x % ((t.edges.map cEdg).length : Int), y % ((rowI ns).length : Int), z % ((rowI ns).length : Int)⟩ = fitsR t (x % ((t.edges.map cEdg).length : Int)) (ns.getD (y % ((rowI ns).length : Int)).toNat 0) (ns.getD (z % ((rowI ns).length : Int)).toNat 0) := rfl
            rw [hfe] at hsn
            repeat (first | refine gN pk ?_ | (show AL _ _ _ _ _ _ _; first | refine jO tok 2 ?_ | refine s_ownLen tok 1 rfl rfl rfl rfl (by decide) rfl rfl rfl ?_))
            refine AWp.mono (Q := fun e st L => e = .normal ∧ ∃ u12, GoTo 114 st L (lk [(2, .im 3 (es.map c83)), (4, tysP t), (8, .pt u8 0 0 0), (9, .pt u9 0 0 0), (11, AI i), (12, .pt u12 0 0 0)]) [(u12, .box [AI (x % ((t.edges.map cEdg).length : Int)), AI (y % ((rowI ns).length : Int)), AI (z % ((rowI ns).length : Int))]), (w, .row 70 3 ((madeGE t ns (es.take i)).map cEd)), (v, .row 3 1 (rowI ns)), (u9, .box [.lit v, .lit w]), (u8, .box [.lit (.slice none 0 0), .lit (.slice none 0 0)])]) ?_ (fun e st L h => ?_)
            · refine a_regG ((List.range 33).map fun i => if inL [31, 32] i = true then .eff else if inL [17, 18, 27, 28] i = true then .read else .pure) [31] [0, 1, 2, 3, 4, 5, 6, 7, 8, 9, 10, 11, 12, 13, 14, 15, 16, 17, 18, 19, 20, 21, 22, 23, 24, 25, 26, 27, 28, 29, 30] (.nd 31 [32] .stop .stop) mixed rfl rfl (by decide +kernel) ?_
              repeat' (first | (with_reducible show AG _ _ _ _ _ _ _ _ _ _; first | exact ag_none | refine ag_stop ?_ | refine ag_nd ?_ ?_) | (show AMid _ _ _ _; first | refine amid_f ?_ | refine amid_g (by first | exact OSub.refl _ | exact .drop (OSub.refl _) | exact .drop (.drop (OSub.refl _))) ?_) | refine gY pk ?_ | (show AL _ _ _ _ _ _ _; first | refine jX tok xk ?_ | refine s_arrIp tok rfl rfl rfl rfl rfl rfl rfl rfl (by decide) (by decide) ?_ | refine s_conv tok rfl rfl rfl rfl rfl rfl rfl (IntWalk.i64_in _ (by omega)) ?_ | refine s_rem rfl rfl rfl rfl rfl rfl (by omega) (by omega) ?_ | refine jO tok 2 ?_ | refine s_ownLen tok 1 rfl rfl rfl rfl (by decide) rfl rfl rfl ?_ | refine jL tok (fun u => ?_) | refine jS tok 0 ?_) | fail)
              all_goals exact ⟨rfl, _, GoTo.sub (by exact subQ) (OSub.refl _)⟩
            obtain ⟨rfl, u12, h⟩ := h
            refine a_goto h ?_
            refine a_frzBox 0 12 rfl rfl ?_
            cases hf : fitsR t (x % ((t.edges.map cEdg).length : Int)) (ns.getD (y % ((rowI ns).length : Int)).toNat 0) (ns.getD (z % ((rowI ns).length : Int)).toNat 0) with
            | false =>
              rw [hf] at s1
              rw [hf, if_neg (by decide), List.append_nil] at hsn
              (repeat (first | refine a_seq ?_ | refine a_block ?_))
              refine a_regRO [0, 1, 2, 3, 4, 5, 6, 7, 8, 9, 10, 11, 12, 13, 14, 15] mixed rfl rfl (by decide +kernel) ?_
              repeat (first | refine gY pk ?_ | (show AL _ _ _ _ _ _ _; first | refine jO tok 2 ?_ | refine s_ownIndex tok 1 rfl rfl rfl rfl (by decide) rfl rfl rfl rfl rfl rfl (by omega) (by omega) ?_ | refine s_ownLoad tok 1 rfl rfl rfl rfl (by decide) rfl rfl rfl rfl o1 rfl (List.cons_ne_nil _ _) ?_ | refine s_ownLoad tok 1 rfl rfl rfl rfl (by decide) rfl rfl rfl rfl o2 rfl (List.cons_ne_nil _ _) ?_ | refine jP s1 ?_))
              repeat (first | refine gA pk ?_)
              refine ⟨i + 1, w, by omega, by omega, by exact subQ, ?_⟩
              rw [hsn]
              exact OSub.refl _
            | true =>
              rw [hf] at s1
              rw [hf, if_pos rfl] at hsn
              have hse : (madeGE t ns (es.take (i + 1))).map cEd = (madeGE t ns (es.take i)).map cEd ++ [[AI (x % ((t.edges.map cEdg).length : Int)), AI (y % ((rowI ns).length : Int)), AI (z % ((rowI ns).length : Int))]] := by rw [hsn, List.map_append]; rfl
              (repeat (first | refine a_seq ?_ | refine a_block ?_))
              refine a_regRO [0, 1, 2, 3, 4, 5, 6, 7, 8, 9, 10, 11, 12, 13, 14, 15] mixed rfl rfl (by decide +kernel) ?_
              repeat (first | refine gY pk ?_ | (show AL _ _ _ _ _ _ _; first | refine jO tok 2 ?_ | refine s_ownIndex tok 1 rfl rfl rfl rfl (by decide) rfl rfl rfl rfl rfl rfl (by omega) (by omega) ?_ | refine s_ownLoad tok 1 rfl rfl rfl rfl (by decide) rfl rfl rfl rfl o1 rfl (List.cons_ne_nil _ _) ?_ | refine s_ownLoad tok 1 rfl rfl rfl rfl (by decide) rfl rfl rfl rfl o2 rfl (List.cons_ne_nil _ _) ?_ | refine jP s1 ?_))
              repeat (first | refine gA pk ?_ | (show AL _ _ _ _ _ _ _; first | refine jO tok 2 ?_))
              refine s_build1A tok rfl rfl rfl rfl rfl rfl rfl rfl (by decide) (fun u => ?_)
              refine s_append1K tok 0 rfl rfl rfl rfl rfl rfl (by decide) rfl rfl rfl rfl (by omega) (by omega) (fun v' hv => ?_)
              repeat (first | refine gA pk ?_ | (show AL _ _ _ _ _ _ _; first | refine s_store (a := .lit v') tok 2 rfl rfl rfl rfl rfl rfl hv rfl (by decide) rfl rfl rfl (Nat.le_of_ble_eq_true rfl) ?_))
              refine ⟨i + 1, v', by omega, by omega, by exact subQ, ?_⟩
              rw [hse]
              exact OSub.refl _
          · obtain rfl : i = M := by omega
            refine AWp.mono (Q := fun e st L => e = .exit 2 ∧ GoTo 114 st L (lk [(8, .pt u8 0 0 0), (9, .pt u9 0 0 0)]) [(w, .row 70 3 ((madeGE t ns (es.take i)).map cEd)), (v, .row 3 1 (rowI ns)), (u9, .box [.lit v, .lit w]), (u8, .box [.lit (.slice none 0 0), .lit (.slice none 0 0)])]) ?_ (fun e st L h => ?_)
            · have hc : (¬ i < es.length) ∨ (i < es.length ∧ ¬ i < 12) ∨ (i < es.length ∧ i < 12 ∧ ns.length = 0) ∨ (i < es.length ∧ i < 12 ∧ 0 < ns.length ∧ t.edges.length = 0) := by omega
              rcases hc with hc | hc | hc | hc
              all_goals
                repeat (first | refine gA pk ?_ | (show AL _ _ _ _ _ _ _; first | refine jO tok 2 ?_ | refine s_ownLen tok 1 rfl rfl rfl rfl (by decide) rfl rfl rfl ?_))
                exact ⟨rfl, GoTo.sub (by exact subQ) (OSub.refl _)⟩
            · obtain ⟨rfl, h⟩ := h
              refine a_goto h ?_
              refine a_know 0 rfl (fun hw => ?_)
              refine a_know 1 rfl (fun hv => ?_)
              repeat (first | refine gV pk ?_ | (show AL _ _ _ _ _ _ _; first | refine jO tok 2 ?_ | refine s_store (a := .agg [.lit v, .lit w]) tok 3 rfl rfl rfl rfl rfl rfl (by simp [AV.storable, AV.cell, hv, hw]) rfl (by decide) rfl rfl rfl (Nat.le_of_ble_eq_true rfl) ?_))
              refine a_ownSub [(w, .row 70 3 ((madeGE t ns (es.take i)).map cEd)), (v, .row 3 1 (rowI ns)), (u8, .box [.lit v, .lit w])] (.keep (.keep (.drop (.keep .nil)))) ?_
              refine a_freeze 0 rfl _ (FZS.refl _) [(v, .row 3 1 (rowI ns)), (u8, .box [.lit v, .im 3 ((madeGE t ns (es.take i)).map cEd)])] ⟨rfl, rfl, rfl, rfl, by simp; exact fun a _ => rfl, FZL.refl _, rfl, ⟨FZ.refl _, FZ.here, trivial⟩, trivial⟩ ?_
              refine a_freeze 0 rfl _ (FZS.refl _) [(u8, .box [.im 1 (rowI ns), .im 3 ((madeGE t ns (es.take i)).map cEd)])] ⟨rfl, ⟨FZ.here, FZ.refl _, trivial⟩, trivial⟩ ?_
              refine a_frzBox 0 8 rfl rfl ?_
              refine a_ret ?_
              exact ⟨.inr rfl, _, .agg [.im 1 (rowI ns), .im 3 ((madeGE t ns (es.take i)).map cEd)], grA ⟨ns, madeGE t ns (es.take i)⟩, [], rfl, rfl, Turn.of (Sub.refl _) (OSub.refl _), rfl, rfl⟩
end Go.Proofs.YtcacbdohlfljfaaGreat

/-
  Typed graphs that descriptions describe: the walk. Conditions: a description whose numbers are codes.
-/
namespace Go.Proofs.YtcacbdohlfljfaaGreat
open Go.Sj Go.Sj.Typ Go.Sj.Sta
set_option linter.unusedVariables false
set_option linter.unusedSimpArgs false
set_option maxHeartbeats 8000000

def dT (d : Drf) : Tys := madeT d.types d.ends
def dG (d : Drf) : Gr := madeG (dT d) d.nodes d.edges
theorem dT_small (d : Drf) : Small (dT d) := made_small _ _
theorem dT_pos (d : Drf) : 1 ≤ (dT d).nodes.length ∧ (dT d).nodes.length ≤ 6 := by
  unfold dT
  rw [made_nodes]
  exact madeNum_rng _
theorem dT_valid (d : Drf) : (validR (dT d)).2 = 0 := made_valid _ _
theorem dG_tv (d : Drf) : TV (dT d) (dG d) := madeG_tv (dT_valid d) _ _
theorem dT_edges (d : Drf) : (dT d).edges.length ≤ 5 := by
  unfold dT
  rw [made_edges]
  omega
theorem dG_len (d : Drf) : (dG d).nodes.length ≤ 8 ∧ (dG d).edges.length ≤ 12 := by
  unfold dG madeG madeGN madeGE madeGM
  refine ⟨by simp only [List.length_map, List.length_take]; omega, Nat.le_trans (List.length_filter_le _ _) ?_⟩
  rw [List.length_map]
  split
  · exact Nat.zero_le _
  · rw [List.length_take]; omega
theorem made18_spec (d : Drf) (hd : OkD d) : Pure Tryz.prog 29 [drfA d] (.tup [tysA (dT d), grA (dG d)]) := by
  have s1 := Made_spec d.types d.ends hd.types hd.ends hd.tl hd.el
  have s2 := refMade18_spec (dT d) (dT_small d) (by have := dT_pos d; omega) d.nodes hd.nodes hd.nl d.edges hd.edges hd.gl
  change Pure _ _ _ (grA (dG d)) at s2
  change Pure _ _ _ (tysA (dT d)) at s1
  generalize dG d = G at *
  generalize dT d = t at *
  obtain ⟨d1, d2, d3, d4⟩ := d
  refine a_enterM (rs := [.cell 2 25, .cell 3 29]) tok Tryz.func29 (by kernel_rfl) rfl Tryz.ntmps29 rfl (by decide) (by simp) ?_
  refine a_seq ?_
  refine a_reg ?_
  repeat (first | refine gZ pk ?_ | (show AL _ _ _ _ _ _ _; first | refine jB (fun u => ?_) | refine jL tok (fun u => ?_)))
  refine a_frzBox 2 1 rfl rfl ?_
  repeat (first | refine gN pk ?_ | (show AL _ _ _ _ _ _ _; first | refine jP s1 ?_ | refine jL tok (fun u => ?_) | refine jS tok 0 ?_))
  refine a_frzBox 0 4 rfl rfl ?_
  refine a_regP mixed (by decide +kernel) ?_
  repeat (first | refine gV pk ?_ | (show AL _ _ _ _ _ _ _; first | refine jP s2 ?_ | refine jS tok 1 ?_ | refine jS tok 0 ?_))
  refine a_frzBox 0 3 rfl rfl ?_
  refine a_frzBox 0 2 rfl rfl ?_
  refine a_ret ?_
  exact ⟨.inr rfl, _, _, [], rfl, Turn.of (Sub.refl _) (OSub.none _), rfl, rfl⟩
end Go.Proofs.YtcacbdohlfljfaaGreat
