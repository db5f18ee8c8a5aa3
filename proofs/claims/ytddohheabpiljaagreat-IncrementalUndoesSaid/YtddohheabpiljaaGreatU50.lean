/- Parts of a proof. -/
import Derived.Test.YtddohheabpiljaaGreatU48
import Derived.Test.YtddohheabpiljaaGreatU49
set_option linter.unusedVariables false
set_option linter.unusedSimpArgs false
section
namespace Go.Proofs.YtddohheabpiljaaGreat
open Go.Sj Go.Sj.Typ Go.Sj.Sta Go.Sj.Inc Go.Sj.Can
set_option maxRecDepth 8000
set_option maxHeartbeats 16000000
def shortD (d : Dr5) (n m : Nat) : Dr5 := ⟨d.nodes.take (min d.nodes.length n), d.edges.take (min d.edges.length m)⟩
theorem shortD_ok {d : Dr5} (hd : OkD5 d) (n m : Nat) : OkD5 (shortD d n m) ∧ (shortD d n m).nodes.length ≤ n ∧ (shortD d n m).edges.length ≤ m := by
  obtain ⟨h1, h2, h3, h4⟩ := hd
  unfold shortD
  refine ⟨⟨fun x hx => h1 x (List.mem_of_mem_take hx), fun x hx => h2 x (List.mem_of_mem_take hx), ?_, ?_⟩, ?_, ?_⟩
  all_goals
    simp only [List.length_take]
    omega
theorem short_spec (d : Dr5) (hd : OkD5 d) (n m : Nat) (hn : n ≤ 1000) (hm : m ≤ 1000) : Pure Tryz.prog 50 [dr5A d, AI n, AI m] (dr5A (shortD d n m)) := by
  obtain ⟨dn, de⟩ := d
  obtain ⟨hd1, hd2, hd3, hd4⟩ := hd
  simp only at hd3 hd4
  have l1 : (dn.map c8).length = dn.length := by simp
  have l2 : (de.map c83).length = de.length := by simp
  have e1 : (((dn.map c8).take (min dn.length n)).drop 0) = (dn.take (min dn.length n)).map c8 := by rw [List.drop_zero, List.map_take]
  have e2 : (((de.map c83).take (min de.length m)).drop 0) = (de.take (min de.length m)).map c83 := by rw [List.drop_zero, List.map_take]
  have f1 : min (((dn.map c8).length : Nat) : Int) (n : Int) = ((min dn.length n : Nat) : Int) := by rw [l1]; omega
  have f2 : min (((de.map c83).length : Nat) : Int) (m : Int) = ((min de.length m : Nat) : Int) := by rw [l2]; omega
  show Pure _ _ [.agg [bytesA dn, .im 3 (de.map c83)], AI n, AI m] (.agg [.im 1 ((dn.take (min dn.length n)).map c8), .im 3 ((de.take (min de.length m)).map c83)])
  rw [← e1, ← e2]
  refine a_enterC Tryz.func50 (by kernel_rfl) rfl Tryz.ntmps50 rfl (tok _ _ rfl) (by simp) ?_
  refine a_seq ?_
  refine a_reg ?_
  repeat (first | refine gZ pk ?_ | (show AL _ _ _ _ _ _ _; first | refine jB (fun u => ?_) | refine jL tok (fun U6 => ?_)))
  refine zfb 1 3 rfl rfl ?_
  have g1 : min dn.length n ≤ (dn.map c8).length := by omega
  have g2 : min de.length m ≤ (de.map c83).length := by omega
  generalize min dn.length n = b1 at *
  generalize min de.length m = b2 at *
  refine zrg ((List.range 18).map fun i => if inL [17] i = true then .eff else if inL [1, 3, 4, 7, 9, 11, 12, 15] i = true then .read else .pure) [] [0, 1, 2, 3, 4, 5, 6, 7, 8, 9, 10, 11, 12, 13, 14, 15, 16, 17] .stop mixed rfl rfl (by decide +kernel) ?_
  repeat' (first | (with_reducible show AG _ _ _ _ _ _ _ _ _ _; first | exact zgn | refine zgs ?_ | refine znd ?_ ?_) | (show AMid _ _ _ _; first | refine zmf ?_ | refine zmg (by first | exact OSub.refl _ | exact .drop (OSub.refl _) | exact .drop (.drop (OSub.refl _))) ?_) | refine gY pk ?_ | (show AL _ _ _ _ _ _ _; first | refine s_min2 rfl rfl rfl rfl rfl rfl ?_ | (rw [f1]; refine s_slice tok (a := 0) (b := b1) rfl rfl rfl rfl rfl rfl rfl rfl rfl ⟨_, rfl⟩ (Nat.zero_le _) g1 ?_) | (rw [f2]; refine s_slice tok (a := 0) (b := b2) rfl rfl rfl rfl rfl rfl rfl rfl rfl ⟨_, rfl⟩ (Nat.zero_le _) g2 ?_) | refine jS tok 0 ?_) | fail)
  refine zfb 0 6 rfl rfl ?_
  repeat (first | refine gA pk ?_)
  exact ⟨.inr rfl, _, _, _, _, rfl, rfl, Turn.of (Sub.of_eq rfl) (OSub.none _), rfl, rfl⟩
structure Dr20 where
  nodes : List (Int × Int)
  edges : List (Int × Int)
  pats : List Dr5
  g : Dr5
  inj : Bool
abbrev dr20L (d : Dr20) : List AV := [.im 2 (d.nodes.map c82), .im 2 (d.edges.map c82), .im 2 (d.pats.map dr5L), bytesA d.g.nodes, .im 3 (d.g.edges.map c83), AB d.inj]
structure OkD20 (d : Dr20) : Prop where
  n : Cd d.nodes
  e : Cd d.edges
  nl : d.nodes.length ≤ 140737488355328
  el : d.edges.length ≤ 140737488355328
  ps : ∀ p ∈ d.pats, OkD5 p
  pl : d.pats.length ≤ 140737488355328
  g : OkD5 d.g
theorem tyG_made (nodes edges : List (Int × Int)) : TyG (madeT nodes edges) := by
  have hr := madeNum_rng nodes
  refine ⟨made_small nodes edges, ?_, fun e he => ?_, made_valid nodes edges, by rw [made_nodes]; exact hr.1⟩
  · rw [made_nodes]
    exact pr_of fun j hj => made_node hr.2 hj
  · unfold madeT madeEs at he
    obtain ⟨i, hi, rfl⟩ := List.mem_map.1 he
    unfold madeE
    exact ⟨Int.emod_nonneg _ (by omega), Int.emod_nonneg _ (by omega)⟩
structure SzW (w : Wat) : Prop where
  pl : w.ps.length ≤ 3
  ps : ∀ p ∈ w.ps, p.nodes.length ≤ 2 ∧ p.edges.length ≤ 2
  gn : w.g.nodes.length ≤ 6
  ge : w.g.edges.length ≤ 8
theorem newW_valid {t : Tys} (ht : (validR t).2 = 0) (ps : List Gr) (g : Gr) (inj : Bool) (hp : ps.length ≤ 3) (hps : ∀ p ∈ ps, p.nodes.length ≤ 2 ∧ p.edges.length ≤ 2) (hgn : g.nodes.length ≤ 6) (hge : g.edges.length ≤ 8) : wvalE t (newR t ps g inj).1 = 0 ∧ SzW (newR t ps g inj).1 := by
  unfold newR
  split
  · rename_i h
    refine ⟨?_, ⟨Nat.zero_le _, fun p hp => (by cases hp), Nat.zero_le _, Nat.zero_le _⟩⟩
    have hv : validS t ⟨[], []⟩ ⟨[], []⟩ = 0 := by
      unfold validS
      rw [if_neg (Decidable.not_not.2 ht)]
      rfl
    unfold wvalE
    rw [if_neg (Decidable.not_not.2 (matsE_ok (ps := []) hv (Nat.zero_le _) (fun p hp => by cases hp)))]
    rfl
  · rename_i h
    refine ⟨?_, ⟨hp, hps, hgn, hge⟩⟩
    unfold wvalE
    rw [if_neg h, if_pos rfl]
theorem made20_spec (d : Dr20) (hd : OkD20 d) : Go.Sj.ACalls Tryz.prog 22 [.agg (dr20L d)] [] (fun y L => (∃ w : Wat, y = .tup [tysA (madeT d.nodes d.edges), watA w] ∧ wvalE (madeT d.nodes d.edges) w = 0 ∧ SzW w) ∧ L = []) := by
  obtain ⟨dn, de, dp, ⟨dgn, dge⟩, inj⟩ := d
  obtain ⟨h1, h2, h3, h4, h5, h6, h7⟩ := hd
  simp only at h1 h2 h3 h4 h5 h6 h7 ⊢
  have sT := Made_spec dn de h1 h2 h3 h4
  have hT := tyG_made dn de
  generalize madeT dn de = t at *
  have sM := fun d hd abs => made17_spec t hT d hd abs
  have sN := fun ps g a b c => gnew_spec t hT.sm ps g inj a b c
  have hvl := hT.vl
  obtain ⟨tn, te⟩ := t
  have ldp : (dp.map dr5L).length = dp.length := by simp
  change Pure _ _ _ (.agg [nodsA tn, edgsA te]) at sT
  change Go.Sj.ACalls _ _ [.agg [.im 2 (dn.map c82), .im 2 (de.map c82), .im 2 (dp.map dr5L), bytesA dgn, .im 3 (dge.map c83), AB inj]] _ _
  have hr2 : ∀ (l : List Gr), ∀ x ∈ l.map cGr, x.length = 2 := fun l x hx => by
    obtain ⟨y, _, rfl⟩ := List.mem_map.1 hx
    rfl
  refine a_enterM (rs := [.cell 2 25, .cell 3 37]) tok Tryz.func22 (by kernel_rfl) rfl Tryz.ntmps22 rfl (by decide) (by simp) ?_
  refine a_seq ?_
  refine a_reg ?_
  repeat (first | refine gZ pk ?_ | (show AL _ _ _ _ _ _ _; first | refine jB (fun u => ?_) | refine jL tok (fun U3 => ?_)))
  rename_i U2
  refine zfb 2 1 rfl rfl ?_
  repeat (first | refine gN pk ?_ | (show AL _ _ _ _ _ _ _; first | refine jP sT ?_ | refine jL tok (fun ut => ?_) | refine jS tok 0 ?_))
  refine zfb 0 4 rfl rfl ?_
  refine a_loopG3 (fun (i : Nat) (P : List Gr) (vp : Value) => [(1, .ip [.im 2 (dn.map c82), .im 2 (de.map c82), .im 2 (dp.map dr5L), bytesA dgn, .im 3 (dge.map c83), AB inj]), (2, .pt U2 0 0 0), (3, .pt U3 0 0 0), (4, .ip [nodsA tn, edgsA te]), (5, .lit vp), (6, AI i)]) (fun i P vp => [(vp, .row 30 2 (P.map cGr)), (U3, .box [nilS, nilS, nilS, AB false, nilS]), (U2, .box [nilS, nilS])]) (fun i P _ => i ≤ 3 ∧ i ≤ dp.length ∧ P.length = i ∧ ∀ p ∈ P, p.nodes.length ≤ 2 ∧ p.edges.length ≤ 2) (fun i _ _ => 3 - i) 0 [] (.slice none 0 0) ⟨by omega, Nat.zero_le _, rfl, fun p hp => (by cases hp)⟩ (.sub (by exact subQ) (.free (OSub.refl _))) ?_
  rintro i P vp ⟨hi3, hid, hP, hPs⟩
  have lP : (P.map cGr).length = P.length := by simp
  by_cases hgo : i < dp.length ∧ i < 3
  · obtain ⟨g1, g2⟩ := hgo
    have e1 := List.getElem?_eq_getElem g1
    have hx := h5 _ (List.getElem_mem g1)
    generalize dp[i] = p at e1 hx
    have sS := short_spec p hx 2 2 (by decide) (by decide)
    obtain ⟨o1, o2, o3⟩ := shortD_ok hx 2 2
    have sG := sM (shortD p 2 2) o1 true
    have xk0 : (dp.map dr5L)[(i : Int).toNat]? = some (dr5L p) := zmp (f := dr5L) e1
    generalize shortD p 2 2 = q at *
    obtain ⟨qn, qe⟩ := q
    obtain ⟨pn, pe⟩ := p
    simp only at o2 o3 sG
    have xk : (dp.map dr5L)[(i : Int).toNat]? = some [bytesA pn, .im 3 (pe.map c83)] := xk0
    repeat (first | refine gN pk ?_)
    refine AWp.mono (Q := fun e st L => e = .normal ∧ ∃ (g : Gr) (w : Value), (g.nodes.length ≤ 2 ∧ g.edges.length ≤ 2) ∧ GoTo 51 st L (lk [(1, .ip [.im 2 (dn.map c82), .im 2 (de.map c82), .im 2 (dp.map dr5L), bytesA dgn, .im 3 (dge.map c83), AB inj]), (2, .pt U2 0 0 0), (3, .pt U3 0 0 0), (4, .ip [nodsA tn, edgsA te]), (5, .lit w), (6, AI i)]) [(w, .row 30 2 ((P ++ [g]).map cGr)), (U3, .box [nilS, nilS, nilS, AB false, nilS]), (U2, .box [nilS, nilS])]) ?_ (fun e st L h => ?_)
    · refine zrg ((List.range 12).map fun i => if inL [7, 8, 9, 10] i = true then .eff else if inL [1, 3, 5, 6] i = true then .read else .pure) [7] [0, 1, 2, 3, 4, 5, 6] (.nd 7 [8, 9, 10, 11] .stop .stop) mixed rfl rfl (by decide +kernel) ?_
      repeat' (first | (with_reducible show AG _ _ _ _ _ _ _ _ _ _; first | exact zgn | refine zgs ?_ | refine znd ?_ ?_) | (show AMid _ _ _ _; first | refine zmf ?_ | refine zmg (by first | exact OSub.refl _ | exact .drop (OSub.refl _) | exact .drop (.drop (OSub.refl _))) ?_) | refine gY pk ?_ | (show AL _ _ _ _ _ _ _; first | refine jX tok xk ?_ | refine jP sS ?_ | refine zsc (Lc := []) rfl rfl rfl rfl rfl sG (SubL.of_eq rfl) (List.Perm.refl _) ?_; rintro _ _ ⟨⟨⟨gn, ge⟩, rfl, ⟨q1, q2⟩, q3, q4⟩, rfl⟩ | refine zba tok rfl rfl rfl rfl rfl rfl rfl rfl (by decide) (fun lv => ?_) | refine zak tok 0 rfl rfl rfl rfl rfl rfl (by decide) rfl rfl rfl rfl (by omega) (by omega) (fun w hw => ?_)) | fail)
      exact ⟨rfl, ⟨gn, ge⟩, w, ⟨by omega, by omega⟩, .sub (by exact subQ) (by rw [List.map_append]; exact OSub.refl _)⟩
    obtain ⟨rfl, g, w, ⟨q1, q2⟩, h⟩ := h
    refine zgt h ?_
    repeat (first | refine gA pk ?_)
    exact ⟨i + 1, P ++ [g], w, ⟨by omega, by omega, by simp; omega, fun r hr => by
      rcases List.mem_append.1 hr with hr | hr
      · exact hPs r hr
      · simp at hr
        subst hr
        exact ⟨q1, q2⟩⟩, by omega, .sub (by exact subQ) (OSub.refl _)⟩
  have sS := short_spec ⟨dgn, dge⟩ h7 6 8 (by decide) (by decide)
  obtain ⟨o1, o2, o3⟩ := shortD_ok h7 6 8
  have sG := sM (shortD ⟨dgn, dge⟩ 6 8) o1 false
  generalize shortD ⟨dgn, dge⟩ 6 8 = q at *
  obtain ⟨qn, qe⟩ := q
  simp only at o2 o3 sG
  have hex : dp.length ≤ i ∨ (i < dp.length ∧ 3 ≤ i) := by omega
  rcases hex with hx | ⟨hx1, hx2⟩
  all_goals
    refine a_frz 0 5 rfl rfl ?_
    repeat (first | refine gN pk ?_)
    have hPok : ∀ p ∈ P, OkG p := fun p hp => by
      obtain ⟨r1, r2⟩ := hPs p hp
      exact ⟨by omega, by omega⟩
    refine AWp.mono (Q := fun e st L => e = .normal ∧ ∃ (g : Gr) (uw : Value), (g.nodes.length ≤ 6 ∧ g.edges.length ≤ 8) ∧ GoTo 51 st L (lk [(2, .pt U2 0 0 0), (3, .pt U3 0 0 0), (4, .ip [nodsA tn, edgsA te]), (7, .pt uw 0 0 0)]) [(uw, .box (watC (newR ⟨tn, te⟩ P g inj).1)), (U3, .box [nilS, nilS, nilS, AB false, nilS]), (U2, .box [nilS, nilS])]) ?_ (fun e st L h => ?_)
    · refine zrg ((List.range 16).map fun i => if inL [5, 6, 9, 13, 14] i = true then .eff else if inL [0, 2, 4, 8] i = true then .read else .pure) [5, 6, 13] [0, 1, 2, 3, 4, 7, 8] (.nd 5 [] (.nd 6 [] (.nd 9 [10, 11, 12] (.nd 13 [14, 15] .stop .stop) (.nd 13 [9, 10, 11, 12, 14, 15] .stop .stop)) (.nd 13 [] (.nd 6 [9, 10, 11, 12, 14, 15] .stop .stop) .stop)) (.nd 13 [] (.nd 5 [] (.nd 6 [9, 10, 11, 12, 14, 15] .stop .stop) .stop) .stop)) mixed rfl rfl (by decide +kernel) ?_
      repeat' (first | (with_reducible show AG _ _ _ _ _ _ _ _ _ _; first | exact zgn | refine zgs ?_ | refine znd ?_ ?_) | (show AMid _ _ _ _; first | refine zmf ?_ | refine zmg (by first | exact OSub.refl _ | exact .drop (OSub.refl _) | exact .drop (.drop (OSub.refl _))) ?_) | refine gY pk ?_ | (show AL _ _ _ _ _ _ _; first | refine jP sS ?_ | refine zsc (Lc := []) rfl rfl rfl rfl rfl sG (SubL.of_eq rfl) (List.Perm.refl _) ?_; rintro _ _ ⟨⟨⟨gn, ge⟩, rfl, ⟨q1, q2⟩, q3, q4⟩, rfl⟩ | refine s_callP rfl rfl rfl rfl rfl (sN P ⟨gn, ge⟩ hPok (by omega) ⟨by omega, by omega⟩) (SubL.of_eq rfl) ?_ | refine jL tok (fun uw => ?_) | refine jS tok 0 ?_) | fail)
      all_goals exact ⟨rfl, ⟨gn, ge⟩, _, ⟨by omega, by omega⟩, .sub (by exact subQ) (OSub.refl _)⟩
    obtain ⟨rfl, g, uw, ⟨q1, q2⟩, h⟩ := h
    refine zgt h ?_
    clear h
    have hw := newW_valid hvl P g inj (by omega) hPs q1 q2
    generalize (newR ⟨tn, te⟩ P g inj).1 = w at *
    refine zfb 0 7 rfl rfl ?_
    repeat (first | refine gV pk ?_ | (show AL _ _ _ _ _ _ _; first | refine jS tok 0 ?_ | refine jS tok 1 ?_))
    refine zfb 0 3 rfl rfl ?_
    refine zfb 0 2 rfl rfl ?_
    refine a_ret ?_
    exact ⟨.inr rfl, _, _, [], rfl, Turn.of (Sub.refl _) (OSub.none _), ⟨w, rfl, hw.1, hw.2⟩, rfl⟩
end Go.Proofs.YtddohheabpiljaaGreat
end
section
namespace Go.Proofs.YtddohheabpiljaaGreat
open Go.Sj Go.Sj.Typ Go.Sj.Sta Go.Sj.Inc Go.Sj.Can
set_option maxRecDepth 8000
set_option maxHeartbeats 16000000
def pkR (t : Tys) (x1 a b : Int) (et : Nat) : Nat → Nat → Int → Int
  | 0, _, T => T
  | m + 1, k, T => if T = et then (if fitsR t ((x1 + k) % et) a b = true then pkR t x1 a b et m (k + 1) ((x1 + k) % et) else pkR t x1 a b et m (k + 1) T) else T
theorem edit20_spec (t : Tys) (ht : Small t) (hne : 1 ≤ t.nodes.length) (g : Gr) (hg : OkG g) (x0 x1 x2 x3 : Int) (h0 : 0 ≤ x0 ∧ x0 ≤ 255) (h1 : 0 ≤ x1 ∧ x1 ≤ 255) (h2 : 0 ≤ x2 ∧ x2 ≤ 255) (h3 : 0 ≤ x3 ∧ x3 ≤ 255) :
    ∃ e : Edt, (1 ≤ e.kind ∧ e.kind ≤ 4) ∧ Pure Tryz.prog 23 [tysA t, grA g, .agg [A8 x0, A8 x1, A8 x2, A8 x3]] (.agg (cEt e)) := by
  have sF := fun y a b => refFits_spec t ht y a b
  have ht1 := ht.nodes
  have ht2 := ht.edges
  obtain ⟨tn, te⟩ := t
  obtain ⟨gn, ge⟩ := g
  obtain ⟨hg1, hg2⟩ := hg
  simp only at hne hg1 hg2 ht1 ht2 sF
  change ∀ y a b, Pure _ _ [.agg [nodsA tn, edgsA te], AI y, AI a, AI b] _ at sF
  have ltn : (tn.map cNod).length = tn.length := by simp
  have lte : (te.map cEdg).length = te.length := by simp
  have lgn : (rowI gn).length = gn.length := by simp
  have lge : (ge.map cEd).length = ge.length := by simp
  have pre : ∀ {R : AV}, Pure Tryz.prog 23 [.agg [nodsA tn, edgsA te], .agg [ints gn, edsA ge], .agg [A8 x0, A8 x1, A8 x2, A8 x3]] R → Pure Tryz.prog 23 [tysA ⟨tn, te⟩, grA ⟨gn, ge⟩, .agg [A8 x0, A8 x1, A8 x2, A8 x3]] R := fun h => h
  have hk : x0 % 4 = 0 ∨ x0 % 4 = 1 ∨ x0 % 4 = 2 ∨ x0 % 4 = 3 := by omega
  rcases hk with hk | hk | hk | hk
  · refine ⟨(⟨1, 0, x1 % ((tn.map cNod).length : Int), 0, 0⟩ : Edt), ⟨show (1 : Int) ≤ 1 by decide, show (1 : Int) ≤ 4 by decide⟩, pre ?_⟩
    refine a_enterC Tryz.func23 (by kernel_rfl) rfl Tryz.ntmps23 rfl (tok _ _ rfl) (by simp) ?_
    refine a_seq ?_
    refine a_reg ?_
    repeat (first | refine gZ pk ?_ | (show AL _ _ _ _ _ _ _; first | refine jB (fun u => ?_) | refine jL tok (fun U6 => ?_)))
    refine zfb 3 3 rfl rfl ?_
    refine zfb 2 4 rfl rfl ?_
    refine zfb 1 5 rfl rfl ?_
    repeat (first | refine gN pk ?_ | (show AL _ _ _ _ _ _ _; first | refine s_arrIp tok rfl rfl rfl rfl rfl rfl rfl rfl (by decide) (by decide) ?_ | refine zcv tok rfl rfl rfl rfl rfl rfl rfl (IntWalk.i64_in _ (by omega)) ?_ | refine s_rem rfl rfl rfl rfl rfl rfl (by omega) (by omega) ?_ | refine jL tok (fun ue => ?_) | refine jS tok 0 ?_))
    rw [hk]
    repeat (first | refine gV pk ?_ | (show AL _ _ _ _ _ _ _; first | refine s_arrIp tok rfl rfl rfl rfl rfl rfl rfl rfl (by decide) (by decide) ?_ | refine zcv tok rfl rfl rfl rfl rfl rfl rfl (IntWalk.i64_in _ (by omega)) ?_ | refine s_rem rfl rfl rfl rfl rfl rfl (by omega) (by omega) ?_ | refine jL tok (fun ue => ?_) | refine jO tok 0 ?_ | refine jS tok 0 ?_ | refine jS tok 1 ?_))
    refine zfb 1 6 rfl rfl ?_
    refine a_ret ?_
    exact ⟨.inr rfl, _, _, _, _, rfl, rfl, Turn.of (Sub.of_eq rfl) (OSub.none _), rfl, rfl⟩
  · by_cases hboth : 0 < gn.length ∧ 0 < te.length
    rotate_left
    · refine ⟨(⟨2, 0, 0, 0, 0⟩ : Edt), ⟨show (1 : Int) ≤ 2 by decide, show (2 : Int) ≤ 4 by decide⟩, pre ?_⟩
      have hex : gn.length = 0 ∨ (0 < gn.length ∧ te.length = 0) := by omega
      rcases hex with hx | ⟨hx1, hx2⟩
      all_goals
        refine a_enterC Tryz.func23 (by kernel_rfl) rfl Tryz.ntmps23 rfl (tok _ _ rfl) (by simp) ?_
        refine a_seq ?_
        refine a_reg ?_
        repeat (first | refine gZ pk ?_ | (show AL _ _ _ _ _ _ _; first | refine jB (fun u => ?_) | refine jL tok (fun U6 => ?_)))
        refine zfb 3 3 rfl rfl ?_
        refine zfb 2 4 rfl rfl ?_
        refine zfb 1 5 rfl rfl ?_
        repeat (first | refine gN pk ?_ | (show AL _ _ _ _ _ _ _; first | refine s_arrIp tok rfl rfl rfl rfl rfl rfl rfl rfl (by decide) (by decide) ?_ | refine zcv tok rfl rfl rfl rfl rfl rfl rfl (IntWalk.i64_in _ (by omega)) ?_ | refine s_rem rfl rfl rfl rfl rfl rfl (by omega) (by omega) ?_ | refine jL tok (fun ue => ?_) | refine jS tok 0 ?_))
        rw [hk]
        repeat (first | refine gV pk ?_ | (show AL _ _ _ _ _ _ _; first | refine s_arrIp tok rfl rfl rfl rfl rfl rfl rfl rfl (by decide) (by decide) ?_ | refine zcv tok rfl rfl rfl rfl rfl rfl rfl (IntWalk.i64_in _ (by omega)) ?_ | refine s_rem rfl rfl rfl rfl rfl rfl (by omega) (by omega) ?_ | refine jL tok (fun ue => ?_) | refine jO tok 0 ?_ | refine jS tok 0 ?_ | refine jS tok 1 ?_))
        refine zfb 1 6 rfl rfl ?_
        refine a_ret ?_
        exact ⟨.inr rfl, _, _, _, _, rfl, rfl, Turn.of (Sub.of_eq rfl) (OSub.none _), rfl, rfl⟩
    obtain ⟨b1, b2⟩ := hboth
    have p0 := Int.emod_nonneg x2 (b := ((rowI gn).length : Int)) (by omega)
    have p1 := Int.emod_lt_of_pos x2 (b := ((rowI gn).length : Int)) (by omega)
    have p2 := Int.emod_nonneg x3 (b := ((rowI gn).length : Int)) (by omega)
    have p3 := Int.emod_lt_of_pos x3 (b := ((rowI gn).length : Int)) (by omega)
    have y1 := List.getElem?_eq_getElem (l := gn) (i := (x2 % ((rowI gn).length : Int)).toNat) (by omega)
    have y2 := List.getElem?_eq_getElem (l := gn) (i := (x3 % ((rowI gn).length : Int)).toNat) (by omega)
    generalize gn[(x2 % ((rowI gn).length : Int)).toNat] = na at y1
    generalize gn[(x3 % ((rowI gn).length : Int)).toNat] = nb at y2
    have ya : (rowI gn)[(x2 % ((rowI gn).length : Int)).toNat]? = some [AI na] := zmp (f := cI) y1
    have yb : (rowI gn)[(x3 % ((rowI gn).length : Int)).toNat]? = some [AI nb] := zmp (f := cI) y2
    obtain ⟨R, hR⟩ : ∃ R, pkR ⟨tn, te⟩ x1 na nb (te.map cEdg).length (te.map cEdg).length 0 ((te.map cEdg).length : Nat) = R := ⟨_, rfl⟩
    refine ⟨(⟨2, 0, R, x2 % ((rowI gn).length : Int), x3 % ((rowI gn).length : Int)⟩ : Edt), ⟨show (1 : Int) ≤ 2 by decide, show (2 : Int) ≤ 4 by decide⟩, pre ?_⟩
    refine a_enterC Tryz.func23 (by kernel_rfl) rfl Tryz.ntmps23 rfl (tok _ _ rfl) (by simp) ?_
    refine a_seq ?_
    refine a_reg ?_
    repeat (first | refine gZ pk ?_ | (show AL _ _ _ _ _ _ _; first | refine jB (fun u => ?_) | refine jL tok (fun U6 => ?_)))
    refine zfb 3 3 rfl rfl ?_
    refine zfb 2 4 rfl rfl ?_
    refine zfb 1 5 rfl rfl ?_
    repeat (first | refine gN pk ?_ | (show AL _ _ _ _ _ _ _; first | refine s_arrIp tok rfl rfl rfl rfl rfl rfl rfl rfl (by decide) (by decide) ?_ | refine zcv tok rfl rfl rfl rfl rfl rfl rfl (IntWalk.i64_in _ (by omega)) ?_ | refine s_rem rfl rfl rfl rfl rfl rfl (by omega) (by omega) ?_ | refine jL tok (fun ue => ?_) | refine jS tok 0 ?_))
    rw [hk]
    repeat (first | refine gA pk ?_ | (show AL _ _ _ _ _ _ _; first | refine s_arrIp tok rfl rfl rfl rfl rfl rfl rfl rfl (by decide) (by decide) ?_ | refine zcv tok rfl rfl rfl rfl rfl rfl rfl (IntWalk.i64_in _ (by omega)) ?_ | refine s_rem rfl rfl rfl rfl rfl rfl (by omega) (by omega) ?_ | refine jL tok (fun ue => ?_) | refine jO tok 0 ?_ | refine jS tok 0 ?_ | refine jS tok 1 ?_))
    refine zlx (fun x : Nat × Int => [(3, .ip [nodsA tn, edgsA te]), (4, .ip [ints gn, edsA ge]), (5, .ip [A8 x0, A8 x1, A8 x2, A8 x3]), (6, .pt U6 0 0 0), (7, .pt ue 0 0 0), (9, AI x.1)]) (fun x => [(ue, .box [AI (1 + 1), AI 0, AI x.2, AI (x2 % ((rowI gn).length : Int)), AI (x3 % ((rowI gn).length : Int))]), (U6, .box [AI 0, AI 0, AI 0, AI 0, AI 0])]) (fun x => x.1 ≤ (te.map cEdg).length ∧ pkR ⟨tn, te⟩ x1 na nb (te.map cEdg).length ((te.map cEdg).length - x.1) x.1 x.2 = R) (fun x => (te.map cEdg).length - x.1) (0, ((te.map cEdg).length : Nat)) ⟨Nat.zero_le _, hR⟩ ?_ (OSub.refl _) ?_
    · exact subQ
    clear hR
    rintro ⟨k, T⟩ ⟨k1, k2⟩
    simp only at k1 k2
    dsimp only
    by_cases hgo : k < (te.map cEdg).length ∧ T = ((te.map cEdg).length : Nat)
    · obtain ⟨g1, g2⟩ := hgo
      obtain ⟨m, hm⟩ : ∃ m, (te.map cEdg).length - k = m + 1 := ⟨(te.map cEdg).length - k - 1, by omega⟩
      rw [hm, pkR, if_pos g2, show m = (te.map cEdg).length - (k + 1) by omega] at k2
      have sf := sF ((x1 + k) % ((te.map cEdg).length : Int)) na nb
      subst g2
      cases hb : fitsR ⟨tn, te⟩ ((x1 + k) % ((te.map cEdg).length : Int)) na nb with
      | true =>
        rw [hb] at sf k2
        rw [if_pos rfl] at k2
        repeat (first | refine gN pk ?_ | (show AL _ _ _ _ _ _ _; first | refine jO tok 0 ?_ | refine s_arrIp tok rfl rfl rfl rfl rfl rfl rfl rfl (by decide) (by decide) ?_ | refine zcv tok rfl rfl rfl rfl rfl rfl rfl (IntWalk.i64_in _ (by omega)) ?_ | refine s_rem rfl rfl rfl rfl rfl rfl (by omega) (by omega) ?_))
        refine zrg ((List.range 15).map fun i => if inL [14] i = true then .eff else if inL [0, 3, 5, 6, 7, 9, 11, 12, 13] i = true then .read else .pure) [] [0, 1, 2, 3, 4, 5, 6, 7, 8, 9, 10, 11, 12, 13, 14] .stop mixed rfl rfl (by decide +kernel) ?_
        repeat' (first | (with_reducible show AG _ _ _ _ _ _ _ _ _ _; first | exact zgn | refine zgs ?_ | refine znd ?_ ?_) | (show AMid _ _ _ _; first | refine zmf ?_ | refine zmg (by first | exact OSub.refl _ | exact .drop (OSub.refl _) | exact .drop (.drop (OSub.refl _))) ?_) | refine gY pk ?_ | (show AL _ _ _ _ _ _ _; first | refine jO tok 0 ?_ | refine s_index tok rfl rfl rfl rfl rfl rfl rfl rfl rfl p0 ya ?_ | refine s_index tok rfl rfl rfl rfl rfl rfl rfl rfl rfl p2 yb ?_ | refine jP sf ?_) | fail)
        repeat (first | refine gA pk ?_ | (show AL _ _ _ _ _ _ _; first | refine jS tok 0 ?_))
        exact ⟨(k + 1, (x1 + k) % ((te.map cEdg).length : Int)), ⟨by show k + 1 ≤ _; omega, k2⟩, by show _ - (k + 1) < _ - k; omega, by exact subQ, OSub.refl _⟩
      | false =>
        rw [hb] at sf k2
        rw [if_neg (by decide)] at k2
        repeat (first | refine gN pk ?_ | (show AL _ _ _ _ _ _ _; first | refine jO tok 0 ?_ | refine s_arrIp tok rfl rfl rfl rfl rfl rfl rfl rfl (by decide) (by decide) ?_ | refine zcv tok rfl rfl rfl rfl rfl rfl rfl (IntWalk.i64_in _ (by omega)) ?_ | refine s_rem rfl rfl rfl rfl rfl rfl (by omega) (by omega) ?_))
        refine zrg ((List.range 15).map fun i => if inL [14] i = true then .eff else if inL [0, 3, 5, 6, 7, 9, 11, 12, 13] i = true then .read else .pure) [] [0, 1, 2, 3, 4, 5, 6, 7, 8, 9, 10, 11, 12, 13, 14] .stop mixed rfl rfl (by decide +kernel) ?_
        repeat' (first | (with_reducible show AG _ _ _ _ _ _ _ _ _ _; first | exact zgn | refine zgs ?_ | refine znd ?_ ?_) | (show AMid _ _ _ _; first | refine zmf ?_ | refine zmg (by first | exact OSub.refl _ | exact .drop (OSub.refl _) | exact .drop (.drop (OSub.refl _))) ?_) | refine gY pk ?_ | (show AL _ _ _ _ _ _ _; first | refine jO tok 0 ?_ | refine s_index tok rfl rfl rfl rfl rfl rfl rfl rfl rfl p0 ya ?_ | refine s_index tok rfl rfl rfl rfl rfl rfl rfl rfl rfl p2 yb ?_ | refine jP sf ?_) | fail)
        repeat (first | refine gA pk ?_)
        exact ⟨(k + 1, (((te.map cEdg).length : Nat) : Int)), ⟨by show k + 1 ≤ _; omega, k2⟩, by show _ - (k + 1) < _ - k; omega, by exact subQ, OSub.refl _⟩
    · have hT : T = R := by
        cases hm : (te.map cEdg).length - k with
        | zero => rw [hm, pkR] at k2; exact k2
        | succ m =>
          rw [hm, pkR, if_neg (fun h => hgo ⟨by omega, h⟩)] at k2
          exact k2
      have hex : (te.map cEdg).length ≤ k ∨ (k < (te.map cEdg).length ∧ T ≠ ((te.map cEdg).length : Nat)) := by
        by_cases h : (te.map cEdg).length ≤ k
        · exact .inl h
        · exact .inr ⟨by omega, fun e => hgo ⟨by omega, e⟩⟩
      rw [← hT]
      rcases hex with hx | ⟨hx1, hx2⟩
      all_goals
        repeat (first | refine gV pk ?_ | (show AL _ _ _ _ _ _ _; first | refine jO tok 0 ?_ | refine jS tok 1 ?_))
        refine zfb 1 6 rfl rfl ?_
        refine a_ret ?_
        exact ⟨.inr rfl, _, _, _, _, rfl, rfl, Turn.of (Sub.of_eq rfl) (OSub.none _), rfl, rfl⟩
  · refine ⟨(⟨3, x1 % (((rowI gn).length : Int) + 1), 0, 0, 0⟩ : Edt), ⟨show (1 : Int) ≤ 3 by decide, show (3 : Int) ≤ 4 by decide⟩, pre ?_⟩
    refine a_enterC Tryz.func23 (by kernel_rfl) rfl Tryz.ntmps23 rfl (tok _ _ rfl) (by simp) ?_
    refine a_seq ?_
    refine a_reg ?_
    repeat (first | refine gZ pk ?_ | (show AL _ _ _ _ _ _ _; first | refine jB (fun u => ?_) | refine jL tok (fun U6 => ?_)))
    refine zfb 3 3 rfl rfl ?_
    refine zfb 2 4 rfl rfl ?_
    refine zfb 1 5 rfl rfl ?_
    repeat (first | refine gN pk ?_ | (show AL _ _ _ _ _ _ _; first | refine s_arrIp tok rfl rfl rfl rfl rfl rfl rfl rfl (by decide) (by decide) ?_ | refine zcv tok rfl rfl rfl rfl rfl rfl rfl (IntWalk.i64_in _ (by omega)) ?_ | refine s_rem rfl rfl rfl rfl rfl rfl (by omega) (by omega) ?_ | refine jL tok (fun ue => ?_) | refine jS tok 0 ?_))
    rw [hk]
    repeat (first | refine gV pk ?_ | (show AL _ _ _ _ _ _ _; first | refine s_arrIp tok rfl rfl rfl rfl rfl rfl rfl rfl (by decide) (by decide) ?_ | refine zcv tok rfl rfl rfl rfl rfl rfl rfl (IntWalk.i64_in _ (by omega)) ?_ | refine s_rem rfl rfl rfl rfl rfl rfl (by omega) (by omega) ?_ | refine jL tok (fun ue => ?_) | refine jO tok 0 ?_ | refine jS tok 0 ?_ | refine jS tok 1 ?_))
    refine zfb 1 6 rfl rfl ?_
    refine a_ret ?_
    exact ⟨.inr rfl, _, _, _, _, rfl, rfl, Turn.of (Sub.of_eq rfl) (OSub.none _), rfl, rfl⟩
  · refine ⟨(⟨4, x1 % (((ge.map cEd).length : Int) + 1), 0, 0, 0⟩ : Edt), ⟨show (1 : Int) ≤ 4 by decide, show (4 : Int) ≤ 4 by decide⟩, pre ?_⟩
    refine a_enterC Tryz.func23 (by kernel_rfl) rfl Tryz.ntmps23 rfl (tok _ _ rfl) (by simp) ?_
    refine a_seq ?_
    refine a_reg ?_
    repeat (first | refine gZ pk ?_ | (show AL _ _ _ _ _ _ _; first | refine jB (fun u => ?_) | refine jL tok (fun U6 => ?_)))
    refine zfb 3 3 rfl rfl ?_
    refine zfb 2 4 rfl rfl ?_
    refine zfb 1 5 rfl rfl ?_
    repeat (first | refine gN pk ?_ | (show AL _ _ _ _ _ _ _; first | refine s_arrIp tok rfl rfl rfl rfl rfl rfl rfl rfl (by decide) (by decide) ?_ | refine zcv tok rfl rfl rfl rfl rfl rfl rfl (IntWalk.i64_in _ (by omega)) ?_ | refine s_rem rfl rfl rfl rfl rfl rfl (by omega) (by omega) ?_ | refine jL tok (fun ue => ?_) | refine jS tok 0 ?_))
    rw [hk]
    repeat (first | refine gV pk ?_ | (show AL _ _ _ _ _ _ _; first | refine s_arrIp tok rfl rfl rfl rfl rfl rfl rfl rfl (by decide) (by decide) ?_ | refine zcv tok rfl rfl rfl rfl rfl rfl rfl (IntWalk.i64_in _ (by omega)) ?_ | refine s_rem rfl rfl rfl rfl rfl rfl (by omega) (by omega) ?_ | refine jL tok (fun ue => ?_) | refine jO tok 0 ?_ | refine jS tok 0 ?_ | refine jS tok 1 ?_))
    refine zfb 1 6 rfl rfl ?_
    refine a_ret ?_
    exact ⟨.inr rfl, _, _, _, _, rfl, rfl, Turn.of (Sub.of_eq rfl) (OSub.none _), rfl, rfl⟩
end Go.Proofs.YtddohheabpiljaaGreat
end
