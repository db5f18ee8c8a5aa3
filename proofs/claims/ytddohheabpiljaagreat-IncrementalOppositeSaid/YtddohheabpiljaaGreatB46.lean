/-
  Parts of the proof of the law IncrementalOpposite (texts W59): steps, plain mathematics, contracts of functions. Each theorem states its own conditions.
-/
import Derived.Test.YtddohheabpiljaaGreatB09
import Derived.Test.YtddohheabpiljaaGreatB45
section
/-
  Watches: new matches (program); the sort and the compaction are handed in as contracts.
-/
namespace Go.Proofs.YtddohheabpiljaaGreat
open Go.Sj Go.Sj.Typ Go.Sj.Sta Go.Sj.Inc
set_option maxRecDepth 8000
set_option linter.unusedVariables false
set_option linter.unusedSimpArgs false
set_option maxHeartbeats 16000000

def parA (p g : Gr) (edge : Bool) (i : Nat) : List Int × List Int := if edge = true then (noneL p.nodes.length, (noneL p.edges.length).set i ((g.edges.length : Int) - 1)) else ((noneL p.nodes.length).set i ((g.nodes.length : Int) - 1), noneL p.edges.length)
def freI (t : Tys) (p g : Gr) (edge inj : Bool) (i : Nat) : List Mo × Int := extR t p g (parA p g edge i).1 (parA p g edge i).2 inj
def freN (p : Gr) (edge : Bool) : Nat := if edge = true then p.edges.length else p.nodes.length
def freC (t : Tys) (p g : Gr) (edge inj : Bool) : List Mo := (List.range (freN p edge)).flatMap fun i => (freI t p g edge inj i).1
theorem fresh_spec (t : Tys) (ht : Small t) (p g : Gr) (hp : GV p) (hg : GV g) (edge inj : Bool) (he : ∀ i, i < freN p edge → (freI t p g edge inj i).2 = 0) (hlen : (freC t p g edge inj).length ≤ 1000000) (hb : ∀ i, (freI t p g edge inj i).1.length ≤ 5000) (Y Z : List Mo)
    (hsort : ∀ v, ACalls Tryz.prog 98 [.lit v, .fn (.func 63) [] []] [(v, .row 95 2 ((freC t p g edge inj).map cMo))] (fun y M => y = .tup [] ∧ M = [(v, .row 95 2 (Y.map cMo))]))
    (hcomp : ∀ v, ACalls Tryz.prog 99 [.lit v, .fn (.func 42) [] []] [(v, .row 95 2 (Y.map cMo))] (fun y M => ∃ v', y = .lit v' ∧ M = [(v', .row 95 2 (Z.map cMo))])) :
    Pure Tryz.prog 66 [tysA t, grA p, grA g, AB edge, AB inj] (.tup [mosA Z, AI 0]) := by
  have hpn := hp.nl
  have hpe := hp.el
  have hgn := hg.nl
  have hge := hg.el
  have lpn : (rowI p.nodes).length = p.nodes.length := by simp
  have lpe : (p.edges.map cEd).length = p.edges.length := by simp
  have lgn : (rowI g.nodes).length = g.nodes.length := by simp
  have lge : (g.edges.map cEd).length = g.edges.length := by simp
  have s1 := iopenO_spec p hp
  have nl : ∀ n, (noneL n).length = n := fun n => by simp [noneL]
  have nl' : ∀ n, (rowI (noneL n)).length = n := fun n => by simp [noneL]
  have hr1 : ∀ (l : List Int), ∀ x ∈ rowI l, x.length = 1 := fun l x hx => by
    obtain ⟨y, _, rfl⟩ := List.mem_map.1 hx
    rfl
  have s2 : ∀ i, i < freN p edge → Pure Tryz.prog 97 [tysA t, grA p, grA g, .agg [ints (parA p g edge i).1, ints (parA p g edge i).2], AB inj] (.tup [mosA (freI t p g edge inj i).1, AI 0]) := fun i hi => by
    have h := sextend_spec t ht p g ⟨by omega, by omega⟩ ⟨by omega, by omega⟩ (parA p g edge i).1 (parA p g edge i).2 (by unfold parA; split <;> simp [noneL] <;> omega) (by unfold parA; split <;> simp [noneL] <;> omega) inj
    have h2 := he i hi
    unfold freI at h2 ⊢
    rw [h2] at h
    exact h
  have hsum : ∀ k, ((List.range k).flatMap fun i => (freI t p g edge inj i).1).length ≤ k * 5000 := fun k => by
    induction k with
    | zero => simp
    | succ k ih =>
      have := hb k
      rw [List.range_succ, List.flatMap_append, List.length_append]
      simp only [List.flatMap_cons, List.flatMap_nil, List.append_nil]
      omega
  unfold freC at hsort hlen
  obtain ⟨f, hf⟩ : ∃ f : Nat → List Mo, (fun i => (freI t p g edge inj i).1) = f := ⟨_, rfl⟩
  have hfk := fun i => congrFun hf i
  rw [hf] at hsort hlen
  simp only [hfk] at s2 hsum hb
  cases edge with
  | true =>
    simp only [freN, if_pos] at s2 hsort hlen
    refine a_enter Tryz.func66 (by kernel_rfl) rfl Tryz.ntmps66 rfl (by simp) ?_
    refine a_seq ?_
    refine a_reg ?_
    repeat (first | refine gZ pk ?_ | (show AL _ _ _ _ _ _ _; first | refine jB (fun u => ?_)))
    refine a_frzBox 2 5 rfl rfl ?_
    refine a_frzBox 1 6 rfl rfl ?_
    refine a_frzBox 0 7 rfl rfl ?_
    repeat (first | (show AWp _ _ _ _ _ _; first | refine a_regR mixed (by decide +kernel) ?_) | refine gN pk ?_)
    rw [lpe, lge]
    refine a_loopG2 (fun (i : Nat) (vo : Value) => [(3, AB true), (4, AB inj), (5, tysP t), (6, grP p), (7, grP g), (13, AI ((g.edges.length : Int) - 1)), (14, .lit vo), (34, AI p.edges.length), (35, AI i)]) (fun i vo => [(vo, .row 95 2 (((List.range i).flatMap f).map cMo))]) (fun i _ => i ≤ p.edges.length) (fun i _ => p.edges.length - i) 0 (.slice none 0 0) (Nat.zero_le _) (.sub (by exact subQ) (.free (OSub.none _))) ?_
    intro i vo hi
    have hsi := hsum i
    have lO : (((List.range i).flatMap f).map cMo).length = ((List.range i).flatMap f).length := by simp
    rcases Nat.lt_or_ge i p.edges.length with h | h
    · have s3 := s2 i h
      have hbi := hb i
      have hpa : parA p g true i = (noneL p.nodes.length, (noneL p.edges.length).set i ((g.edges.length : Int) - 1)) := rfl
      rw [hpa] at s3
      simp only at s3
      have hset : ((List.range (i + 1)).flatMap f).map cMo = ((List.range i).flatMap f).map cMo ++ (f i).map cMo := by rw [List.range_succ, List.flatMap_append, List.map_append]; simp
      have lf : ((f i).map cMo).length = (f i).length := by simp
      have hcell : ((f i).map cMo).all (fun e => e.all AV.cell) = true := List.all_eq_true.2 fun x hx => by
        obtain ⟨y, _, rfl⟩ := List.mem_map.1 hx
        rfl
      have n1 := nl p.nodes.length
      have n2 := nl p.edges.length
      have n3 := nl' p.nodes.length
      have n4 := nl' p.edges.length
      generalize (List.range i).flatMap f = O at *
      generalize f i = X at *
      repeat (first | refine gZ pk ?_)
      refine a_reg ?_
      repeat (first | refine gZ pk ?_)
      refine a_reg ?_
      repeat (first | refine gZ pk ?_)
      refine a_reg ?_
      repeat (first | refine gZ pk ?_ | (show AL _ _ _ _ _ _ _; first | refine s_call (Lc := []) (Lr := [(vo, .row 95 2 (O.map cMo))]) rfl rfl rfl rfl rfl s1 (SubL.of_eq rfl) (List.Perm.refl _) ?_; rintro _ _ ⟨va, vb, hva, hvb, rfl, rfl⟩ | refine jL tok (fun bp => ?_) | refine s_store (a := .agg [.lit va, .lit vb]) tok 0 rfl rfl rfl rfl rfl rfl (by simp [AV.storable, AV.cell, hva, hvb]) rfl (by decide) rfl rfl rfl (Nat.le_of_ble_eq_true rfl) ?_))
      refine a_reg ?_
      repeat (first | refine gZ pk ?_)
      refine a_reg ?_
      repeat (first | refine gZ pk ?_ | (show AL _ _ _ _ _ _ _; first | refine jO tok 0 ?_ | refine s_ownIndex tok 2 rfl rfl rfl rfl (by decide) rfl rfl rfl rfl rfl rfl (by omega) (by omega) ?_ | refine s_storeI tok 2 rfl rfl rfl rfl rfl rfl rfl rfl (by omega) ?_))
      refine a_goto (GoTo.freeze 1 rfl (FZS.refl _) [(bp, OB.box [ints (noneL p.nodes.length), .lit vb]), (vb, OB.row 3 1 (rowI ((noneL p.edges.length).set i ((g.edges.length : Int) - 1)))), (vo, OB.row 95 2 (O.map cMo))] (fzo_box ⟨FZ.here, FZ.refl _, trivial⟩ (fzo_row (hr1 _) (fzo_row (mo_rows' _) trivial)))) ?_
      refine a_goto (GoTo.freeze 1 rfl (FZS.refl _) [(bp, OB.box [ints (noneL p.nodes.length), ints ((noneL p.edges.length).set i ((g.edges.length : Int) - 1))]), (vo, OB.row 95 2 (O.map cMo))] (fzo_box ⟨FZ.refl _, FZ.here, trivial⟩ (fzo_row (mo_rows' _) trivial))) ?_
      refine a_frzBox 0 16 rfl rfl ?_
      repeat (first | refine gA pk ?_ | (show AL _ _ _ _ _ _ _; first | refine jP s3 ?_ | refine s_appendIm tok 0 rfl rfl rfl rfl rfl rfl (by decide) rfl rfl rfl rfl hcell (by simp only [lO, lf]; omega) (by simp only [lO, lf]; omega) (fun w => ?_)))
      exact ⟨i + 1, w, by omega, by omega, .sub (by exact subQ) (by rw [hset]; exact OSub.refl _)⟩
    · obtain rfl : i = p.edges.length := by omega
      repeat (first | refine gA pk ?_ | (show AL _ _ _ _ _ _ _; first | refine s_call (Lc := [(vo, .row 95 2 (((List.range p.edges.length).flatMap f).map cMo))]) (Lr := []) rfl rfl rfl rfl rfl (hsort vo) (SubL.of_eq rfl) (List.Perm.refl _) ?_; rintro _ _ ⟨rfl, rfl⟩ | refine s_frzNow 0 rfl rfl rfl (s_call (Lc := [(vo, .row 95 2 (Y.map cMo))]) (Lr := []) rfl rfl rfl rfl rfl (hcomp vo) (SubL.of_eq rfl) (List.Perm.refl _) (by rintro _ _ ⟨v', rfl, rfl⟩; exact AL.nil ⟨v', rfl, rfl, rfl⟩)) ?_))
      refine finQ ?_
      exact ⟨rfl, rfl⟩
  | false =>
    simp only [freN, if_neg (show ¬ (false = true) by decide)] at s2 hsort hlen
    refine a_enter Tryz.func66 (by kernel_rfl) rfl Tryz.ntmps66 rfl (by simp) ?_
    refine a_seq ?_
    refine a_reg ?_
    repeat (first | refine gZ pk ?_ | (show AL _ _ _ _ _ _ _; first | refine jB (fun u => ?_)))
    refine a_frzBox 2 5 rfl rfl ?_
    refine a_frzBox 1 6 rfl rfl ?_
    refine a_frzBox 0 7 rfl rfl ?_
    repeat (first | (show AWp _ _ _ _ _ _; first | refine a_regR mixed (by decide +kernel) ?_) | refine gN pk ?_)
    rw [lpn, lgn]
    refine a_loopG2 (fun (i : Nat) (vo : Value) => [(3, AB false), (4, AB inj), (5, tysP t), (6, grP p), (7, grP g), (13, AI ((g.nodes.length : Int) - 1)), (14, .lit vo), (34, AI p.nodes.length), (35, AI i)]) (fun i vo => [(vo, .row 95 2 (((List.range i).flatMap f).map cMo))]) (fun i _ => i ≤ p.nodes.length) (fun i _ => p.nodes.length - i) 0 (.slice none 0 0) (Nat.zero_le _) (.sub (by exact subQ) (.free (OSub.none _))) ?_
    intro i vo hi
    have hsi := hsum i
    have lO : (((List.range i).flatMap f).map cMo).length = ((List.range i).flatMap f).length := by simp
    rcases Nat.lt_or_ge i p.nodes.length with h | h
    · have s3 := s2 i h
      have hbi := hb i
      have hpa : parA p g false i = ((noneL p.nodes.length).set i ((g.nodes.length : Int) - 1), noneL p.edges.length) := rfl
      rw [hpa] at s3
      simp only at s3
      have hset : ((List.range (i + 1)).flatMap f).map cMo = ((List.range i).flatMap f).map cMo ++ (f i).map cMo := by rw [List.range_succ, List.flatMap_append, List.map_append]; simp
      have lf : ((f i).map cMo).length = (f i).length := by simp
      have hcell : ((f i).map cMo).all (fun e => e.all AV.cell) = true := List.all_eq_true.2 fun x hx => by
        obtain ⟨y, _, rfl⟩ := List.mem_map.1 hx
        rfl
      have n1 := nl p.nodes.length
      have n2 := nl p.edges.length
      have n3 := nl' p.nodes.length
      have n4 := nl' p.edges.length
      generalize (List.range i).flatMap f = O at *
      generalize f i = X at *
      repeat (first | refine gZ pk ?_)
      refine a_reg ?_
      repeat (first | refine gZ pk ?_)
      refine a_reg ?_
      repeat (first | refine gZ pk ?_)
      refine a_reg ?_
      repeat (first | refine gZ pk ?_ | (show AL _ _ _ _ _ _ _; first | refine s_call (Lc := []) (Lr := [(vo, .row 95 2 (O.map cMo))]) rfl rfl rfl rfl rfl s1 (SubL.of_eq rfl) (List.Perm.refl _) ?_; rintro _ _ ⟨va, vb, hva, hvb, rfl, rfl⟩ | refine jL tok (fun bp => ?_) | refine s_store (a := .agg [.lit va, .lit vb]) tok 0 rfl rfl rfl rfl rfl rfl (by simp [AV.storable, AV.cell, hva, hvb]) rfl (by decide) rfl rfl rfl (Nat.le_of_ble_eq_true rfl) ?_))
      refine a_reg ?_
      repeat (first | refine gZ pk ?_)
      refine a_reg ?_
      repeat (first | refine gZ pk ?_ | (show AL _ _ _ _ _ _ _; first | refine jO tok 0 ?_ | refine s_ownIndex tok 1 rfl rfl rfl rfl (by decide) rfl rfl rfl rfl rfl rfl (by omega) (by omega) ?_ | refine s_storeI tok 1 rfl rfl rfl rfl rfl rfl rfl rfl (by omega) ?_))
      refine a_goto (GoTo.freeze 1 rfl (FZS.refl _) [(bp, OB.box [ints ((noneL p.nodes.length).set i ((g.nodes.length : Int) - 1)), .lit vb]), (vb, OB.row 3 1 (rowI (noneL p.edges.length))), (vo, OB.row 95 2 (O.map cMo))] (fzo_box ⟨FZ.here, FZ.refl _, trivial⟩ (fzo_row (hr1 _) (fzo_row (mo_rows' _) trivial)))) ?_
      refine a_goto (GoTo.freeze 1 rfl (FZS.refl _) [(bp, OB.box [ints ((noneL p.nodes.length).set i ((g.nodes.length : Int) - 1)), ints (noneL p.edges.length)]), (vo, OB.row 95 2 (O.map cMo))] (fzo_box ⟨FZ.refl _, FZ.here, trivial⟩ (fzo_row (mo_rows' _) trivial))) ?_
      refine a_frzBox 0 16 rfl rfl ?_
      repeat (first | refine gA pk ?_ | (show AL _ _ _ _ _ _ _; first | refine jP s3 ?_ | refine s_appendIm tok 0 rfl rfl rfl rfl rfl rfl (by decide) rfl rfl rfl rfl hcell (by simp only [lO, lf]; omega) (by simp only [lO, lf]; omega) (fun w => ?_)))
      exact ⟨i + 1, w, by omega, by omega, .sub (by exact subQ) (by rw [hset]; exact OSub.refl _)⟩
    · obtain rfl : i = p.nodes.length := by omega
      repeat (first | refine gA pk ?_ | (show AL _ _ _ _ _ _ _; first | refine s_call (Lc := [(vo, .row 95 2 (((List.range p.nodes.length).flatMap f).map cMo))]) (Lr := []) rfl rfl rfl rfl rfl (hsort vo) (SubL.of_eq rfl) (List.Perm.refl _) ?_; rintro _ _ ⟨rfl, rfl⟩ | refine s_frzNow 0 rfl rfl rfl (s_call (Lc := [(vo, .row 95 2 (Y.map cMo))]) (Lr := []) rfl rfl rfl rfl rfl (hcomp vo) (SubL.of_eq rfl) (List.Perm.refl _) (by rintro _ _ ⟨v', rfl, rfl⟩; exact AL.nil ⟨v', rfl, rfl, rfl⟩)) ?_))
      refine finQ ?_
      exact ⟨rfl, rfl⟩
end Go.Proofs.YtddohheabpiljaaGreat

end
