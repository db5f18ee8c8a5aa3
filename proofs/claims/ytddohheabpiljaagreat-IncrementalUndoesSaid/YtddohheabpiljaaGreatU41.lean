/- Parts of a proof. -/
import Derived.Test.YtddohheabpiljaaGreatU37
set_option linter.unusedVariables false
set_option linter.unusedSimpArgs false
section
namespace Go.Proofs.YtddohheabpiljaaGreat
open Go.Sj Go.Sj.Typ Go.Sj.Sta Go.Sj.Inc
set_option maxRecDepth 8000
set_option maxHeartbeats 16000000
def parA (p g : Gr) (edge : Bool) (i : Nat) : List Int × List Int := if edge = true then (noneL p.nodes.length, (noneL p.edges.length).set i ((g.edges.length : Int) - 1)) else ((noneL p.nodes.length).set i ((g.nodes.length : Int) - 1), noneL p.edges.length)
def freI (t : Tys) (p g : Gr) (edge inj : Bool) (i : Nat) : List Mo × Int := extR t p g (parA p g edge i).1 (parA p g edge i).2 inj
def freN (p : Gr) (edge : Bool) : Nat := if edge = true then p.edges.length else p.nodes.length
def freC (t : Tys) (p g : Gr) (edge inj : Bool) : List Mo := (List.range (freN p edge)).flatMap fun i => (freI t p g edge inj i).1
theorem fresh_spec (t : Tys) (ht : Small t) (p g : Gr) (hp : GV p) (hg : GV g) (edge inj : Bool) (he : ∀ i, i < freN p edge → (freI t p g edge inj i).2 = 0) (hlen : (freC t p g edge inj).length ≤ 1000000) (hb : ∀ i, (freI t p g edge inj i).1.length ≤ 5000) (Y Z : List Mo)
    (hsort : ∀ v, ACalls Tryz.prog 98 [.lit v, .fn (.func 63) [] []] [(v, .row 95 2 ((freC t p g edge inj).map cMo))] (fun y M => y = .tup [] ∧ M = [(v, .row 95 2 (Y.map cMo))]))
    (hcomp : ∀ v, ACalls Tryz.prog 99 [.lit v, .fn (.func 42) [] []] [(v, .row 95 2 (Y.map cMo))] (fun y M => ∃ v', y = .lit v' ∧ M = [(v', .row 95 2 (Z.map cMo))])) :
    Pure Tryz.prog 66 [tysA t, grA p, grA g, AB edge, AB inj] (.tup [mosA Z, AI 0]) := by
  have hpn := hp.nl
  have hpe := hp.el
  have hgn := hg.nl
  have hge := hg.el
  have lpn : (rowI p.nodes).length = p.nodes.length := by simp
  have lpe : (p.edges.map cEd).length = p.edges.length := by simp
  have lgn : (rowI g.nodes).length = g.nodes.length := by simp
  have lge : (g.edges.map cEd).length = g.edges.length := by simp
  have s1 := iopenO_spec p hp
  have nl : ∀ n, (noneL n).length = n := fun n => by simp [noneL]
  have nl' : ∀ n, (rowI (noneL n)).length = n := fun n => by simp [noneL]
  have hr1 : ∀ (l : List Int), ∀ x ∈ rowI l, x.length = 1 := fun l x hx => by
    obtain ⟨y, _, rfl⟩ := List.mem_map.1 hx
    rfl
  have s2 : ∀ i, i < freN p edge → Pure Tryz.prog 97 [tysA t, grA p, grA g, .agg [ints (parA p g edge i).1, ints (parA p g edge i).2], AB inj] (.tup [mosA (freI t p g edge inj i).1, AI 0]) := fun i hi => by
    have h := sextend_spec t ht p g ⟨by omega, by omega⟩ ⟨by omega, by omega⟩ (parA p g edge i).1 (parA p g edge i).2 (by unfold parA; split <;> simp [noneL] <;> omega) (by unfold parA; split <;> simp [noneL] <;> omega) inj
    have h2 := he i hi
    unfold freI at h2 ⊢
    rw [h2] at h
    exact h
  have hsum : ∀ k, ((List.range k).flatMap fun i => (freI t p g edge inj i).1).length ≤ k * 5000 := fun k => by
    induction k with
    | zero => simp
    | succ k ih =>
      have := hb k
      rw [List.range_succ, List.flatMap_append, List.length_append]
      simp only [List.flatMap_cons, List.flatMap_nil, List.append_nil]
      omega
  unfold freC at hsort hlen
  obtain ⟨f, hf⟩ : ∃ f : Nat → List Mo, (fun i => (freI t p g edge inj i).1) = f := ⟨_, rfl⟩
  have hfk := fun i => congrFun hf i
  rw [hf] at hsort hlen
  simp only [hfk] at s2 hsum hb
  cases edge with
  | true =>
    simp only [freN, if_pos] at s2 hsort hlen
    refine zen Tryz.func66 (by kernel_rfl) rfl Tryz.ntmps66 rfl (by simp) ?_
    refine a_seq ?_
    refine a_reg ?_
    repeat (first | refine gZ pk ?_ | (show AL _ _ _ _ _ _ _; first | refine jB (fun u => ?_)))
    refine zfb 2 5 rfl rfl ?_
    refine zfb 1 6 rfl rfl ?_
    refine zfb 0 7 rfl rfl ?_
    repeat (first | (show AWp _ _ _ _ _ _; first | refine a_regR mixed (by decide +kernel) ?_) | refine gN pk ?_)
    rw [lpe, lge]
    refine a_loopG2 (fun (i : Nat) (vo : Value) => [(3, AB true), (4, AB inj), (5, tysP t), (6, grP p), (7, grP g), (13, AI ((g.edges.length : Int) - 1)), (14, .lit vo), (34, AI p.edges.length), (35, AI i)]) (fun i vo => [(vo, .row 95 2 (((List.range i).flatMap f).map cMo))]) (fun i _ => i ≤ p.edges.length) (fun i _ => p.edges.length - i) 0 (.slice none 0 0) (Nat.zero_le _) (.sub (by exact subQ) (.free (OSub.none _))) ?_
    intro i vo hi
    have hsi := hsum i
    have lO : (((List.range i).flatMap f).map cMo).length = ((List.range i).flatMap f).length := by simp
    rcases Nat.lt_or_ge i p.edges.length with h | h
    · have s3 := s2 i h
      have hbi := hb i
      have hpa : parA p g true i = (noneL p.nodes.length, (noneL p.edges.length).set i ((g.edges.length : Int) - 1)) := rfl
      rw [hpa] at s3
      simp only at s3
      have hset : ((List.range (i + 1)).flatMap f).map cMo = ((List.range i).flatMap f).map cMo ++ (f i).map cMo := by rw [List.range_succ, List.flatMap_append, List.map_append]; simp
      have lf : ((f i).map cMo).length = (f i).length := by simp
      have hcell : ((f i).map cMo).all (fun e => e.all AV.cell) = true := List.all_eq_true.2 fun x hx => by
        obtain ⟨y, _, rfl⟩ := List.mem_map.1 hx
        rfl
      have n1 := nl p.nodes.length
      have n2 := nl p.edges.length
      have n3 := nl' p.nodes.length
      have n4 := nl' p.edges.length
      generalize (List.range i).flatMap f = O at *
      generalize f i = X at *
      repeat (first | refine gZ pk ?_)
      refine a_reg ?_
      repeat (first | refine gZ pk ?_)
      refine a_reg ?_
      repeat (first | refine gZ pk ?_)
      refine a_reg ?_
      repeat (first | refine gZ pk ?_ | (show AL _ _ _ _ _ _ _; first | refine zsc (Lc := []) (Lr := [(vo, .row 95 2 (O.map cMo))]) rfl rfl rfl rfl rfl s1 (SubL.of_eq rfl) (List.Perm.refl _) ?_; rintro _ _ ⟨va, vb, hva, hvb, rfl, rfl⟩ | refine jL tok (fun bp => ?_) | refine s_store (a := .agg [.lit va, .lit vb]) tok 0 rfl rfl rfl rfl rfl rfl (by simp [AV.storable, AV.cell, hva, hvb]) rfl (by decide) rfl rfl rfl (Nat.le_of_ble_eq_true rfl) ?_))
      refine a_reg ?_
      repeat (first | refine gZ pk ?_)
      refine a_reg ?_
      repeat (first | refine gZ pk ?_ | (show AL _ _ _ _ _ _ _; first | refine jO tok 0 ?_ | refine zoi tok 2 rfl rfl rfl rfl (by decide) rfl rfl rfl rfl rfl rfl (by omega) (by omega) ?_ | refine s_storeI tok 2 rfl rfl rfl rfl rfl rfl rfl rfl (by omega) ?_))
      refine zgt (GoTo.freeze 1 rfl (FZS.refl _) [(bp, OB.box [ints (noneL p.nodes.length), .lit vb]), (vb, OB.row 3 1 (rowI ((noneL p.edges.length).set i ((g.edges.length : Int) - 1)))), (vo, OB.row 95 2 (O.map cMo))] (zfo ⟨FZ.here, FZ.refl _, trivial⟩ (zfw (hr1 _) (zfw (mo_rows' _) trivial)))) ?_
      refine zgt (GoTo.freeze 1 rfl (FZS.refl _) [(bp, OB.box [ints (noneL p.nodes.length), ints ((noneL p.edges.length).set i ((g.edges.length : Int) - 1))]), (vo, OB.row 95 2 (O.map cMo))] (zfo ⟨FZ.refl _, FZ.here, trivial⟩ (zfw (mo_rows' _) trivial))) ?_
      refine zfb 0 16 rfl rfl ?_
      repeat (first | refine gA pk ?_ | (show AL _ _ _ _ _ _ _; first | refine jP s3 ?_ | refine s_appendIm tok 0 rfl rfl rfl rfl rfl rfl (by decide) rfl rfl rfl rfl hcell (by simp only [lO, lf]; omega) (by simp only [lO, lf]; omega) (fun w => ?_)))
      exact ⟨i + 1, w, by omega, by omega, .sub (by exact subQ) (by rw [hset]; exact OSub.refl _)⟩
    · obtain rfl : i = p.edges.length := by omega
      repeat (first | refine gA pk ?_ | (show AL _ _ _ _ _ _ _; first | refine zsc (Lc := [(vo, .row 95 2 (((List.range p.edges.length).flatMap f).map cMo))]) (Lr := []) rfl rfl rfl rfl rfl (hsort vo) (SubL.of_eq rfl) (List.Perm.refl _) ?_; rintro _ _ ⟨rfl, rfl⟩ | refine s_frzNow 0 rfl rfl rfl (zsc (Lc := [(vo, .row 95 2 (Y.map cMo))]) (Lr := []) rfl rfl rfl rfl rfl (hcomp vo) (SubL.of_eq rfl) (List.Perm.refl _) (by rintro _ _ ⟨v', rfl, rfl⟩; exact AL.nil ⟨v', rfl, rfl, rfl⟩)) ?_))
      refine finQ ?_
      exact ⟨rfl, rfl⟩
  | false =>
    simp only [freN, if_neg (show ¬ (false = true) by decide)] at s2 hsort hlen
    refine zen Tryz.func66 (by kernel_rfl) rfl Tryz.ntmps66 rfl (by simp) ?_
    refine a_seq ?_
    refine a_reg ?_
    repeat (first | refine gZ pk ?_ | (show AL _ _ _ _ _ _ _; first | refine jB (fun u => ?_)))
    refine zfb 2 5 rfl rfl ?_
    refine zfb 1 6 rfl rfl ?_
    refine zfb 0 7 rfl rfl ?_
    repeat (first | (show AWp _ _ _ _ _ _; first | refine a_regR mixed (by decide +kernel) ?_) | refine gN pk ?_)
    rw [lpn, lgn]
    refine a_loopG2 (fun (i : Nat) (vo : Value) => [(3, AB false), (4, AB inj), (5, tysP t), (6, grP p), (7, grP g), (13, AI ((g.nodes.length : Int) - 1)), (14, .lit vo), (34, AI p.nodes.length), (35, AI i)]) (fun i vo => [(vo, .row 95 2 (((List.range i).flatMap f).map cMo))]) (fun i _ => i ≤ p.nodes.length) (fun i _ => p.nodes.length - i) 0 (.slice none 0 0) (Nat.zero_le _) (.sub (by exact subQ) (.free (OSub.none _))) ?_
    intro i vo hi
    have hsi := hsum i
    have lO : (((List.range i).flatMap f).map cMo).length = ((List.range i).flatMap f).length := by simp
    rcases Nat.lt_or_ge i p.nodes.length with h | h
    · have s3 := s2 i h
      have hbi := hb i
      have hpa : parA p g false i = ((noneL p.nodes.length).set i ((g.nodes.length : Int) - 1), noneL p.edges.length) := rfl
      rw [hpa] at s3
      simp only at s3
      have hset : ((List.range (i + 1)).flatMap f).map cMo = ((List.range i).flatMap f).map cMo ++ (f i).map cMo := by rw [List.range_succ, List.flatMap_append, List.map_append]; simp
      have lf : ((f i).map cMo).length = (f i).length := by simp
      have hcell : ((f i).map cMo).all (fun e => e.all AV.cell) = true := List.all_eq_true.2 fun x hx => by
        obtain ⟨y, _, rfl⟩ := List.mem_map.1 hx
        rfl
      have n1 := nl p.nodes.length
      have n2 := nl p.edges.length
      have n3 := nl' p.nodes.length
      have n4 := nl' p.edges.length
      generalize (List.range i).flatMap f = O at *
      generalize f i = X at *
      repeat (first | refine gZ pk ?_)
      refine a_reg ?_
      repeat (first | refine gZ pk ?_)
      refine a_reg ?_
      repeat (first | refine gZ pk ?_)
      refine a_reg ?_
      repeat (first | refine gZ pk ?_ | (show AL _ _ _ _ _ _ _; first | refine zsc (Lc := []) (Lr := [(vo, .row 95 2 (O.map cMo))]) rfl rfl rfl rfl rfl s1 (SubL.of_eq rfl) (List.Perm.refl _) ?_; rintro _ _ ⟨va, vb, hva, hvb, rfl, rfl⟩ | refine jL tok (fun bp => ?_) | refine s_store (a := .agg [.lit va, .lit vb]) tok 0 rfl rfl rfl rfl rfl rfl (by simp [AV.storable, AV.cell, hva, hvb]) rfl (by decide) rfl rfl rfl (Nat.le_of_ble_eq_true rfl) ?_))
      refine a_reg ?_
      repeat (first | refine gZ pk ?_)
      refine a_reg ?_
      repeat (first | refine gZ pk ?_ | (show AL _ _ _ _ _ _ _; first | refine jO tok 0 ?_ | refine zoi tok 1 rfl rfl rfl rfl (by decide) rfl rfl rfl rfl rfl rfl (by omega) (by omega) ?_ | refine s_storeI tok 1 rfl rfl rfl rfl rfl rfl rfl rfl (by omega) ?_))
      refine zgt (GoTo.freeze 1 rfl (FZS.refl _) [(bp, OB.box [ints ((noneL p.nodes.length).set i ((g.nodes.length : Int) - 1)), .lit vb]), (vb, OB.row 3 1 (rowI (noneL p.edges.length))), (vo, OB.row 95 2 (O.map cMo))] (zfo ⟨FZ.here, FZ.refl _, trivial⟩ (zfw (hr1 _) (zfw (mo_rows' _) trivial)))) ?_
      refine zgt (GoTo.freeze 1 rfl (FZS.refl _) [(bp, OB.box [ints ((noneL p.nodes.length).set i ((g.nodes.length : Int) - 1)), ints (noneL p.edges.length)]), (vo, OB.row 95 2 (O.map cMo))] (zfo ⟨FZ.refl _, FZ.here, trivial⟩ (zfw (mo_rows' _) trivial))) ?_
      refine zfb 0 16 rfl rfl ?_
      repeat (first | refine gA pk ?_ | (show AL _ _ _ _ _ _ _; first | refine jP s3 ?_ | refine s_appendIm tok 0 rfl rfl rfl rfl rfl rfl (by decide) rfl rfl rfl rfl hcell (by simp only [lO, lf]; omega) (by simp only [lO, lf]; omega) (fun w => ?_)))
      exact ⟨i + 1, w, by omega, by omega, .sub (by exact subQ) (by rw [hset]; exact OSub.refl _)⟩
    · obtain rfl : i = p.nodes.length := by omega
      repeat (first | refine gA pk ?_ | (show AL _ _ _ _ _ _ _; first | refine zsc (Lc := [(vo, .row 95 2 (((List.range p.nodes.length).flatMap f).map cMo))]) (Lr := []) rfl rfl rfl rfl rfl (hsort vo) (SubL.of_eq rfl) (List.Perm.refl _) ?_; rintro _ _ ⟨rfl, rfl⟩ | refine s_frzNow 0 rfl rfl rfl (zsc (Lc := [(vo, .row 95 2 (Y.map cMo))]) (Lr := []) rfl rfl rfl rfl rfl (hcomp vo) (SubL.of_eq rfl) (List.Perm.refl _) (by rintro _ _ ⟨v', rfl, rfl⟩; exact AL.nil ⟨v', rfl, rfl, rfl⟩)) ?_))
      refine finQ ?_
      exact ⟨rfl, rfl⟩
end Go.Proofs.YtddohheabpiljaaGreat
end
section
namespace Go.Proofs.YtddohheabpiljaaGreat
open Go.Sj Go.Sj.Typ Go.Sj.Sta Go.Sj.Inc
set_option maxRecDepth 8000
set_option maxHeartbeats 16000000
theorem grow_spec (n : Nat) (hn : n ≤ 1000000) : ACalls Tryz.prog 115 [nilS, AI n] [] (fun y M => ∃ v, y = .lit v ∧ M = [(v, .row 95 2 [])]) := by
  by_cases h : n = 0
  · subst h
    refine zen Tryz.func115 (by kernel_rfl) rfl Tryz.ntmps115 rfl (by simp) ?_
    refine a_nil 95 2 ?_
    repeat (first | refine gN pk ?_ | (show AL _ _ _ _ _ _ _; first | refine zol tok 0 rfl rfl rfl rfl (by decide) rfl rfl rfl ?_ | refine s_cap tok rfl rfl rfl rfl rfl rfl ?_))
    exact fin (x := .lit _) (.inr rfl) rfl (Sub.refl _) ⟨_, rfl, rfl⟩ (OSub.refl _)
  · refine zen Tryz.func115 (by kernel_rfl) rfl Tryz.ntmps115 rfl (by simp) ?_
    refine a_nil 95 2 ?_
    repeat (first | refine gN pk ?_ | (show AL _ _ _ _ _ _ _; first | refine zol tok 0 rfl rfl rfl rfl (by decide) rfl rfl rfl ?_ | refine s_cap tok rfl rfl rfl rfl rfl rfl ?_ | refine s_capPart tok (0) (0) rfl rfl rfl rfl rfl rfl rfl rfl (by first | exact rfl | exact ⟨_, _, rfl, by omega⟩) (by first | exact rfl | exact ⟨_, _, rfl, by omega⟩) (by omega) (by omega) ?_))
    refine s_appendMake tok 0 0 n rfl rfl rfl rfl rfl rfl rfl (by decide) rfl rfl rfl ⟨_, rfl, by omega⟩ (by omega) (by omega) (by omega) (by omega) (by show (0 + n) * 48 ≤ _; omega) (fun v => ?_)
    repeat (first | refine gN pk ?_ | (show AL _ _ _ _ _ _ _; first | refine zol tok 1 rfl rfl rfl rfl (by decide) rfl rfl rfl ?_ | refine s_frontC tok 0 (n := 0) rfl rfl rfl rfl rfl rfl rfl rfl rfl (Nat.zero_le _) (fun v2 hv2 => ?_)))
    exact fin (x := .lit _) (.inr rfl) rfl (Sub.refl _) ⟨_, rfl, rfl⟩ (.keep (OSub.none _))
def catR (a b : List Mo) : Nat → List (List AV)
  | 0 => []
  | 1 => a.map cMo
  | _ => a.map cMo ++ b.map cMo
theorem concat_spec (a b : List Mo) (ha : a.length ≤ 400000) (hb : b.length ≤ 400000) : Gives Tryz.prog 100 [mssA [a, b]] 95 2 ((a ++ b).map cMo) := by
  have la : (a.map cMo).length = a.length := by simp
  have lb : (b.map cMo).length = b.length := by simp
  have hcell : ∀ l : List Mo, (l.map cMo).all (fun e => e.all AV.cell) = true := fun l => List.all_eq_true.2 fun x hx => by
    obtain ⟨y, _, rfl⟩ := List.mem_map.1 hx
    rfl
  have k0 : ([[mosA a], [mosA b]] : List (List AV))[(0 : Int).toNat]? = some [mosA a] := rfl
  have k1 : ([[mosA a], [mosA b]] : List (List AV))[(1 : Int).toNat]? = some [mosA b] := rfl
  have s1 := grow_spec (a.length + b.length) (by omega)
  rw [List.map_append]
  refine zen Tryz.func100 (by kernel_rfl) rfl Tryz.ntmps100 rfl (by simp) ?_
  repeat (first | refine gA pk ?_)
  refine a_loopG2 (fun (k : Nat) (z : Int) => [(0, mssA [a, b]), (3, AI z), (9, mssA [a, b]), (10, AI 2), (11, AI k)]) (fun _ _ => []) (fun k z => k ≤ 2 ∧ (k = 0 → z = 0) ∧ (k = 1 → z = a.length) ∧ (k = 2 → z = a.length + b.length)) (fun k _ => 2 - k) 0 0 ⟨Nat.zero_le _, fun _ => rfl, fun h => (by cases h), fun h => (by cases h)⟩ (.sub (by exact subQ) (OSub.refl _)) ?_
  rintro k z ⟨hk, h0, h1, h2⟩
  have hk3 : k = 0 ∨ k = 1 ∨ k = 2 := by omega
  rcases hk3 with rfl | rfl | rfl
  · have hz := h0 rfl
    repeat (first | refine gA pk ?_ | (show AL _ _ _ _ _ _ _; first | refine jX tok k0 ?_))
    exact ⟨1, z + ((a.map cMo).length : Int), ⟨by omega, fun h => (by cases h), fun _ => by omega, fun h => (by cases h)⟩, by omega, .sub (by exact subQ) (OSub.refl _)⟩
  · have hz := h1 rfl
    repeat (first | refine gA pk ?_ | (show AL _ _ _ _ _ _ _; first | refine jX tok k1 ?_))
    exact ⟨2, z + ((b.map cMo).length : Int), ⟨by omega, fun h => (by cases h), fun h => (by cases h), fun _ => by omega⟩, by omega, .sub (by exact subQ) (OSub.refl _)⟩
  · have hz := h2 rfl
    rw [Int.natCast_add, ← hz] at s1
    repeat (first | refine gA pk ?_ | (show AL _ _ _ _ _ _ _; first | refine zsc (Lc := []) (Lr := []) rfl rfl rfl rfl rfl s1 (SubL.of_eq rfl) (List.Perm.refl _) ?_; rintro _ _ ⟨v, rfl, rfl⟩))
    refine a_loopG2 (fun (k : Nat) (v : Value) => [(6, .lit v), (25, mssA [a, b]), (26, AI 2), (27, AI k)]) (fun k v => [(v, .row 95 2 (catR a b k))]) (fun k _ => k ≤ 2) (fun k _ => 2 - k) 0 v (Nat.zero_le _) (.sub (by exact subQ) (OSub.refl _)) ?_
    clear v
    intro k v hk
    have hk3 : k = 0 ∨ k = 1 ∨ k = 2 := by omega
    rcases hk3 with rfl | rfl | rfl
    · repeat (first | refine gA pk ?_ | (show AL _ _ _ _ _ _ _; first | refine jX tok k0 ?_ | refine s_appendIm tok 0 rfl rfl rfl rfl rfl rfl (by decide) rfl rfl rfl rfl (hcell _) (by simp only [catR, la, lb, List.length_nil]; omega) (by simp only [catR, la, lb, List.length_nil]; omega) (fun w => ?_)))
      exact ⟨1, w, by omega, by omega, .sub (by exact subQ) (OSub.refl _)⟩
    · repeat (first | refine gA pk ?_ | (show AL _ _ _ _ _ _ _; first | refine jX tok k1 ?_ | refine s_appendIm tok 0 rfl rfl rfl rfl rfl rfl (by decide) rfl rfl rfl rfl (hcell _) (by simp only [catR, la, lb, List.length_nil]; omega) (by simp only [catR, la, lb, List.length_nil]; omega) (fun w => ?_)))
      exact ⟨2, w, by omega, by omega, .sub (by exact subQ) (OSub.refl _)⟩
    · repeat (first | refine gA pk ?_)
      exact fin (x := .lit _) (.inr rfl) rfl (Sub.refl _) ⟨_, rfl, rfl⟩ (OSub.refl _)
theorem merged_spec (a b Y : List Mo) (ha : a.length ≤ 400000) (hb : b.length ≤ 400000)
    (hsort : ∀ v, ACalls Tryz.prog 98 [.lit v, .fn (.func 63) [] []] [(v, .row 95 2 ((a ++ b).map cMo))] (fun y M => y = .tup [] ∧ M = [(v, .row 95 2 (Y.map cMo))])) :
    Gives Tryz.prog 67 [mosA a, mosA b] 95 2 (Y.map cMo) := by
  have s1 := concat_spec a b ha hb
  refine zen Tryz.func67 (by kernel_rfl) rfl Tryz.ntmps67 rfl (by simp) ?_
  repeat (first | refine gN pk ?_ | (show AL _ _ _ _ _ _ _; first | refine s_frzNow 0 rfl rfl rfl (s_build tok rfl rfl rfl rfl rfl rfl rfl rfl (by decide) (by decide) (fun v => AL.nil ⟨v, rfl, rfl, rfl⟩)) ?_ | refine s_callG rfl rfl rfl rfl rfl (s1) (SubL.of_eq rfl) (fun v => ?_)))
  repeat (first | refine gN pk ?_ | (show AL _ _ _ _ _ _ _; first | refine zsc (Lc := [(v, .row 95 2 ((a ++ b).map cMo))]) (Lr := []) rfl rfl rfl rfl rfl (hsort v) (SubL.of_eq rfl) (List.Perm.refl _) ?_; rintro _ _ ⟨rfl, rfl⟩))
  exact fin (x := .lit _) (.inr rfl) rfl (Sub.refl _) ⟨_, rfl, rfl⟩ (OSub.refl _)
end Go.Proofs.YtddohheabpiljaaGreat
end
section
namespace Go.Sj.Inc
open Go.Sj Go.Sj.Sta Go.Sj.Typ
set_option maxRecDepth 8000
def les (d n : Int) : Int := if d < n then n - 1 else n
def rai (d n : Int) : Int := if n < d then n else n + 1
theorem les_rai (d n : Int) : les d (rai d n) = n := by unfold les rai; repeat' split <;> omega
theorem rai_ne (d n : Int) : rai d n ≠ d := by unfold rai; split <;> omega
theorem les_inj {d a b : Int} (ha : a ≠ d) (hb : b ≠ d) : les d a = les d b ↔ a = b := by unfold les; split <;> split <;> omega
theorem les_lt {d a b : Int} (ha : a ≠ d) (hb : b ≠ d) : les d a < les d b ↔ a < b := by unfold les; split <;> split <;> omega
def lesE (d : Int) (x : Ed) : Ed := ⟨x.ty, les d x.fr, les d x.to⟩
def ediG (g : Gr) (e : Edt) : Gr := if e.kind = 1 then ⟨g.nodes ++ [e.ty], g.edges⟩ else if e.kind = 2 then ⟨g.nodes, g.edges ++ [⟨e.ty, e.fr, e.to⟩]⟩ else if e.kind = 3 then ⟨g.nodes.eraseIdx e.idx.toNat, g.edges.map (lesE e.idx)⟩ else ⟨g.nodes, g.edges.eraseIdx e.idx.toNat⟩
theorem mem_ix {l : List Int} {z : Int} (h : z ∈ l) : ∃ u, u < l.length ∧ l[u]? = some z := by
  obtain ⟨u, hu, he⟩ := List.mem_iff_getElem.1 h
  exact ⟨u, hu, by rw [List.getElem?_eq_getElem hu, he]⟩
theorem ix_mem {l : List Int} {u : Nat} {z : Int} (h : l[u]? = some z) : z ∈ l := by
  obtain ⟨hu, he⟩ := List.getElem?_eq_some_iff.1 h
  exact he ▸ List.getElem_mem hu
section
variable {t : Tys} {p g : Gr} {inj : Bool}
theorem candN_addN {ty : Int} {ns : List Int} {k : Nat} (h : k < g.nodes.length) : candN (seaA t p ⟨g.nodes ++ [ty], g.edges⟩ inj) ns k = candN (seaA t p g inj) ns k := by
  unfold candN
  have : (g.nodes ++ [ty]).getD k 0 = g.nodes.getD k 0 := by
    rw [List.getD_eq_getElem?_getD, List.getD_eq_getElem?_getD, List.getElem?_append_left h]
  show (!offN none ns.length k && (okT t (p.nodes.getD ns.length 0) ((g.nodes ++ [ty]).getD k 0) && _)) = _
  rw [this]
  rfl
theorem mat_addN {ty : Int} {x : Mo} : x ∈ matL (seaA t p g inj) ↔ (x ∈ matL (seaA t p ⟨g.nodes ++ [ty], g.edges⟩ inj) ∧ (g.nodes.length : Int) ∉ x.1) := by
  rw [mat_mem, mat_mem]
  have hl : (g.nodes ++ [ty]).length = g.nodes.length + 1 := by simp
  constructor
  · intro h
    refine ⟨⟨h.nl, h.el, fun u h1 h2 => ?_, h.es⟩, fun hm => ?_⟩
    · obtain ⟨k, a, b, c⟩ := h.ns u h1 h2
      exact ⟨k, a, by show k < (g.nodes ++ [ty]).length; have : k < g.nodes.length := b; omega, (candN_addN b).trans c⟩
    · obtain ⟨u, hu, he⟩ := mem_ix hm
      obtain ⟨k, a, b, c⟩ := h.ns u (Nat.zero_le _) (by have := h.nl; omega)
      rw [he] at a
      have b : k < g.nodes.length := b
      simp at a
      omega
  · rintro ⟨h, hm⟩
    refine ⟨h.nl, h.el, fun u h1 h2 => ?_, h.es⟩
    obtain ⟨k, a, b, c⟩ := h.ns u h1 h2
    have b : k < (g.nodes ++ [ty]).length := b
    have hk : k ≠ g.nodes.length := fun e => hm (e ▸ ix_mem a)
    have hk2 : k < g.nodes.length := by omega
    exact ⟨k, a, hk2, (candN_addN hk2).symm.trans c⟩
theorem candE_addE {x : Ed} {ns es : List Int} {k : Nat} (h : k < g.edges.length) : candE (seaA t p ⟨g.nodes, g.edges ++ [x]⟩ inj) ns es k = candE (seaA t p g inj) ns es k := by
  unfold candE fitB eqE
  show (!offN none es.length k && (match p.edges[es.length]?, (g.edges ++ [x])[k]? with
  | some x, some y => decide (y.ty = x.ty) && (decide (y.fr = ns.getD x.fr.toNat 0) && decide (y.to = ns.getD x.to.toNat 0))
  | _, _ => false) && _) = _
  rw [List.getElem?_append_left h]
  rfl
theorem mat_addE {y : Ed} {x : Mo} : x ∈ matL (seaA t p g inj) ↔ (x ∈ matL (seaA t p ⟨g.nodes, g.edges ++ [y]⟩ inj) ∧ (g.edges.length : Int) ∉ x.2) := by
  rw [mat_mem, mat_mem]
  have hl : (g.edges ++ [y]).length = g.edges.length + 1 := by simp
  constructor
  · intro h
    refine ⟨⟨h.nl, h.el, h.ns, fun u h1 h2 => ?_⟩, fun hm => ?_⟩
    · obtain ⟨k, a, b, c⟩ := h.es u h1 h2
      exact ⟨k, a, by show k < (g.edges ++ [y]).length; have : k < g.edges.length := b; omega, (candE_addE b).trans c⟩
    · obtain ⟨u, hu, he⟩ := mem_ix hm
      obtain ⟨k, a, b, c⟩ := h.es u (Nat.zero_le _) (by have := h.el; omega)
      rw [he] at a
      have b : k < g.edges.length := b
      simp at a
      omega
  · rintro ⟨h, hm⟩
    refine ⟨h.nl, h.el, h.ns, fun u h1 h2 => ?_⟩
    obtain ⟨k, a, b, c⟩ := h.es u h1 h2
    have b : k < (g.edges ++ [y]).length := b
    have hk : k ≠ g.edges.length := fun e => hm (e ▸ ix_mem a)
    have hk2 : k < g.edges.length := by omega
    exact ⟨k, a, hk2, (candE_addE hk2).symm.trans c⟩
theorem mem_les {d z : Int} {l : List Int} (hl : d ∉ l) (hz : z ≠ d) : les d z ∈ l.map (les d) ↔ z ∈ l := by
  constructor
  · intro h
    obtain ⟨y, hy, he⟩ := List.mem_map.1 h
    have : y ≠ d := fun e => hl (e ▸ hy)
    exact (les_inj this hz).1 he ▸ hy
  · exact fun h => List.mem_map.2 ⟨z, h, rfl⟩
theorem era_get {A : Type} {l : List A} {d k k' : Nat} (hk : k ≠ d) (h : (k' : Int) = les d k) : (l.eraseIdx d)[k']? = l[k]? := by
  rw [List.getElem?_eraseIdx]
  unfold les at h
  split at h
  · rw [if_neg (by omega)]
    congr 1
    omega
  · rw [if_pos (by omega)]
    congr 1
    omega
theorem not_take {d : Int} {l : List Int} (h : d ∉ l) (u : Nat) : d ∉ l.take u := fun hm => h (List.mem_of_mem_take hm)
theorem candN_rem {d : Nat} {es : List Ed} {ns : List Int} {k k' : Nat} (hns : (d : Int) ∉ ns) (hk : k ≠ d) (h : (k' : Int) = les d k) : candN (seaA t p ⟨g.nodes.eraseIdx d, es⟩ inj) (ns.map (les d)) k' = candN (seaA t p g inj) ns k := by
  unfold candN
  have h1 : (g.nodes.eraseIdx d).getD k' 0 = g.nodes.getD k 0 := by
    rw [List.getD_eq_getElem?_getD, List.getD_eq_getElem?_getD, era_get hk h]
  have h2 : decide ((k' : Int) ∈ ns.map (les d)) = decide ((k : Int) ∈ ns) := by
    rw [h]
    exact decide_eq_decide.2 (mem_les hns (by omega))
  show (!offN none (ns.map (les d)).length k' && (okT t (p.nodes.getD (ns.map (les d)).length 0) ((g.nodes.eraseIdx d).getD k' 0) && !(inj && decide ((k' : Int) ∈ ns.map (les d))))) = _
  rw [h1, h2, List.length_map]
  rfl
theorem eqE_rem {d : Nat} {nd : List Int} {ns : List Int} {u k : Nat} (hp : GV p) (hns : (d : Int) ∉ ns) (hl : ns.length = p.nodes.length) (hg : ∀ y ∈ g.edges, y.fr ≠ d ∧ y.to ≠ d) : eqE (seaA t p ⟨nd, g.edges.map (lesE d)⟩ inj) (ns.map (les d)) u k = eqE (seaA t p g inj) ns u k := by
  unfold eqE
  show (match p.edges[u]?, (g.edges.map (lesE d))[k]? with
  | some x, some y => decide (y.ty = x.ty) && (decide (y.fr = (ns.map (les d)).getD x.fr.toNat 0) && decide (y.to = (ns.map (les d)).getD x.to.toNat 0))
  | _, _ => false) = (match p.edges[u]?, g.edges[k]? with
  | some x, some y => decide (y.ty = x.ty) && (decide (y.fr = ns.getD x.fr.toNat 0) && decide (y.to = ns.getD x.to.toNat 0))
  | _, _ => false)
  rw [List.getElem?_map]
  cases hx : p.edges[u]? with
  | none => rfl
  | some x =>
    cases hy : g.edges[k]? with
    | none => rfl
    | some y =>
      obtain ⟨hu, hxe⟩ := List.getElem?_eq_some_iff.1 hx
      have hpx := (hp.edges x (hxe ▸ List.getElem_mem hu)).2
      obtain ⟨hk, hye⟩ := List.getElem?_eq_some_iff.1 hy
      have hgy := hg y (hye ▸ List.getElem_mem hk)
      have key : ∀ (z v : Int), z ≠ d → 0 ≤ v → v < p.nodes.length → decide (les d z = (ns.map (les d)).getD v.toNat 0) = decide (z = ns.getD v.toNat 0) := fun z v hz h1 h2 => by
        have hv : v.toNat < ns.length := by omega
        rw [List.getD_eq_getElem?_getD, List.getD_eq_getElem?_getD, List.getElem?_map, List.getElem?_eq_getElem hv]
        have : ns[v.toNat] ≠ d := fun e => hns (e ▸ List.getElem_mem hv)
        exact decide_eq_decide.2 (les_inj hz this)
      show (decide (y.ty = x.ty) && (decide (les d y.fr = _) && decide (les d y.to = _))) = _
      rw [key _ _ hgy.1 hpx.1.1 hpx.1.2, key _ _ hgy.2 hpx.2.1 hpx.2.2]
theorem les_nat {d k : Nat} (h : k ≠ d) : ∃ k' : Nat, (k' : Int) = les d k := by
  unfold les
  split
  · exact ⟨k - 1, by omega⟩
  · exact ⟨k, rfl⟩
abbrev lesN (d : Int) (x : Mo) : Mo := (x.1.map (les d), x.2)
abbrev lesQ (d : Int) (x : Mo) : Mo := (x.1, x.2.map (les d))
theorem mat_remN {d : Nat} (hp : GV p) (hd : d < g.nodes.length) (hg : ∀ y ∈ g.edges, y.fr ≠ d ∧ y.to ≠ d) {x : Mo} (hx : (d : Int) ∉ x.1) : lesN d x ∈ matL (seaA t p ⟨g.nodes.eraseIdx d, g.edges.map (lesE d)⟩ inj) ↔ x ∈ matL (seaA t p g inj) := by
  rw [mat_mem, mat_mem]
  have hl : (g.nodes.eraseIdx d).length = g.nodes.length - 1 := by rw [List.length_eraseIdx, if_pos hd]
  have hle : (g.edges.map (lesE d)).length = g.edges.length := by simp
  constructor
  · intro h
    have hnl : x.1.length = p.nodes.length := by
      have h1 : (x.1.map (les d)).length = p.nodes.length := h.nl
      rwa [List.length_map] at h1
    refine ⟨hnl, h.el, fun u h1 h2 => ?_, fun u h1 h2 => ?_⟩
    · obtain ⟨k', a, b, c⟩ := h.ns u h1 h2
      have a : (x.1.map (les d))[u]? = some (k' : Int) := a
      have b : k' < (g.nodes.eraseIdx d).length := b
      rw [List.getElem?_map] at a
      cases hz : x.1[u]? with
      | none => rw [hz] at a; cases a
      | some z =>
        rw [hz] at a
        have a : les d z = k' := by simpa using a
        have hzd : z ≠ d := fun e => hx (e ▸ ix_mem hz)
        have hz0 : 0 ≤ z ∧ z < g.nodes.length := by unfold les at a; split at a <;> omega
        obtain ⟨k, rfl⟩ := Int.eq_ofNat_of_zero_le hz0.1
        have hkd : k ≠ d := fun e => hzd (by rw [e])
        refine ⟨k, rfl, by show k < g.nodes.length; have := hz0.2; omega, ?_⟩
        have := candN_rem (t := t) (p := p) (g := g) (inj := inj) (es := g.edges.map (lesE d)) (not_take hx u) hkd a.symm
        rw [← this, List.map_take]
        exact c
    · obtain ⟨k, a, b, c⟩ := h.es u h1 h2
      have b : k < (g.edges.map (lesE d)).length := b
      refine ⟨k, a, by show k < g.edges.length; omega, ?_⟩
      unfold candE fitB at c ⊢
      rw [← eqE_rem (nd := g.nodes.eraseIdx d) hp hx hnl hg]
      exact c
  · intro h
    have hnl : x.1.length = p.nodes.length := h.nl
    refine ⟨by show (x.1.map (les d)).length = _; rw [List.length_map]; exact hnl, h.el, fun u h1 h2 => ?_, fun u h1 h2 => ?_⟩
    · obtain ⟨k, a, b, c⟩ := h.ns u h1 h2
      have b : k < g.nodes.length := b
      have hkd : k ≠ d := fun e => hx (e ▸ ix_mem a)
      obtain ⟨k', hk'⟩ := les_nat hkd
      refine ⟨k', ?_, ?_, ?_⟩
      · show (x.1.map (les d))[u]? = _
        rw [List.getElem?_map, a, hk']
        rfl
      · show k' < (g.nodes.eraseIdx d).length
        unfold les at hk'
        split at hk' <;> omega
      · show candN _ ((x.1.map (les d)).take u) k' = true
        rw [← List.map_take, candN_rem (not_take hx u) hkd hk']
        exact c
    · obtain ⟨k, a, b, c⟩ := h.es u h1 h2
      have b : k < g.edges.length := b
      refine ⟨k, a, by show k < (g.edges.map (lesE d)).length; omega, ?_⟩
      unfold candE fitB at c ⊢
      show (!offN none _ k && eqE _ (x.1.map (les d)) _ k && _) = true
      rw [eqE_rem (nd := g.nodes.eraseIdx d) hp hx hnl hg]
      exact c
theorem candE_rem {d : Nat} {nd : List Int} {ns es : List Int} {k k' : Nat} (hes : (d : Int) ∉ es) (hk : k ≠ d) (h : (k' : Int) = les d k) : candE (seaA t p ⟨g.nodes, g.edges.eraseIdx d⟩ inj) ns (es.map (les d)) k' = candE (seaA t p g inj) ns es k := by
  unfold candE fitB eqE
  have h2 : decide ((k' : Int) ∈ es.map (les d)) = decide ((k : Int) ∈ es) := by
    rw [h]
    exact decide_eq_decide.2 (mem_les hes (by omega))
  show ((!offN none (es.map (les d)).length k' && (match p.edges[(es.map (les d)).length]?, (g.edges.eraseIdx d)[k']? with
  | some x, some y => decide (y.ty = x.ty) && (decide (y.fr = ns.getD x.fr.toNat 0) && decide (y.to = ns.getD x.to.toNat 0))
  | _, _ => false)) && !(inj && decide ((k' : Int) ∈ es.map (les d)))) = _
  rw [h2, List.length_map, era_get hk h]
  rfl
theorem mat_remE {d : Nat} (hd : d < g.edges.length) {x : Mo} (hx : (d : Int) ∉ x.2) : lesQ d x ∈ matL (seaA t p ⟨g.nodes, g.edges.eraseIdx d⟩ inj) ↔ x ∈ matL (seaA t p g inj) := by
  rw [mat_mem, mat_mem]
  have hl : (g.edges.eraseIdx d).length = g.edges.length - 1 := by rw [List.length_eraseIdx, if_pos hd]
  constructor
  · intro h
    have hel : x.2.length = p.edges.length := by
      have h1 : (x.2.map (les d)).length = p.edges.length := h.el
      rwa [List.length_map] at h1
    refine ⟨h.nl, hel, h.ns, fun u h1 h2 => ?_⟩
    obtain ⟨k', a, b, c⟩ := h.es u h1 h2
    have a : (x.2.map (les d))[u]? = some (k' : Int) := a
    have b : k' < (g.edges.eraseIdx d).length := b
    rw [List.getElem?_map] at a
    cases hz : x.2[u]? with
    | none => rw [hz] at a; cases a
    | some z =>
      rw [hz] at a
      have a : les d z = k' := by simpa using a
      have hzd : z ≠ d := fun e => hx (e ▸ ix_mem hz)
      have hz0 : 0 ≤ z ∧ z < g.edges.length := by unfold les at a; split at a <;> omega
      obtain ⟨k, rfl⟩ := Int.eq_ofNat_of_zero_le hz0.1
      have hkd : k ≠ d := fun e => hzd (by rw [e])
      refine ⟨k, rfl, by show k < g.edges.length; have := hz0.2; omega, ?_⟩
      have := candE_rem (t := t) (p := p) (g := g) (inj := inj) (nd := []) (ns := x.1) (not_take hx u) hkd a.symm
      rw [← this, List.map_take]
      exact c
  · intro h
    have hel : x.2.length = p.edges.length := h.el
    refine ⟨h.nl, by show (x.2.map (les d)).length = _; rw [List.length_map]; exact hel, h.ns, fun u h1 h2 => ?_⟩
    obtain ⟨k, a, b, c⟩ := h.es u h1 h2
    have b : k < g.edges.length := b
    have hkd : k ≠ d := fun e => hx (e ▸ ix_mem a)
    obtain ⟨k', hk'⟩ := les_nat hkd
    refine ⟨k', ?_, ?_, ?_⟩
    · show (x.2.map (les d))[u]? = _
      rw [List.getElem?_map, a, hk']
      rfl
    · show k' < (g.edges.eraseIdx d).length
      unfold les at hk'
      split at hk' <;> omega
    · show candE _ x.1 ((x.2.map (les d)).take u) k' = true
      rw [← List.map_take, candE_rem (nd := []) (not_take hx u) hkd hk']
      exact c
end
end Go.Sj.Inc
end
