/- Parts of a proof. -/
import Derived.Test.YtddohheabpiljaaGreatU42
set_option linter.unusedVariables false
set_option linter.unusedSimpArgs false
section
namespace Go.Proofs.YtddohheabpiljaaGreat
open Go.Sj Go.Sj.Typ Go.Sj.Sta Go.Sj.Inc
set_option maxRecDepth 8000
set_option maxHeartbeats 16000000
theorem freshE_spec (t : Tys) (ht : Small t) (p g : Gr) (hp : GV p) (hg : GV g) (edge inj : Bool) (k0 : Nat) (hk0 : k0 < freN p edge) (he : ∀ i, i < k0 → (freI t p g edge inj i).2 = 0) (hek : freI t p g edge inj k0 = ([], 3)) (hb : ∀ i, (freI t p g edge inj i).1.length ≤ 5000) :
    Pure Tryz.prog 66 [tysA t, grA p, grA g, AB edge, AB inj] (.tup [mosA [], AI 3]) := by
  have hpn := hp.nl
  have hpe := hp.el
  have hgn := hg.nl
  have hge := hg.el
  have lpn : (rowI p.nodes).length = p.nodes.length := by simp
  have lpe : (p.edges.map cEd).length = p.edges.length := by simp
  have lgn : (rowI g.nodes).length = g.nodes.length := by simp
  have lge : (g.edges.map cEd).length = g.edges.length := by simp
  have s1 := iopenO_spec p hp
  have nl : ∀ n, (noneL n).length = n := fun n => by simp [noneL]
  have nl' : ∀ n, (rowI (noneL n)).length = n := fun n => by simp [noneL]
  have hr1 : ∀ (l : List Int), ∀ x ∈ rowI l, x.length = 1 := fun l x hx => by
    obtain ⟨y, _, rfl⟩ := List.mem_map.1 hx
    rfl
  have s2 : ∀ i, i < k0 → Pure Tryz.prog 97 [tysA t, grA p, grA g, .agg [ints (parA p g edge i).1, ints (parA p g edge i).2], AB inj] (.tup [mosA (freI t p g edge inj i).1, AI 0]) := fun i hi => by
    have h := sextend_spec t ht p g ⟨by omega, by omega⟩ ⟨by omega, by omega⟩ (parA p g edge i).1 (parA p g edge i).2 (by unfold parA; split <;> simp [noneL] <;> omega) (by unfold parA; split <;> simp [noneL] <;> omega) inj
    have h2 := he i hi
    unfold freI at h2 ⊢
    rw [h2] at h
    exact h
  have s2e : Pure Tryz.prog 97 [tysA t, grA p, grA g, .agg [ints (parA p g edge k0).1, ints (parA p g edge k0).2], AB inj] (.tup [mosA [], AI 3]) := by
    have h := sextend_spec t ht p g ⟨by omega, by omega⟩ ⟨by omega, by omega⟩ (parA p g edge k0).1 (parA p g edge k0).2 (by unfold parA; split <;> simp [noneL] <;> omega) (by unfold parA; split <;> simp [noneL] <;> omega) inj
    unfold freI at hek
    rw [hek] at h
    exact h
  have hsum : ∀ k, ((List.range k).flatMap fun i => (freI t p g edge inj i).1).length ≤ k * 5000 := fun k => by
    induction k with
    | zero => simp
    | succ k ih =>
      have := hb k
      rw [List.range_succ, List.flatMap_append, List.length_append]
      simp only [List.flatMap_cons, List.flatMap_nil, List.append_nil]
      omega
  obtain ⟨f, hf⟩ : ∃ f : Nat → List Mo, (fun i => (freI t p g edge inj i).1) = f := ⟨_, rfl⟩
  have hfk := fun i => congrFun hf i
  simp only [hfk] at s2 hsum hb
  cases edge with
  | true =>
    simp only [freN, if_pos] at hk0
    refine zen Tryz.func66 (by kernel_rfl) rfl Tryz.ntmps66 rfl (by simp) ?_
    refine a_seq ?_
    refine a_reg ?_
    repeat (first | refine gZ pk ?_ | (show AL _ _ _ _ _ _ _; first | refine jB (fun u => ?_)))
    refine zfb 2 5 rfl rfl ?_
    refine zfb 1 6 rfl rfl ?_
    refine zfb 0 7 rfl rfl ?_
    repeat (first | (show AWp _ _ _ _ _ _; first | refine a_regR mixed (by decide +kernel) ?_) | refine gN pk ?_)
    rw [lpe, lge]
    refine a_loopG2 (fun (i : Nat) (vo : Value) => [(3, AB true), (4, AB inj), (5, tysP t), (6, grP p), (7, grP g), (13, AI ((g.edges.length : Int) - 1)), (14, .lit vo), (34, AI p.edges.length), (35, AI i)]) (fun i vo => [(vo, .row 95 2 (((List.range i).flatMap f).map cMo))]) (fun i _ => i ≤ k0) (fun i _ => k0 - i) 0 (.slice none 0 0) (Nat.zero_le _) (.sub (by exact subQ) (.free (OSub.none _))) ?_
    intro i vo hi
    have hsi := hsum i
    have lO : (((List.range i).flatMap f).map cMo).length = ((List.range i).flatMap f).length := by simp
    rcases Nat.lt_or_ge i k0 with h | h
    · have s3 := s2 i h
      have hbi := hb i
      have hpa : parA p g true i = (noneL p.nodes.length, (noneL p.edges.length).set i ((g.edges.length : Int) - 1)) := rfl
      rw [hpa] at s3
      simp only at s3
      have hset : ((List.range (i + 1)).flatMap f).map cMo = ((List.range i).flatMap f).map cMo ++ (f i).map cMo := by rw [List.range_succ, List.flatMap_append, List.map_append]; simp
      have lf : ((f i).map cMo).length = (f i).length := by simp
      have hcell : ((f i).map cMo).all (fun e => e.all AV.cell) = true := List.all_eq_true.2 fun x hx => by
        obtain ⟨y, _, rfl⟩ := List.mem_map.1 hx
        rfl
      have n1 := nl p.nodes.length
      have n2 := nl p.edges.length
      have n3 := nl' p.nodes.length
      have n4 := nl' p.edges.length
      generalize (List.range i).flatMap f = O at *
      generalize f i = X at *
      repeat (first | refine gZ pk ?_)
      refine a_reg ?_
      repeat (first | refine gZ pk ?_)
      refine a_reg ?_
      repeat (first | refine gZ pk ?_)
      refine a_reg ?_
      repeat (first | refine gZ pk ?_ | (show AL _ _ _ _ _ _ _; first | refine zsc (Lc := []) (Lr := [(vo, .row 95 2 (O.map cMo))]) rfl rfl rfl rfl rfl s1 (SubL.of_eq rfl) (List.Perm.refl _) ?_; rintro _ _ ⟨va, vb, hva, hvb, rfl, rfl⟩ | refine jL tok (fun bp => ?_) | refine s_store (a := .agg [.lit va, .lit vb]) tok 0 rfl rfl rfl rfl rfl rfl (by simp [AV.storable, AV.cell, hva, hvb]) rfl (by decide) rfl rfl rfl (Nat.le_of_ble_eq_true rfl) ?_))
      refine a_reg ?_
      repeat (first | refine gZ pk ?_)
      refine a_reg ?_
      repeat (first | refine gZ pk ?_ | (show AL _ _ _ _ _ _ _; first | refine jO tok 0 ?_ | refine zoi tok 2 rfl rfl rfl rfl (by decide) rfl rfl rfl rfl rfl rfl (by omega) (by omega) ?_ | refine s_storeI tok 2 rfl rfl rfl rfl rfl rfl rfl rfl (by omega) ?_))
      refine zgt (GoTo.freeze 1 rfl (FZS.refl _) [(bp, OB.box [ints (noneL p.nodes.length), .lit vb]), (vb, OB.row 3 1 (rowI ((noneL p.edges.length).set i ((g.edges.length : Int) - 1)))), (vo, OB.row 95 2 (O.map cMo))] (zfo ⟨FZ.here, FZ.refl _, trivial⟩ (zfw (hr1 _) (zfw (mo_rows' _) trivial)))) ?_
      refine zgt (GoTo.freeze 1 rfl (FZS.refl _) [(bp, OB.box [ints (noneL p.nodes.length), ints ((noneL p.edges.length).set i ((g.edges.length : Int) - 1))]), (vo, OB.row 95 2 (O.map cMo))] (zfo ⟨FZ.refl _, FZ.here, trivial⟩ (zfw (mo_rows' _) trivial))) ?_
      refine zfb 0 16 rfl rfl ?_
      repeat (first | refine gA pk ?_ | (show AL _ _ _ _ _ _ _; first | refine jP s3 ?_ | refine s_appendIm tok 0 rfl rfl rfl rfl rfl rfl (by decide) rfl rfl rfl rfl hcell (by simp only [lO, lf]; omega) (by simp only [lO, lf]; omega) (fun w => ?_)))
      exact ⟨i + 1, w, by omega, by omega, .sub (by exact subQ) (by rw [hset]; exact OSub.refl _)⟩
    · obtain rfl : i = k0 := by omega
      have hpa : parA p g true i = (noneL p.nodes.length, (noneL p.edges.length).set i ((g.edges.length : Int) - 1)) := rfl
      rw [hpa] at s2e
      simp only at s2e
      have n1 := nl p.nodes.length
      have n2 := nl p.edges.length
      have n3 := nl' p.nodes.length
      have n4 := nl' p.edges.length
      generalize (List.range i).flatMap f = O at *
      repeat (first | refine gZ pk ?_)
      refine a_reg ?_
      repeat (first | refine gZ pk ?_)
      refine a_reg ?_
      repeat (first | refine gZ pk ?_)
      refine a_reg ?_
      repeat (first | refine gZ pk ?_ | (show AL _ _ _ _ _ _ _; first | refine zsc (Lc := []) (Lr := [(vo, .row 95 2 (O.map cMo))]) rfl rfl rfl rfl rfl s1 (SubL.of_eq rfl) (List.Perm.refl _) ?_; rintro _ _ ⟨va, vb, hva, hvb, rfl, rfl⟩ | refine jL tok (fun bp => ?_) | refine s_store (a := .agg [.lit va, .lit vb]) tok 0 rfl rfl rfl rfl rfl rfl (by simp [AV.storable, AV.cell, hva, hvb]) rfl (by decide) rfl rfl rfl (Nat.le_of_ble_eq_true rfl) ?_))
      refine a_reg ?_
      repeat (first | refine gZ pk ?_)
      refine a_reg ?_
      repeat (first | refine gZ pk ?_ | (show AL _ _ _ _ _ _ _; first | refine jO tok 0 ?_ | refine zoi tok 2 rfl rfl rfl rfl (by decide) rfl rfl rfl rfl rfl rfl (by omega) (by omega) ?_ | refine s_storeI tok 2 rfl rfl rfl rfl rfl rfl rfl rfl (by omega) ?_))
      refine zgt (GoTo.freeze 1 rfl (FZS.refl _) [(bp, OB.box [ints (noneL p.nodes.length), .lit vb]), (vb, OB.row 3 1 (rowI ((noneL p.edges.length).set i ((g.edges.length : Int) - 1)))), (vo, OB.row 95 2 (O.map cMo))] (zfo ⟨FZ.here, FZ.refl _, trivial⟩ (zfw (hr1 _) (zfw (mo_rows' _) trivial)))) ?_
      refine zgt (GoTo.freeze 1 rfl (FZS.refl _) [(bp, OB.box [ints (noneL p.nodes.length), ints ((noneL p.edges.length).set i ((g.edges.length : Int) - 1))]), (vo, OB.row 95 2 (O.map cMo))] (zfo ⟨FZ.refl _, FZ.here, trivial⟩ (zfw (mo_rows' _) trivial))) ?_
      refine zfb 0 16 rfl rfl ?_
      repeat (first | refine gA pk ?_ | (show AL _ _ _ _ _ _ _; first | refine jP s2e ?_))
      refine fin (x := .tup [nilS, AI 3]) (.inr rfl) rfl (Sub.tup (m := [mosA [], AI 3]) ⟨Sub.nil 2, Sub.refl _, trivial⟩) ?_ (OSub.none _)
      exact ⟨rfl, rfl⟩
  | false =>
    simp only [freN, if_neg (show ¬ (false = true) by decide)] at hk0
    refine zen Tryz.func66 (by kernel_rfl) rfl Tryz.ntmps66 rfl (by simp) ?_
    refine a_seq ?_
    refine a_reg ?_
    repeat (first | refine gZ pk ?_ | (show AL _ _ _ _ _ _ _; first | refine jB (fun u => ?_)))
    refine zfb 2 5 rfl rfl ?_
    refine zfb 1 6 rfl rfl ?_
    refine zfb 0 7 rfl rfl ?_
    repeat (first | (show AWp _ _ _ _ _ _; first | refine a_regR mixed (by decide +kernel) ?_) | refine gN pk ?_)
    rw [lpn, lgn]
    refine a_loopG2 (fun (i : Nat) (vo : Value) => [(3, AB false), (4, AB inj), (5, tysP t), (6, grP p), (7, grP g), (13, AI ((g.nodes.length : Int) - 1)), (14, .lit vo), (34, AI p.nodes.length), (35, AI i)]) (fun i vo => [(vo, .row 95 2 (((List.range i).flatMap f).map cMo))]) (fun i _ => i ≤ k0) (fun i _ => k0 - i) 0 (.slice none 0 0) (Nat.zero_le _) (.sub (by exact subQ) (.free (OSub.none _))) ?_
    intro i vo hi
    have hsi := hsum i
    have lO : (((List.range i).flatMap f).map cMo).length = ((List.range i).flatMap f).length := by simp
    rcases Nat.lt_or_ge i k0 with h | h
    · have s3 := s2 i h
      have hbi := hb i
      have hpa : parA p g false i = ((noneL p.nodes.length).set i ((g.nodes.length : Int) - 1), noneL p.edges.length) := rfl
      rw [hpa] at s3
      simp only at s3
      have hset : ((List.range (i + 1)).flatMap f).map cMo = ((List.range i).flatMap f).map cMo ++ (f i).map cMo := by rw [List.range_succ, List.flatMap_append, List.map_append]; simp
      have lf : ((f i).map cMo).length = (f i).length := by simp
      have hcell : ((f i).map cMo).all (fun e => e.all AV.cell) = true := List.all_eq_true.2 fun x hx => by
        obtain ⟨y, _, rfl⟩ := List.mem_map.1 hx
        rfl
      have n1 := nl p.nodes.length
      have n2 := nl p.edges.length
      have n3 := nl' p.nodes.length
      have n4 := nl' p.edges.length
      generalize (List.range i).flatMap f = O at *
      generalize f i = X at *
      repeat (first | refine gZ pk ?_)
      refine a_reg ?_
      repeat (first | refine gZ pk ?_)
      refine a_reg ?_
      repeat (first | refine gZ pk ?_)
      refine a_reg ?_
      repeat (first | refine gZ pk ?_ | (show AL _ _ _ _ _ _ _; first | refine zsc (Lc := []) (Lr := [(vo, .row 95 2 (O.map cMo))]) rfl rfl rfl rfl rfl s1 (SubL.of_eq rfl) (List.Perm.refl _) ?_; rintro _ _ ⟨va, vb, hva, hvb, rfl, rfl⟩ | refine jL tok (fun bp => ?_) | refine s_store (a := .agg [.lit va, .lit vb]) tok 0 rfl rfl rfl rfl rfl rfl (by simp [AV.storable, AV.cell, hva, hvb]) rfl (by decide) rfl rfl rfl (Nat.le_of_ble_eq_true rfl) ?_))
      refine a_reg ?_
      repeat (first | refine gZ pk ?_)
      refine a_reg ?_
      repeat (first | refine gZ pk ?_ | (show AL _ _ _ _ _ _ _; first | refine jO tok 0 ?_ | refine zoi tok 1 rfl rfl rfl rfl (by decide) rfl rfl rfl rfl rfl rfl (by omega) (by omega) ?_ | refine s_storeI tok 1 rfl rfl rfl rfl rfl rfl rfl rfl (by omega) ?_))
      refine zgt (GoTo.freeze 1 rfl (FZS.refl _) [(bp, OB.box [ints ((noneL p.nodes.length).set i ((g.nodes.length : Int) - 1)), .lit vb]), (vb, OB.row 3 1 (rowI (noneL p.edges.length))), (vo, OB.row 95 2 (O.map cMo))] (zfo ⟨FZ.here, FZ.refl _, trivial⟩ (zfw (hr1 _) (zfw (mo_rows' _) trivial)))) ?_
      refine zgt (GoTo.freeze 1 rfl (FZS.refl _) [(bp, OB.box [ints ((noneL p.nodes.length).set i ((g.nodes.length : Int) - 1)), ints (noneL p.edges.length)]), (vo, OB.row 95 2 (O.map cMo))] (zfo ⟨FZ.refl _, FZ.here, trivial⟩ (zfw (mo_rows' _) trivial))) ?_
      refine zfb 0 16 rfl rfl ?_
      repeat (first | refine gA pk ?_ | (show AL _ _ _ _ _ _ _; first | refine jP s3 ?_ | refine s_appendIm tok 0 rfl rfl rfl rfl rfl rfl (by decide) rfl rfl rfl rfl hcell (by simp only [lO, lf]; omega) (by simp only [lO, lf]; omega) (fun w => ?_)))
      exact ⟨i + 1, w, by omega, by omega, .sub (by exact subQ) (by rw [hset]; exact OSub.refl _)⟩
    · obtain rfl : i = k0 := by omega
      have hpa : parA p g false i = ((noneL p.nodes.length).set i ((g.nodes.length : Int) - 1), noneL p.edges.length) := rfl
      rw [hpa] at s2e
      simp only at s2e
      have n1 := nl p.nodes.length
      have n2 := nl p.edges.length
      have n3 := nl' p.nodes.length
      have n4 := nl' p.edges.length
      generalize (List.range i).flatMap f = O at *
      repeat (first | refine gZ pk ?_)
      refine a_reg ?_
      repeat (first | refine gZ pk ?_)
      refine a_reg ?_
      repeat (first | refine gZ pk ?_)
      refine a_reg ?_
      repeat (first | refine gZ pk ?_ | (show AL _ _ _ _ _ _ _; first | refine zsc (Lc := []) (Lr := [(vo, .row 95 2 (O.map cMo))]) rfl rfl rfl rfl rfl s1 (SubL.of_eq rfl) (List.Perm.refl _) ?_; rintro _ _ ⟨va, vb, hva, hvb, rfl, rfl⟩ | refine jL tok (fun bp => ?_) | refine s_store (a := .agg [.lit va, .lit vb]) tok 0 rfl rfl rfl rfl rfl rfl (by simp [AV.storable, AV.cell, hva, hvb]) rfl (by decide) rfl rfl rfl (Nat.le_of_ble_eq_true rfl) ?_))
      refine a_reg ?_
      repeat (first | refine gZ pk ?_)
      refine a_reg ?_
      repeat (first | refine gZ pk ?_ | (show AL _ _ _ _ _ _ _; first | refine jO tok 0 ?_ | refine zoi tok 1 rfl rfl rfl rfl (by decide) rfl rfl rfl rfl rfl rfl (by omega) (by omega) ?_ | refine s_storeI tok 1 rfl rfl rfl rfl rfl rfl rfl rfl (by omega) ?_))
      refine zgt (GoTo.freeze 1 rfl (FZS.refl _) [(bp, OB.box [ints ((noneL p.nodes.length).set i ((g.nodes.length : Int) - 1)), .lit vb]), (vb, OB.row 3 1 (rowI (noneL p.edges.length))), (vo, OB.row 95 2 (O.map cMo))] (zfo ⟨FZ.here, FZ.refl _, trivial⟩ (zfw (hr1 _) (zfw (mo_rows' _) trivial)))) ?_
      refine zgt (GoTo.freeze 1 rfl (FZS.refl _) [(bp, OB.box [ints ((noneL p.nodes.length).set i ((g.nodes.length : Int) - 1)), ints (noneL p.edges.length)]), (vo, OB.row 95 2 (O.map cMo))] (zfo ⟨FZ.refl _, FZ.here, trivial⟩ (zfw (mo_rows' _) trivial))) ?_
      refine zfb 0 16 rfl rfl ?_
      repeat (first | refine gA pk ?_ | (show AL _ _ _ _ _ _ _; first | refine jP s2e ?_))
      refine fin (x := .tup [nilS, AI 3]) (.inr rfl) rfl (Sub.tup (m := [mosA [], AI 3]) ⟨Sub.nil 2, Sub.refl _, trivial⟩) ?_ (OSub.none _)
      exact ⟨rfl, rfl⟩
theorem ddA_len : ∀ (p : Mo) (l : List Mo), (ddA p l).length ≤ l.length
  | p, [] => Nat.le_refl _
  | p, y :: l => by
    rw [ddA]
    have := ddA_len y l
    have := ddA_len p l
    split <;> simp only [List.length_cons] <;> omega
theorem dd_len (l : List Mo) : (dd l).length ≤ l.length := by
  cases l with
  | nil => exact Nat.le_refl _
  | cons x t =>
    have := ddA_len x t
    show (x :: ddA x t).length ≤ _
    simp only [List.length_cons]
    omega
theorem extR_len (t : Tys) (p g : Gr) (a b : List Int) (inj : Bool) : (extR t p g a b inj).1.length ≤ 5000 := by
  unfold extR
  split
  · exact Nat.zero_le _
  · split
    · exact Nat.zero_le _
    · split
      · exact Nat.zero_le _
      · split
        · exact Nat.zero_le _
        · unfold capR
          split
          · exact Nat.zero_le _
          · rename_i h
            show (matL _).length ≤ _
            omega
theorem freN_le {p : Gr} (hp : GV p) (edge : Bool) : freN p edge ≤ 80 := by
  have := hp.nl
  have := hp.el
  unfold freN
  split <;> omega
theorem freC_len (t : Tys) {p : Gr} (hp : GV p) (g : Gr) (edge inj : Bool) : (freC t p g edge inj).length ≤ 400000 := by
  have hs : ∀ k, ((List.range k).flatMap fun i => (freI t p g edge inj i).1).length ≤ k * 5000 := fun k => by
    induction k with
    | zero => simp
    | succ k ih =>
      have : (freI t p g edge inj k).1.length ≤ 5000 := extR_len _ _ _ _ _ _
      rw [List.range_succ, List.flatMap_append, List.length_append]
      simp only [List.flatMap_cons, List.flatMap_nil, List.append_nil]
      omega
  have h1 := hs (freN p edge)
  have h2 := freN_le hp edge
  unfold freC
  omega
theorem mat_mob {t : Tys} {p g : Gr} {inj : Bool} (hp : GV p) {x : Mo} (hx : x ∈ matL (seaA t p g inj)) : MoB x := by
  have h := mat_mem.1 hx
  have h1 : x.1.length = p.nodes.length := h.nl
  have h2 : x.2.length = p.edges.length := h.el
  have := hp.nl
  have := hp.el
  exact ⟨by omega, by omega⟩
theorem freC_mob {t : Tys} {p g : Gr} {edge inj : Bool} (hp : GV p) (hv : validS t p g = 0) (hN : if edge = true then 1 ≤ g.edges.length else 1 ≤ g.nodes.length) {x : Mo} (hx : x ∈ freC t p g edge inj) : MoB x := by
  unfold freC at hx
  obtain ⟨i, hi, hx⟩ := List.mem_flatMap.1 hx
  rw [freI_eq hv hN (List.mem_range.1 hi)] at hx
  unfold capR at hx
  split at hx
  · cases hx
  · exact mat_mob hp (List.mem_filter.1 hx).1
theorem freshF_spec (t : Tys) (ht : Small t) (p g : Gr) (edge inj : Bool) (hv : validS t p g = 0) (hN : if edge = true then 1 ≤ g.edges.length else 1 ≤ g.nodes.length) :
    ((freM t p g edge inj).length ≤ 400000 ∧ Pure Tryz.prog 66 [tysA t, grA p, grA g, AB edge, AB inj] (.tup [mosA (freM t p g edge inj), AI 0])) ∨
    (5000 < (matL (seaA t p g inj)).length ∧ Pure Tryz.prog 66 [tysA t, grA p, grA g, AB edge, AB inj] (.tup [mosA [], AI 3])) := by
  obtain ⟨-, hp, hg, -, -⟩ := zvz hv
  by_cases hall : ∀ i, i < freN p edge → (freI t p g edge inj i).2 = 0
  · refine .inl ?_
    have hl := freC_len t hp g edge inj
    have h1 := sortL_spec (freC t p g edge inj) (by omega) (fun x hx => freC_mob hp hv hN hx)
    have hpm := srtL_perm (freC t p g edge inj)
    have h2 := compL_spec (srtL (freC t p g edge inj)) (by rw [hpm.length_eq]; omega) (fun x hx => freC_mob hp hv hN (hpm.mem_iff.1 hx))
    have h3 := dd_len (srtL (freC t p g edge inj))
    rw [hpm.length_eq] at h3
    rw [fresh_list hv hN hall] at h2 h3
    refine ⟨by omega, ?_⟩
    exact fresh_spec t ht p g hp hg edge inj hall (by omega) (fun i => extR_len _ _ _ _ _ _) _ _ h1 h2
  · refine .inr ?_
    have hex : ∃ i, i < freN p edge ∧ (freI t p g edge inj i).2 ≠ 0 := by
      refine Classical.byContradiction fun h => hall fun i hi => Classical.byContradiction fun h2 => h ⟨i, hi, h2⟩
    obtain ⟨i, ⟨hi, he⟩, hmin⟩ : ∃ i, (i < freN p edge ∧ (freI t p g edge inj i).2 ≠ 0) ∧ ∀ j, j < i → ¬ (j < freN p edge ∧ (freI t p g edge inj j).2 ≠ 0) := by
      obtain ⟨i, h⟩ := hex
      induction i using Nat.strongRecOn with
      | _ i ih =>
        by_cases hm : ∀ j, j < i → ¬ (j < freN p edge ∧ (freI t p g edge inj j).2 ≠ 0)
        · exact ⟨i, h, hm⟩
        · have : ∃ j, j < i ∧ (j < freN p edge ∧ (freI t p g edge inj j).2 ≠ 0) := by
            refine Classical.byContradiction fun h3 => hm fun j hj h4 => h3 ⟨j, hj, h4⟩
          obtain ⟨j, hj, h4⟩ := this
          exact ih j hj h4
    obtain ⟨h1, h2⟩ := fresh_many hv hN hi he
    refine ⟨h2, freshE_spec t ht p g hp hg edge inj i hi (fun j hj => ?_) h1 (fun i => extR_len _ _ _ _ _ _)⟩
    refine Classical.byContradiction fun h3 => hmin j hj ⟨by omega, h3⟩
theorem mergedF_spec (t : Tys) (p g : Gr) (edge inj : Bool) (hv : validS t p g = 0) {m : List Mo} (hm : m = (matL (seaA t p g inj)).filter (fun x => !hasB edge (lastZ g edge) x)) (hl : m.length + (freM t p g edge inj).length ≤ 5000) :
    Gives Tryz.prog 67 [mosA m, mosA (freM t p g edge inj)] 95 2 ((matL (seaA t p g inj)).map cMo) := by
  obtain ⟨-, hp, hg, -, -⟩ := zvz hv
  have h1 := sortL_spec (m ++ freM t p g edge inj) (by rw [List.length_append]; omega) (fun x hx => by
    rcases List.mem_append.1 hx with hx | hx
    · rw [hm] at hx
      exact mat_mob hp (List.mem_filter.1 hx).1
    · exact mat_mob hp (List.mem_filter.1 hx).1)
  have h2 := merged_spec m (freM t p g edge inj) _ (by omega) (by omega) h1
  rw [merged_list hm] at h2
  exact h2
end Go.Proofs.YtddohheabpiljaaGreat
end
