/- Parts of a proof. -/
import Derived.Test.YtddohheabpiljaaGreatU26
set_option linter.unusedVariables false
set_option linter.unusedSimpArgs false
section
namespace Go.Sj.Inc
open Go.Sj Go.Sj.Sta Go.Sj.Typ
set_option maxRecDepth 8000
def patE (t : Tys) (ps : List Gr) (g : Gr) (inj : Bool) : Int := ((ps.map fun p => (allR t p g inj).2).find? fun e => decide (e ≠ 0)).getD 0
def matsE (t : Tys) (ps : List Gr) (g : Gr) (inj : Bool) : Int := if (allR t ⟨[], []⟩ g inj).2 ≠ 0 then (allR t ⟨[], []⟩ g inj).2 else if 5 < ps.length then 3 else patE t ps g inj
def matsL (t : Tys) (ps : List Gr) (g : Gr) (inj : Bool) : List (List Mo) := ps.map fun p => (allR t p g inj).1
def matsR (t : Tys) (ps : List Gr) (g : Gr) (inj : Bool) : List (List Mo) × Int := if matsE t ps g inj ≠ 0 then ([], matsE t ps g inj) else (matsL t ps g inj, 0)
theorem patE_at {t : Tys} {ps : List Gr} {g : Gr} {inj : Bool} {i : Nat} {p : Gr} (hp : ps[i]? = some p) (hno : ∀ (j : Nat) (q : Gr), j < i → ps[j]? = some q → (allR t q g inj).2 = 0) (he : (allR t p g inj).2 ≠ 0) : patE t ps g inj = (allR t p g inj).2 := by
  unfold patE
  obtain ⟨hi, hpe⟩ := List.getElem?_eq_some_iff.1 hp
  have : (ps.map fun p => (allR t p g inj).2).find? (fun e => decide (e ≠ 0)) = some (allR t p g inj).2 := by
    rw [List.find?_eq_some_iff_getElem]
    refine ⟨by simpa using he, i, by simpa using hi, by simp [hpe], fun j hj => ?_⟩
    have := hno j (ps[j]'(by omega)) hj (List.getElem?_eq_getElem (by omega))
    simp [this]
  rw [this]
  rfl
theorem patE_none {t : Tys} {ps : List Gr} {g : Gr} {inj : Bool} (hno : ∀ (j : Nat) (q : Gr), ps[j]? = some q → (allR t q g inj).2 = 0) : patE t ps g inj = 0 := by
  unfold patE
  have : (ps.map fun p => (allR t p g inj).2).find? (fun e => decide (e ≠ 0)) = none := by
    rw [List.find?_eq_none]
    intro e he
    obtain ⟨p, hp, rfl⟩ := List.mem_map.1 he
    obtain ⟨j, hj⟩ := List.getElem?_of_mem hp
    simp [hno j p hj]
  rw [this]
  rfl
structure Wat where
  ps : List Gr
  g : Gr
  inj : Bool
  ms : List (List Mo)
def newR (t : Tys) (ps : List Gr) (g : Gr) (inj : Bool) : Wat × Int := if matsE t ps g inj ≠ 0 then (⟨[], ⟨[], []⟩, false, []⟩, matsE t ps g inj) else (⟨ps, g, inj, matsL t ps g inj⟩, 0)
theorem zvz {t : Tys} {p g : Gr} (h : validS t p g = 0) : (validR t).2 = 0 ∧ GV p ∧ GV g ∧ typT t p = true ∧ typT t g = true := by
  unfold validS at h
  split at h
  · rename_i h1; exact absurd h h1
  · rename_i h1
    split at h
    · rename_i h2; exact absurd h h2
    · rename_i h2
      split at h
      · rename_i h3; exact absurd h h3
      · rename_i h3
        split at h
        · rename_i h4
          rw [Bool.and_eq_true] at h4
          exact ⟨Decidable.not_not.1 h1, gvalid_zero.1 (Decidable.not_not.1 h2), gvalid_zero.1 (Decidable.not_not.1 h3), h4.1, h4.2⟩
        · cases h
theorem allR_zero {t : Tys} {p g : Gr} {inj : Bool} (h : (allR t p g inj).2 = 0) : validS t p g = 0 := by
  unfold allR at h
  by_cases hv : validS t p g = 0
  · exact hv
  · rw [if_pos hv] at h; exact absurd h hv
theorem matsE_zero {t : Tys} {ps : List Gr} {g : Gr} {inj : Bool} (h : matsE t ps g inj = 0) : GV g ∧ ps.length ≤ 5 ∧ ∀ p ∈ ps, (allR t p g inj).2 = 0 := by
  unfold matsE at h
  split at h
  · rename_i h1; exact absurd h h1
  · rename_i h1
    split at h
    · cases h
    · rename_i h2
      refine ⟨(zvz (allR_zero (Decidable.not_not.1 h1))).2.2.1, by omega, fun p hp => ?_⟩
      unfold patE at h
      cases hf : (ps.map fun p => (allR t p g inj).2).find? (fun e => decide (e ≠ 0)) with
      | none =>
        rw [List.find?_eq_none] at hf
        have := hf _ (List.mem_map.2 ⟨p, hp, rfl⟩)
        simpa using this
      | some e =>
        rw [hf] at h
        have := List.find?_some hf
        simp at this
        exact absurd h this
def wvalE (t : Tys) (w : Wat) : Int := if matsE t w.ps w.g w.inj ≠ 0 then matsE t w.ps w.g w.inj else if matsL t w.ps w.g w.inj = w.ms then 0 else 1
end Go.Sj.Inc
end
section
namespace Go.Proofs.YtddohheabpiljaaGreat
open Go.Sj Go.Sj.Typ Go.Sj.Sta Go.Sj.Inc
set_option maxRecDepth 8000
set_option maxHeartbeats 16000000
theorem found_spec (t : Tys) (ht : Small t) (hv : (validR t).2 = 0) (S : Sea) (hS : SeaT t S) (most : Nat) (hmost : most ≤ 10000) :
    Pure Tryz.prog 107 [tysA t, grA S.p, grA S.g, .agg [optA S.pn, optA S.pe], AB S.inj, AI most] (mosA ((matL S).take most)) := by
  have s1 := sbelow_spec t ht hv
  have s2 := fun u => find_rec t ht S hS most hmost (S.p.nodes.length + S.p.edges.length) [] [] (by simp [remS]) (Nat.zero_le _) (Nat.zero_le _) (fun _ => rfl) u (.slice none 0 0) (.slice none 0 0) (.slice none 0 0) [] (Nat.zero_le _)
  simp only [List.nil_append] at s2
  refine zen Tryz.func107 (by kernel_rfl) rfl Tryz.ntmps107 rfl (by simp) ?_
  refine a_seq ?_
  refine a_reg ?_
  repeat (first | refine gZ pk ?_ | (show AL _ _ _ _ _ _ _; first | refine jB (fun u => ?_)))
  refine zfb 3 6 rfl rfl ?_
  refine zfb 2 7 rfl rfl ?_
  refine zfb 1 8 rfl rfl ?_
  refine zfb 0 9 rfl rfl ?_
  refine a_regO [0, 1, 2, 4, 5, 6, 3, 7, 8, 9] mixed rfl rfl (by decide +kernel) ?_
  repeat (first | refine gZ pk ?_ | (show AL _ _ _ _ _ _ _; first | refine jP s1 ?_ | refine jB (fun ur => ?_)))
  rename_i ur
  refine zgt (GoTo.sub (st' := _) (fun i => Sub.refl _) (L' := foL 3 95 S (tabA (tabT t)) most ur (.slice none 0 0) (.slice none 0 0) (.slice none 0 0) [] [] []) (.keep (.free (.free (.free (OSub.none _)))))) ?_
  refine a_reg ?_
  repeat (first | refine gZ pk ?_ | (show AL _ _ _ _ _ _ _; first | refine zsc (Lc := foL 3 95 S (tabA (tabT t)) most ur (.slice none 0 0) (.slice none 0 0) (.slice none 0 0) [] [] []) (Lr := []) rfl rfl rfl rfl rfl (s2 ur) (SubL.of_eq rfl) (List.Perm.refl _) ?_; rintro _ _ ⟨vn, ve, vo, rfl, rfl⟩))
  refine zgt (GoTo.freeze 3 rfl (FZS.refl _) [(ur, OB.box (fdA S (tabA (tabT t)) (.lit vn) (.lit ve) (mosA ((findL S (S.p.nodes.length + S.p.edges.length) [] []).take most)) most)), (vn, OB.row 3 1 (rowI [])), (ve, OB.row 3 1 (rowI []))] (zfo ⟨FZ.refl _, FZ.refl _, FZ.refl _, FZ.refl _, FZ.refl _, FZ.refl _, FZ.refl _, FZ.refl _, FZ.refl _, FZ.refl _, FZ.refl _, FZ.here, trivial⟩ (zfw (fun x hx => (by cases hx)) (zfw (fun x hx => (by cases hx)) trivial)))) ?_
  repeat (first | refine gA pk ?_ | (show AL _ _ _ _ _ _ _; first | refine jO tok 0 ?_))
  refine finQ ?_
  exact ⟨rfl, rfl⟩
theorem sall_spec (t : Tys) (ht : Small t) (hv : (validR t).2 = 0) (S : Sea) (hS : SeaT t S) :
    Pure Tryz.prog 86 [tysA t, grA S.p, grA S.g, .agg [optA S.pn, optA S.pe], AB S.inj] (.tup [mosA (capR (matL S)).1, AI (capR (matL S)).2]) := by
  have s1 := found_spec t ht hv S hS 5001 (by omega)
  have hl : ((matL S).take 5001).length = min 5001 (matL S).length := List.length_take
  unfold capR
  by_cases h : 5000 < (matL S).length
  · rw [if_pos h]
    have ll : (((matL S).take 5001).map cMo).length = 5001 := by rw [List.length_map, hl]; omega
    generalize (matL S).take 5001 = l at *
    refine zen Tryz.func86 (by kernel_rfl) rfl Tryz.ntmps86 rfl (by simp) ?_
    refine a_seq ?_
    refine a_reg ?_
    repeat (first | refine gZ pk ?_ | (show AL _ _ _ _ _ _ _; first | refine jB (fun u => ?_)))
    refine zfb 3 5 rfl rfl ?_
    refine zfb 2 6 rfl rfl ?_
    refine zfb 1 7 rfl rfl ?_
    refine zfb 0 8 rfl rfl ?_
    repeat (first | refine gA pk ?_ | (show AL _ _ _ _ _ _ _; first | refine jP s1 ?_))
    refine fin (x := .tup [nilS, AI 3]) (.inr rfl) rfl (Sub.tup (m := [mosA [], AI 3]) ⟨Sub.nil 2, Sub.refl _, trivial⟩) ?_ (OSub.none _)
    exact ⟨rfl, rfl⟩
  · rw [if_neg h]
    rw [List.take_of_length_le (by omega)] at s1
    have ll : ((matL S).map cMo).length = (matL S).length := by simp
    generalize matL S = l at *
    refine zen Tryz.func86 (by kernel_rfl) rfl Tryz.ntmps86 rfl (by simp) ?_
    refine a_seq ?_
    refine a_reg ?_
    repeat (first | refine gZ pk ?_ | (show AL _ _ _ _ _ _ _; first | refine jB (fun u => ?_)))
    refine zfb 3 5 rfl rfl ?_
    refine zfb 2 6 rfl rfl ?_
    refine zfb 1 7 rfl rfl ?_
    refine zfb 0 8 rfl rfl ?_
    repeat (first | refine gA pk ?_ | (show AL _ _ _ _ _ _ _; first | refine jP s1 ?_))
    refine finQ ?_
    exact ⟨rfl, rfl⟩
theorem typT_of {t : Tys} {g : Gr} (hg : GV g) (h : typT t g = true) : ∀ x ∈ g.nodes, 0 ≤ x ∧ x < t.nodes.length := fun x hx => by
  unfold typT at h
  simp only [Bool.and_eq_true, Bool.not_eq_true'] at h
  have h1 := List.any_eq_false.1 h.1 x hx
  have h2 := hg.nodes x hx
  simp only [decide_eq_true_eq] at h1
  omega
theorem seaA_ok {t : Tys} {p g : Gr} (inj : Bool) (h : validS t p g = 0) : SeaT t (seaA t p g inj) := by
  obtain ⟨h1, h2, h3, h4, h5⟩ := zvz h
  exact ⟨⟨h2, h3, fun l hl => (by cases hl), fun l hl => (by cases hl)⟩, rfl, typT_of h2 h4, typT_of h3 h5⟩
theorem sAll_spec (t : Tys) (ht : Small t) (p g : Gr) (hp : OkG p) (hg : OkG g) (inj : Bool) :
    Pure Tryz.prog 58 [tysA t, grA p, grA g, AB inj] (.tup [mosA (allR t p g inj).1, AI (allR t p g inj).2]) := by
  have s1 := svalid_spec t ht p g hp hg
  unfold allR
  by_cases h : validS t p g = 0
  · rw [if_neg (Decidable.not_not.2 h)]
    have s2 := sall_spec t ht (zvz h).1 (seaA t p g inj) (seaA_ok inj h)
    rw [h] at s1
    generalize capR (matL (seaA t p g inj)) = r at *
    obtain ⟨r1, r2⟩ := r
    change Pure _ _ [tysA t, grA p, grA g, .agg [nilS, nilS], AB inj] (.tup [mosA r1, AI r2]) at s2
    refine zen Tryz.func58 (by kernel_rfl) rfl Tryz.ntmps58 rfl (by simp) ?_
    refine a_seq ?_
    refine a_reg ?_
    repeat (first | refine gZ pk ?_ | (show AL _ _ _ _ _ _ _; first | refine jB (fun u => ?_)))
    refine zfb 2 4 rfl rfl ?_
    refine zfb 1 5 rfl rfl ?_
    refine zfb 0 6 rfl rfl ?_
    repeat (first | refine gA pk ?_ | (show AL _ _ _ _ _ _ _; first | refine jP s1 ?_ | refine jP s2 ?_))
    refine finQ ?_
    exact ⟨rfl, rfl⟩
  · rw [if_pos h]
    generalize validS t p g = e at *
    refine zen Tryz.func58 (by kernel_rfl) rfl Tryz.ntmps58 rfl (by simp) ?_
    refine a_seq ?_
    refine a_reg ?_
    repeat (first | refine gZ pk ?_ | (show AL _ _ _ _ _ _ _; first | refine jB (fun u => ?_)))
    refine zfb 2 4 rfl rfl ?_
    refine zfb 1 5 rfl rfl ?_
    refine zfb 0 6 rfl rfl ?_
    repeat (first | refine gA pk ?_ | (show AL _ _ _ _ _ _ _; first | refine jP s1 ?_))
    refine fin (x := .tup [nilS, AI e]) (.inr rfl) rfl (Sub.tup (m := [mosA [], AI e]) ⟨Sub.nil 2, Sub.refl _, trivial⟩) ?_ (OSub.none _)
    exact ⟨rfl, rfl⟩
end Go.Proofs.YtddohheabpiljaaGreat
end
section
namespace Go.Proofs.YtddohheabpiljaaGreat
open Go.Sj Go.Sj.Typ Go.Sj.Sta Go.Sj.Inc
set_option maxRecDepth 8000
set_option maxHeartbeats 16000000
def iniN (n i : Nat) : List Int := List.replicate i (-1) ++ List.replicate (n - i) 0
theorem iniN_len {n i : Nat} (h : i ≤ n) : (iniN n i).length = n := by unfold iniN; simp; omega
theorem iniN_set {n i : Nat} (h : i < n) : (iniN n i).set i (-1) = iniN n (i + 1) := by
  unfold iniN
  obtain ⟨d, hd⟩ : ∃ d, n - i = d + 1 := ⟨n - i - 1, by omega⟩
  rw [hd, show n - (i + 1) = d by omega, List.replicate_succ, List.set_append_right _ _ (by simp)]
  simp [List.replicate_succ']
theorem iniN_full (n : Nat) : iniN n n = noneL n := by unfold iniN noneL; simp
theorem gopen_spec (p : Gr) (hp : GV p) : Pure Tryz.prog 88 [grA p] (.agg [ints (noneL p.nodes.length), ints (noneL p.edges.length)]) := by
  have hnl := hp.nl
  have hel := hp.el
  have ln : (rowI p.nodes).length = p.nodes.length := by simp
  have le : (p.edges.map cEd).length = p.edges.length := by simp
  have z1 : List.replicate (((rowI p.nodes).length : Int)).toNat (List.map AV.lit [Value.int IntKind.i64 0]) = rowI (iniN p.nodes.length 0) := by unfold iniN; simp [cI]
  have z2 : List.replicate (((p.edges.map cEd).length : Int)).toNat (List.map AV.lit [Value.int IntKind.i64 0]) = rowI (iniN p.edges.length 0) := by unfold iniN; simp [cI]
  refine a_enterC Tryz.func88 (by kernel_rfl) rfl Tryz.ntmps88 rfl (tok _ _ rfl) (by simp) ?_
  refine a_seq ?_
  refine a_reg ?_
  repeat (first | refine gZ pk ?_ | (show AL _ _ _ _ _ _ _; first | refine jB (fun up => ?_) | refine jL tok (fun U2 => ?_)))
  refine zfb 1 1 rfl rfl ?_
  refine AWp.mono (Q := fun e st L => e = .normal ∧ ∃ mn me bm U2, GoTo 38 st L (lk [(1, grP p), (2, .pt U2 0 0 0), (3, .pt bm 0 0 0)]) [(mn, OB.row 3 1 (rowI (iniN p.nodes.length 0))), (me, OB.row 3 1 (rowI (iniN p.edges.length 0))), (bm, OB.box [.lit mn, .lit me]), (U2, OB.box [nilS, nilS])]) ?_ (fun e st L h => ?_)
  · refine zrg ((List.range 11).map fun i => if inL [3, 7, 9, 10] i = true then .eff else .pure) [] [0, 1, 2, 4, 5, 6] (.nd 3 [] (.nd 7 [8, 9, 10] .stop (.nd 9 [7, 8, 10] .stop .stop)) (.nd 7 [] (.nd 3 [8, 9, 10] .stop (.nd 9 [3, 8, 10] .stop .stop)) (.nd 9 [] (.nd 3 [7, 8, 10] .stop (.nd 7 [3, 8, 10] .stop .stop)) .stop))) mixed rfl rfl (by decide +kernel) ?_
    repeat' (first | (with_reducible show AG _ _ _ _ _ _ _ _ _ _; first | exact zgn | refine zgs ?_ | refine znd ?_ ?_) | (show AMid _ _ _ _; first | refine zmf ?_ | refine zmg (by first | exact OSub.refl _ | exact .drop (OSub.refl _) | exact .drop (.drop (OSub.refl _))) ?_) | refine gY pk ?_ | (show AL _ _ _ _ _ _ _; first | refine s_makeQ tok rfl rfl rfl rfl rfl rfl rfl rfl z1 (by omega) (by omega) (by simp; omega) (by omega) (fun a m j => ?_) | refine s_makeQ tok rfl rfl rfl rfl rfl rfl rfl rfl z2 (by omega) (by omega) (by simp; omega) (by omega) (fun a m j => ?_) | refine jL tok (fun bm => ?_) | refine jS tok 0 ?_ | refine jS tok 1 ?_ | refine jS tok 2 ?_) | fail)
    all_goals
      first | exact ⟨rfl, _, _, _, _, (GoTo.sub (by exact subQ) (OSub.refl _)).trans (GoTo.perm (List.Perm.refl _))⟩ | exact ⟨rfl, _, _, _, _, (GoTo.sub (by exact subQ) (OSub.refl _)).trans (GoTo.perm (List.Perm.append_right [_] (perm3 _ _ _).1))⟩ | exact ⟨rfl, _, _, _, _, (GoTo.sub (by exact subQ) (OSub.refl _)).trans (GoTo.perm (List.Perm.append_right [_] (perm3 _ _ _).2.1))⟩ | exact ⟨rfl, _, _, _, _, (GoTo.sub (by exact subQ) (OSub.refl _)).trans (GoTo.perm (List.Perm.append_right [_] (perm3 _ _ _).2.2.1))⟩ | exact ⟨rfl, _, _, _, _, (GoTo.sub (by exact subQ) (OSub.refl _)).trans (GoTo.perm (List.Perm.append_right [_] (perm3 _ _ _).2.2.2.1))⟩ | exact ⟨rfl, _, _, _, _, (GoTo.sub (by exact subQ) (OSub.refl _)).trans (GoTo.perm (List.Perm.append_right [_] (perm3 _ _ _).2.2.2.2.1))⟩
  · obtain ⟨rfl, mn, me, bm, U2, h⟩ := h
    refine zgt h ?_
    clear h
    repeat (first | refine gA pk ?_)
    refine zlx (fun i : Nat => [(1, grP p), (2, .pt U2 0 0 0), (3, .pt bm 0 0 0), (4, AI i)]) (fun i => [(mn, OB.row 3 1 (rowI (iniN p.nodes.length i))), (me, OB.row 3 1 (rowI (iniN p.edges.length 0))), (bm, OB.box [.lit mn, .lit me]), (U2, OB.box [nilS, nilS])]) (fun i => i ≤ p.nodes.length) (fun i => p.nodes.length - i) 0 (Nat.zero_le _) ?_ (OSub.refl _) ?_
    · exact subQ
    · intro i hi
      have li := iniN_len hi
      have li' : (rowI (iniN p.nodes.length i)).length = p.nodes.length := by rw [List.length_map, li]
      rcases Nat.lt_or_ge i p.nodes.length with h | h
      · have hset := iniN_set h
        repeat (first | refine gA pk ?_ | (show AL _ _ _ _ _ _ _; first | refine jO tok 2 ?_ | refine zol tok 0 rfl rfl rfl rfl (by decide) rfl rfl rfl ?_ | refine zoi tok 0 rfl rfl rfl rfl (by decide) rfl rfl rfl rfl rfl rfl (by omega) (by omega) ?_ | refine s_storeI tok 0 rfl rfl rfl rfl rfl rfl rfl rfl (by omega) ?_))
        exact ⟨i + 1, by omega, by omega, by exact subQ, by rw [← hset]; exact OSub.refl _⟩
      · obtain rfl : i = p.nodes.length := by omega
        rw [iniN_full] at li li' ⊢
        repeat (first | refine gA pk ?_ | (show AL _ _ _ _ _ _ _; first | refine jO tok 2 ?_ | refine zol tok 0 rfl rfl rfl rfl (by decide) rfl rfl rfl ?_))
        refine zlx (fun i : Nat => [(2, .pt U2 0 0 0), (3, .pt bm 0 0 0), (5, AI i)]) (fun i => [(mn, OB.row 3 1 (rowI (noneL p.nodes.length))), (me, OB.row 3 1 (rowI (iniN p.edges.length i))), (bm, OB.box [.lit mn, .lit me]), (U2, OB.box [nilS, nilS])]) (fun i => i ≤ p.edges.length) (fun i => p.edges.length - i) 0 (Nat.zero_le _) ?_ (OSub.refl _) ?_
        · exact subQ
        · intro j hj
          have lj := iniN_len hj
          have lj' : (rowI (iniN p.edges.length j)).length = p.edges.length := by rw [List.length_map, lj]
          rcases Nat.lt_or_ge j p.edges.length with h3 | h3
          · have hset := iniN_set h3
            repeat (first | refine gA pk ?_ | (show AL _ _ _ _ _ _ _; first | refine jO tok 2 ?_ | refine zol tok 1 rfl rfl rfl rfl (by decide) rfl rfl rfl ?_ | refine zoi tok 1 rfl rfl rfl rfl (by decide) rfl rfl rfl rfl rfl rfl (by omega) (by omega) ?_ | refine s_storeI tok 1 rfl rfl rfl rfl rfl rfl rfl rfl (by omega) ?_))
            exact ⟨j + 1, by omega, by omega, by exact subQ, by rw [← hset]; exact OSub.refl _⟩
          · obtain rfl : j = p.edges.length := by omega
            rw [iniN_full] at lj lj' ⊢
            have hr1 : ∀ (l : List Int), ∀ x ∈ rowI l, x.length = 1 := fun l x hx => by
              obtain ⟨y, _, rfl⟩ := List.mem_map.1 hx
              rfl
            refine zgt (GoTo.freeze 0 rfl (FZS.refl _) [(me, OB.row 3 1 (rowI (noneL p.edges.length))), (bm, OB.box [ints (noneL p.nodes.length), .lit me]), (U2, OB.box [nilS, nilS])] (zfw (hr1 _) (zfo ⟨FZ.here, FZ.refl _, trivial⟩ (zfo (FZL.refl _) trivial)))) ?_
            refine zgt (GoTo.freeze 0 rfl (FZS.refl _) [(bm, OB.box [ints (noneL p.nodes.length), ints (noneL p.edges.length)]), (U2, OB.box [nilS, nilS])] (zfo ⟨FZ.refl _, FZ.here, trivial⟩ (zfo (FZL.refl _) trivial))) ?_
            refine zfb 0 3 rfl rfl ?_
            repeat (first | refine gV pk ?_ | (show AL _ _ _ _ _ _ _; first | refine jS tok 0 ?_))
            refine zfb 0 2 rfl rfl ?_
            refine a_ret ?_
            exact ⟨.inr rfl, _, _, _, _, rfl, rfl, Turn.of (Sub.of_eq rfl) (OSub.none _), rfl, rfl⟩
theorem grun_spec (t : Tys) (ht : Small t) (hv : (validR t).2 = 0) (S : Sea) (hS : SeaT t S) (a b : List Int) (ha : S.pn = some a) (hb : S.pe = some b) (most : Nat) (hmost : most ≤ 10000) :
    Pure Tryz.prog 87 [tysA t, grA S.p, grA S.g, .agg [ints a, ints b], AB S.inj, AI most] (mosA ((matL S).take (most + 1))) := by
  have s2 := fun u => gnodes_rec t ht hv S hS a b ha hb most hmost S.p.nodes.length [] rfl (Nat.zero_le _) u (.slice none 0 0) [] (Nat.zero_le _)
  simp only [List.nil_append] at s2
  refine zen Tryz.func87 (by kernel_rfl) rfl Tryz.ntmps87 rfl (by simp) ?_
  refine a_seq ?_
  refine a_reg ?_
  repeat (first | refine gZ pk ?_ | (show AL _ _ _ _ _ _ _; first | refine jB (fun u => ?_)))
  refine zfb 3 6 rfl rfl ?_
  refine zfb 2 7 rfl rfl ?_
  refine zfb 1 8 rfl rfl ?_
  refine zfb 0 9 rfl rfl ?_
  refine a_reg ?_
  repeat (first | refine gZ pk ?_ | (show AL _ _ _ _ _ _ _; first | refine jB (fun ur => ?_)))
  rename_i ur
  refine zgt (GoTo.sub (st' := _) (fun i => Sub.refl _) (L' := roL 95 t S a b most ur (.slice none 0 0) []) (.keep (.free (OSub.none _)))) ?_
  refine a_reg ?_
  repeat (first | refine gZ pk ?_ | (show AL _ _ _ _ _ _ _; first | refine zsc (Lc := roL 95 t S a b most ur (.slice none 0 0) []) (Lr := []) rfl rfl rfl rfl rfl (s2 ur) ⟨Sub.refl _, Sub.nil 1, trivial⟩ (List.Perm.refl _) ?_; rintro _ _ ⟨vo, rfl, rfl⟩))
  refine zgt (GoTo.freeze 1 rfl (FZS.refl _) [(ur, OB.box (rsA t S a b most (mosA ((findL S (S.p.nodes.length + S.p.edges.length) [] []).take (most + 1)))))] (zfo ⟨FZ.refl _, FZ.refl _, FZ.refl _, FZ.refl _, FZ.refl _, FZ.refl _, FZ.refl _, FZ.refl _, FZ.refl _, FZ.refl _, FZ.here, trivial⟩ trivial)) ?_
  repeat (first | refine gA pk ?_ | (show AL _ _ _ _ _ _ _; first | refine jO tok 0 ?_))
  refine finQ ?_
  exact ⟨rfl, rfl⟩
theorem seaO_ok {t : Tys} {p g : Gr} (inj : Bool) (h : validS t p g = 0) : SeaT t (seaO t p g inj) := by
  obtain ⟨h1, h2, h3, h4, h5⟩ := zvz h
  exact ⟨⟨h2, h3, fun l hl => (by cases hl; unfold noneL; simp [seaO]), fun l hl => (by cases hl; unfold noneL; simp [seaO])⟩, rfl, typT_of h2 h4, typT_of h3 h5⟩
theorem gAll_spec (t : Tys) (ht : Small t) (p g : Gr) (hp : OkG p) (hg : OkG g) (inj : Bool) :
    Pure Tryz.prog 61 [tysA t, grA p, grA g, AB inj] (.tup [mosA (allR t p g inj).1, AI (allR t p g inj).2]) := by
  have s1 := ggiven_spec t ht p g hp hg
  unfold allR
  by_cases h : validS t p g = 0
  · rw [if_neg (Decidable.not_not.2 h)]
    have hz := zvz h
    have s2 := gopen_spec p hz.2.1
    have s3 := grun_spec t ht hz.1 (seaO t p g inj) (seaO_ok inj h) (noneL p.nodes.length) (noneL p.edges.length) rfl rfl 5000 (by omega)
    rw [h] at s1
    rw [mat_open] at s3
    change Pure _ _ [tysA t, grA p, grA g, .agg [ints (noneL p.nodes.length), ints (noneL p.edges.length)], AB inj, AI 5000] _ at s3
    have hl : ((matL (seaA t p g inj)).take 5001).length = min 5001 (matL (seaA t p g inj)).length := List.length_take
    unfold capR
    by_cases hc : 5000 < (matL (seaA t p g inj)).length
    · rw [if_pos hc]
      have ll : (((matL (seaA t p g inj)).take 5001).map cMo).length = 5001 := by rw [List.length_map, hl]; omega
      change Pure _ _ _ (mosA ((matL (seaA t p g inj)).take 5001)) at s3
      generalize (matL (seaA t p g inj)).take 5001 = l at *
      refine zen Tryz.func61 (by kernel_rfl) rfl Tryz.ntmps61 rfl (by simp) ?_
      refine a_seq ?_
      refine a_reg ?_
      repeat (first | refine gZ pk ?_ | (show AL _ _ _ _ _ _ _; first | refine jB (fun u => ?_)))
      refine zfb 2 4 rfl rfl ?_
      refine zfb 1 5 rfl rfl ?_
      refine zfb 0 6 rfl rfl ?_
      repeat (first | refine gA pk ?_ | (show AL _ _ _ _ _ _ _; first | refine jP s1 ?_))
      refine a_regO [0, 1, 2, 3, 5, 4, 6, 7] mixed rfl rfl (by decide +kernel) ?_
      repeat (first | refine gA pk ?_ | (show AL _ _ _ _ _ _ _; first | refine jP s2 ?_ | refine jP s3 ?_))
      refine fin (x := .tup [nilS, AI 3]) (.inr rfl) rfl (Sub.tup (m := [mosA [], AI 3]) ⟨Sub.nil 2, Sub.refl _, trivial⟩) ?_ (OSub.none _)
      exact ⟨rfl, rfl⟩
    · rw [if_neg hc]
      change Pure _ _ _ (mosA ((matL (seaA t p g inj)).take 5001)) at s3
      rw [List.take_of_length_le (by omega)] at s3
      have ll : ((matL (seaA t p g inj)).map cMo).length = (matL (seaA t p g inj)).length := by simp
      generalize matL (seaA t p g inj) = l at *
      refine zen Tryz.func61 (by kernel_rfl) rfl Tryz.ntmps61 rfl (by simp) ?_
      refine a_seq ?_
      refine a_reg ?_
      repeat (first | refine gZ pk ?_ | (show AL _ _ _ _ _ _ _; first | refine jB (fun u => ?_)))
      refine zfb 2 4 rfl rfl ?_
      refine zfb 1 5 rfl rfl ?_
      refine zfb 0 6 rfl rfl ?_
      repeat (first | refine gA pk ?_ | (show AL _ _ _ _ _ _ _; first | refine jP s1 ?_))
      refine a_regO [0, 1, 2, 3, 5, 4, 6, 7] mixed rfl rfl (by decide +kernel) ?_
      repeat (first | refine gA pk ?_ | (show AL _ _ _ _ _ _ _; first | refine jP s2 ?_ | refine jP s3 ?_))
      refine finQ ?_
      exact ⟨rfl, rfl⟩
  · rw [if_pos h]
    generalize validS t p g = e at *
    refine zen Tryz.func61 (by kernel_rfl) rfl Tryz.ntmps61 rfl (by simp) ?_
    refine a_seq ?_
    refine a_reg ?_
    repeat (first | refine gZ pk ?_ | (show AL _ _ _ _ _ _ _; first | refine jB (fun u => ?_)))
    refine zfb 2 4 rfl rfl ?_
    refine zfb 1 5 rfl rfl ?_
    refine zfb 0 6 rfl rfl ?_
    repeat (first | refine gA pk ?_ | (show AL _ _ _ _ _ _ _; first | refine jP s1 ?_))
    refine fin (x := .tup [nilS, AI e]) (.inr rfl) rfl (Sub.tup (m := [mosA [], AI e]) ⟨Sub.nil 2, Sub.refl _, trivial⟩) ?_ (OSub.none _)
    exact ⟨rfl, rfl⟩
end Go.Proofs.YtddohheabpiljaaGreat
end
