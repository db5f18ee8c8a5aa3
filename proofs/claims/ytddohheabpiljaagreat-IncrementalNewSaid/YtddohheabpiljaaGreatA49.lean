/-
  Parts of the proof of the law IncrementalNew (texts W60, W61): steps, plain mathematics, contracts of functions. Each theorem states its own conditions.
-/
import Derived.Test.YtddohheabpiljaaGreatA09
import Derived.Test.YtddohheabpiljaaGreatA26
import Derived.Test.YtddohheabpiljaaGreatA48
section
/-
  Watches: matches put together (program).
-/
namespace Go.Proofs.YtddohheabpiljaaGreat
open Go.Sj Go.Sj.Typ Go.Sj.Sta Go.Sj.Inc
set_option maxRecDepth 8000
set_option linter.unusedVariables false
set_option linter.unusedSimpArgs false
set_option maxHeartbeats 16000000

theorem grow_spec (n : Nat) (hn : n ≤ 1000000) : ACalls Tryz.prog 115 [nilS, AI n] [] (fun y M => ∃ v, y = .lit v ∧ M = [(v, .row 95 2 [])]) := by
  by_cases h : n = 0
  · subst h
    refine a_enter Tryz.func115 (by kernel_rfl) rfl Tryz.ntmps115 rfl (by simp) ?_
    refine a_nil 95 2 ?_
    repeat (first | refine gN pk ?_ | (show AL _ _ _ _ _ _ _; first | refine s_ownLen tok 0 rfl rfl rfl rfl (by decide) rfl rfl rfl ?_ | refine s_cap tok rfl rfl rfl rfl rfl rfl ?_))
    exact fin (x := .lit _) (.inr rfl) rfl (Sub.refl _) ⟨_, rfl, rfl⟩ (OSub.refl _)
  · refine a_enter Tryz.func115 (by kernel_rfl) rfl Tryz.ntmps115 rfl (by simp) ?_
    refine a_nil 95 2 ?_
    repeat (first | refine gN pk ?_ | (show AL _ _ _ _ _ _ _; first | refine s_ownLen tok 0 rfl rfl rfl rfl (by decide) rfl rfl rfl ?_ | refine s_cap tok rfl rfl rfl rfl rfl rfl ?_ | refine s_capPart tok (0) (0) rfl rfl rfl rfl rfl rfl rfl rfl (by first | exact rfl | exact ⟨_, _, rfl, by omega⟩) (by first | exact rfl | exact ⟨_, _, rfl, by omega⟩) (by omega) (by omega) ?_))
    refine s_appendMake tok 0 0 n rfl rfl rfl rfl rfl rfl rfl (by decide) rfl rfl rfl ⟨_, rfl, by omega⟩ (by omega) (by omega) (by omega) (by omega) (by show (0 + n) * 48 ≤ _; omega) (fun v => ?_)
    repeat (first | refine gN pk ?_ | (show AL _ _ _ _ _ _ _; first | refine s_ownLen tok 1 rfl rfl rfl rfl (by decide) rfl rfl rfl ?_ | refine s_frontC tok 0 (n := 0) rfl rfl rfl rfl rfl rfl rfl rfl rfl (Nat.zero_le _) (fun v2 hv2 => ?_)))
    exact fin (x := .lit _) (.inr rfl) rfl (Sub.refl _) ⟨_, rfl, rfl⟩ (.keep (OSub.none _))
def catR (a b : List Mo) : Nat → List (List AV)
  | 0 => []
  | 1 => a.map cMo
  | _ => a.map cMo ++ b.map cMo
theorem concat_spec (a b : List Mo) (ha : a.length ≤ 400000) (hb : b.length ≤ 400000) : Gives Tryz.prog 100 [mssA [a, b]] 95 2 ((a ++ b).map cMo) := by
  have la : (a.map cMo).length = a.length := by simp
  have lb : (b.map cMo).length = b.length := by simp
  have hcell : ∀ l : List Mo, (l.map cMo).all (fun e => e.all AV.cell) = true := fun l => List.all_eq_true.2 fun x hx => by
    obtain ⟨y, _, rfl⟩ := List.mem_map.1 hx
    rfl
  have k0 : ([[mosA a], [mosA b]] : List (List AV))[(0 : Int).toNat]? = some [mosA a] := rfl
  have k1 : ([[mosA a], [mosA b]] : List (List AV))[(1 : Int).toNat]? = some [mosA b] := rfl
  have s1 := grow_spec (a.length + b.length) (by omega)
  rw [List.map_append]
  refine a_enter Tryz.func100 (by kernel_rfl) rfl Tryz.ntmps100 rfl (by simp) ?_
  repeat (first | refine gA pk ?_)
  refine a_loopG2 (fun (k : Nat) (z : Int) => [(0, mssA [a, b]), (3, AI z), (9, mssA [a, b]), (10, AI 2), (11, AI k)]) (fun _ _ => []) (fun k z => k ≤ 2 ∧ (k = 0 → z = 0) ∧ (k = 1 → z = a.length) ∧ (k = 2 → z = a.length + b.length)) (fun k _ => 2 - k) 0 0 ⟨Nat.zero_le _, fun _ => rfl, fun h => (by cases h), fun h => (by cases h)⟩ (.sub (by exact subQ) (OSub.refl _)) ?_
  rintro k z ⟨hk, h0, h1, h2⟩
  have hk3 : k = 0 ∨ k = 1 ∨ k = 2 := by omega
  rcases hk3 with rfl | rfl | rfl
  · have hz := h0 rfl
    repeat (first | refine gA pk ?_ | (show AL _ _ _ _ _ _ _; first | refine jX tok k0 ?_))
    exact ⟨1, z + ((a.map cMo).length : Int), ⟨by omega, fun h => (by cases h), fun _ => by omega, fun h => (by cases h)⟩, by omega, .sub (by exact subQ) (OSub.refl _)⟩
  · have hz := h1 rfl
    repeat (first | refine gA pk ?_ | (show AL _ _ _ _ _ _ _; first | refine jX tok k1 ?_))
    exact ⟨2, z + ((b.map cMo).length : Int), ⟨by omega, fun h => (by cases h), fun h => (by cases h), fun _ => by omega⟩, by omega, .sub (by exact subQ) (OSub.refl _)⟩
  · have hz := h2 rfl
    rw [Int.natCast_add, ← hz] at s1
    repeat (first | refine gA pk ?_ | (show AL _ _ _ _ _ _ _; first | refine s_call (Lc := []) (Lr := []) rfl rfl rfl rfl rfl s1 (SubL.of_eq rfl) (List.Perm.refl _) ?_; rintro _ _ ⟨v, rfl, rfl⟩))
    refine a_loopG2 (fun (k : Nat) (v : Value) => [(6, .lit v), (25, mssA [a, b]), (26, AI 2), (27, AI k)]) (fun k v => [(v, .row 95 2 (catR a b k))]) (fun k _ => k ≤ 2) (fun k _ => 2 - k) 0 v (Nat.zero_le _) (.sub (by exact subQ) (OSub.refl _)) ?_
    clear v
    intro k v hk
    have hk3 : k = 0 ∨ k = 1 ∨ k = 2 := by omega
    rcases hk3 with rfl | rfl | rfl
    · repeat (first | refine gA pk ?_ | (show AL _ _ _ _ _ _ _; first | refine jX tok k0 ?_ | refine s_appendIm tok 0 rfl rfl rfl rfl rfl rfl (by decide) rfl rfl rfl rfl (hcell _) (by simp only [catR, la, lb, List.length_nil]; omega) (by simp only [catR, la, lb, List.length_nil]; omega) (fun w => ?_)))
      exact ⟨1, w, by omega, by omega, .sub (by exact subQ) (OSub.refl _)⟩
    · repeat (first | refine gA pk ?_ | (show AL _ _ _ _ _ _ _; first | refine jX tok k1 ?_ | refine s_appendIm tok 0 rfl rfl rfl rfl rfl rfl (by decide) rfl rfl rfl rfl (hcell _) (by simp only [catR, la, lb, List.length_nil]; omega) (by simp only [catR, la, lb, List.length_nil]; omega) (fun w => ?_)))
      exact ⟨2, w, by omega, by omega, .sub (by exact subQ) (OSub.refl _)⟩
    · repeat (first | refine gA pk ?_)
      exact fin (x := .lit _) (.inr rfl) rfl (Sub.refl _) ⟨_, rfl, rfl⟩ (OSub.refl _)
theorem merged_spec (a b Y : List Mo) (ha : a.length ≤ 400000) (hb : b.length ≤ 400000)
    (hsort : ∀ v, ACalls Tryz.prog 98 [.lit v, .fn (.func 63) [] []] [(v, .row 95 2 ((a ++ b).map cMo))] (fun y M => y = .tup [] ∧ M = [(v, .row 95 2 (Y.map cMo))])) :
    Gives Tryz.prog 67 [mosA a, mosA b] 95 2 (Y.map cMo) := by
  have s1 := concat_spec a b ha hb
  refine a_enter Tryz.func67 (by kernel_rfl) rfl Tryz.ntmps67 rfl (by simp) ?_
  repeat (first | refine gN pk ?_ | (show AL _ _ _ _ _ _ _; first | refine s_frzNow 0 rfl rfl rfl (s_build tok rfl rfl rfl rfl rfl rfl rfl rfl (by decide) (by decide) (fun v => AL.nil ⟨v, rfl, rfl, rfl⟩)) ?_ | refine s_callG rfl rfl rfl rfl rfl (s1) (SubL.of_eq rfl) (fun v => ?_)))
  repeat (first | refine gN pk ?_ | (show AL _ _ _ _ _ _ _; first | refine s_call (Lc := [(v, .row 95 2 ((a ++ b).map cMo))]) (Lr := []) rfl rfl rfl rfl rfl (hsort v) (SubL.of_eq rfl) (List.Perm.refl _) ?_; rintro _ _ ⟨rfl, rfl⟩))
  exact fin (x := .lit _) (.inr rfl) rfl (Sub.refl _) ⟨_, rfl, rfl⟩ (OSub.refl _)
end Go.Proofs.YtddohheabpiljaaGreat

end
section
/-
  Watches: graphs behind edits (program): copies whose rows the caller owns.
-/
namespace Go.Proofs.YtddohheabpiljaaGreat
open Go.Sj Go.Sj.Typ Go.Sj.Sta Go.Sj.Inc
set_option maxRecDepth 8000
set_option linter.unusedVariables false
set_option linter.unusedSimpArgs false
set_option maxHeartbeats 16000000

theorem icopiedO_spec (g : Gr) (h1 : g.nodes.length ≤ 1000) (h2 : g.edges.length ≤ 1000) : ACalls Tryz.prog 35 [grA g] [] (fun y L => ∃ vn ve, vn.oneCell' = true ∧ ve.oneCell' = true ∧ y = .agg [.lit vn, .lit ve] ∧ L = [(vn, .row 3 1 (rowI g.nodes)), (ve, .row 85 3 (g.edges.map cEd))]) := by
  have s1 := CloneN_spec g.nodes (by omega)
  have s2 := CloneG_spec g.edges (by omega)
  refine a_enterC Tryz.func35 (by kernel_rfl) rfl Tryz.ntmps35 rfl (tok _ _ rfl) (by simp) ?_
  refine a_seq ?_
  refine a_reg ?_
  repeat (first | refine gZ pk ?_ | (show AL _ _ _ _ _ _ _; first | refine jB (fun ug => ?_) | refine jL tok (fun U2 => ?_)))
  refine a_frzBox 1 1 rfl rfl ?_
  refine AWp.mono (Q := fun e st L => e = .normal ∧ ∃ va vb, va.oneCell' = true ∧ vb.oneCell' = true ∧ GoTo 10 st L (lk [(2, .pt U2 0 0 0)]) [(U2, OB.box [.lit va, .lit vb]), (va, OB.row 3 1 (rowI g.nodes)), (vb, OB.row 85 3 (g.edges.map cEd))]) ?_ (fun e st L h => ?_)
  · refine a_regG ((List.range 8).map fun i => if inL [2, 5, 7] i = true then .eff else .pure) [] [0, 1, 3, 4, 2, 5, 6, 7] .stop mixed rfl rfl (by decide +kernel) ?_
    repeat' (first | (with_reducible show AG _ _ _ _ _ _ _ _ _ _; first | exact ag_none | refine ag_stop ?_ | refine ag_nd ?_ ?_) | (show AMid _ _ _ _; first | refine amid_f ?_ | refine amid_g (by first | exact OSub.refl _ | exact .drop (OSub.refl _) | exact .drop (.drop (OSub.refl _))) ?_) | refine gY pk ?_ | (show AL _ _ _ _ _ _ _; first | refine s_call (Lc := []) rfl rfl rfl rfl rfl (ACalls.slices s1) (SubL.of_eq rfl) (List.Perm.refl _) ?_; rintro _ _ ⟨⟨va, rfl, rfl⟩, hva⟩; obtain ⟨a1, c1, rfl⟩ := hva _ (List.mem_singleton.2 rfl) | refine s_call (Lc := []) rfl rfl rfl rfl rfl (ACalls.slices s2) (SubL.of_eq rfl) (List.Perm.refl _) ?_; rintro _ _ ⟨⟨vb, rfl, rfl⟩, hvb⟩; obtain ⟨a2, c2, rfl⟩ := hvb _ (List.mem_singleton.2 rfl) | refine jS tok 2 ?_) | fail)
    exact ⟨rfl, _, _, rfl, rfl, (GoTo.sub (by exact subQ) (OSub.refl _)).trans (GoTo.perm (perm3 _ _ _).2.2.1)⟩
  · obtain ⟨rfl, va, vb, hva, hvb, h⟩ := h
    refine a_goto h ?_
    refine a_frzBox 0 2 rfl rfl ?_
    repeat (first | refine gA pk ?_)
    exact ⟨.inr rfl, _, _, _, _, rfl, rfl, Turn.of (Sub.of_eq rfl) (OSub.refl _), va, vb, hva, hvb, rfl, rfl⟩
theorem ieditedE_spec (g : Gr) (h1 : g.nodes.length ≤ 1000) (h2 : g.edges.length ≤ 1000) (i ty fr to : Int) : Pure Tryz.prog 64 [grA g, .agg [AI 2, AI i, AI ty, AI fr, AI to]] (grA ⟨g.nodes, g.edges ++ [⟨ty, fr, to⟩]⟩) := by
  have s1 := icopiedO_spec g h1 h2
  have le : (g.edges.map cEd).length = g.edges.length := by simp
  have hes : (g.edges ++ [(⟨ty, fr, to⟩ : Ed)]).map cEd = g.edges.map cEd ++ [[AI ty, AI fr, AI to]] := by simp [cEd]
  have hr1 : ∀ (l : List Int), ∀ x ∈ rowI l, x.length = 1 := fun l x hx => by
    obtain ⟨y, _, rfl⟩ := List.mem_map.1 hx
    rfl
  have hr3 : ∀ (l : List Ed), ∀ x ∈ l.map cEd, x.length = 3 := fun l x hx => by
    obtain ⟨y, _, rfl⟩ := List.mem_map.1 hx
    rfl
  refine a_enterC Tryz.func64 (by kernel_rfl) rfl Tryz.ntmps64 rfl (tok _ _ rfl) (by simp) ?_
  refine a_seq ?_
  refine a_reg ?_
  repeat (first | refine gZ pk ?_ | (show AL _ _ _ _ _ _ _; first | refine jB (fun ug => ?_) | refine jL tok (fun U4 => ?_)))
  refine a_frzBox 2 2 rfl rfl ?_
  refine a_frzBox 1 3 rfl rfl ?_
  refine a_reg ?_
  repeat (first | refine gZ pk ?_ | (show AL _ _ _ _ _ _ _; first | refine s_call (Lc := []) rfl rfl rfl rfl rfl s1 (SubL.of_eq rfl) (List.Perm.refl _) ?_; rintro _ _ ⟨vn, ve, hvn, hve, rfl, rfl⟩ | refine jL tok (fun ub => ?_) | refine s_store (a := .agg [.lit vn, .lit ve]) tok 0 rfl rfl rfl rfl rfl rfl (by simp [AV.storable, AV.cell, hvn, hve]) rfl (by decide) rfl rfl rfl (Nat.le_of_ble_eq_true rfl) ?_))
  refine a_reg ?_
  repeat (first | refine gZ pk ?_)
  refine a_reg ?_
  repeat (first | refine gZ pk ?_)
  refine a_reg ?_
  repeat (first | refine gZ pk ?_)
  refine a_reg ?_
  repeat (first | refine gZ pk ?_ | (show AL _ _ _ _ _ _ _; first | refine jO tok 0 ?_ | refine s_build1A tok rfl rfl rfl rfl rfl rfl rfl rfl (by decide) (fun lv => ?_) | refine s_append1K tok 2 rfl rfl rfl rfl rfl rfl (by decide) rfl rfl rfl rfl (by omega) (by omega) (fun w hw => ?_) | refine s_storeB tok 0 rfl rfl rfl rfl rfl rfl rfl (by assumption) rfl (Nat.le_of_ble_eq_true rfl) rfl ?_))
  rw [← hes]
  refine a_goto (GoTo.freeze 1 rfl (FZS.refl _) [(ub, OB.box [ints g.nodes, .lit w]), (w, OB.row 85 3 ((g.edges ++ [(⟨ty, fr, to⟩ : Ed)]).map cEd)), (U4, OB.box [nilS, nilS])] (fzo_box ⟨FZ.here, FZ.refl _, trivial⟩ (fzo_row (hr3 _) (fzo_box (FZL.refl _) trivial)))) ?_
  refine a_goto (GoTo.freeze 1 rfl (FZS.refl _) [(ub, OB.box [ints g.nodes, edsA (g.edges ++ [(⟨ty, fr, to⟩ : Ed)])]), (U4, OB.box [nilS, nilS])] (fzo_box ⟨FZ.refl _, FZ.here, trivial⟩ (fzo_box (FZL.refl _) trivial))) ?_
  refine a_frzBox 0 5 rfl rfl ?_
  repeat (first | refine gV pk ?_ | (show AL _ _ _ _ _ _ _; first | refine jS tok 0 ?_))
  refine a_frzBox 0 4 rfl rfl ?_
  refine a_ret ?_
  exact ⟨.inr rfl, _, _, _, _, rfl, rfl, Turn.of (Sub.of_eq rfl) (OSub.none _), rfl, rfl⟩
end Go.Proofs.YtddohheabpiljaaGreat

end
