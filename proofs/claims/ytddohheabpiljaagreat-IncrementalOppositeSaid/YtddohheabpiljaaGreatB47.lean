/-
  Parts of the proof of the law IncrementalOpposite (texts W60): steps, plain mathematics, contracts of functions. Each theorem states its own conditions.
-/
import Derived.Test.YtddohheabpiljaaGreatB09
import Derived.Test.YtddohheabpiljaaGreatB25
import Derived.Test.YtddohheabpiljaaGreatB46
section
/-
  Watches: matches put together (program).
-/
namespace Go.Proofs.YtddohheabpiljaaGreat
open Go.Sj Go.Sj.Typ Go.Sj.Sta Go.Sj.Inc
set_option maxRecDepth 8000
set_option linter.unusedVariables false
set_option linter.unusedSimpArgs false
set_option maxHeartbeats 16000000

theorem grow_spec (n : Nat) (hn : n ≤ 1000000) : ACalls Tryz.prog 115 [nilS, AI n] [] (fun y M => ∃ v, y = .lit v ∧ M = [(v, .row 95 2 [])]) := by
  by_cases h : n = 0
  · subst h
    refine a_enter Tryz.func115 (by kernel_rfl) rfl Tryz.ntmps115 rfl (by simp) ?_
    refine a_nil 95 2 ?_
    repeat (first | refine gN pk ?_ | (show AL _ _ _ _ _ _ _; first | refine s_ownLen tok 0 rfl rfl rfl rfl (by decide) rfl rfl rfl ?_ | refine s_cap tok rfl rfl rfl rfl rfl rfl ?_))
    exact fin (x := .lit _) (.inr rfl) rfl (Sub.refl _) ⟨_, rfl, rfl⟩ (OSub.refl _)
  · refine a_enter Tryz.func115 (by kernel_rfl) rfl Tryz.ntmps115 rfl (by simp) ?_
    refine a_nil 95 2 ?_
    repeat (first | refine gN pk ?_ | (show AL _ _ _ _ _ _ _; first | refine s_ownLen tok 0 rfl rfl rfl rfl (by decide) rfl rfl rfl ?_ | refine s_cap tok rfl rfl rfl rfl rfl rfl ?_ | refine s_capPart tok (0) (0) rfl rfl rfl rfl rfl rfl rfl rfl (by first | exact rfl | exact ⟨_, _, rfl, by omega⟩) (by first | exact rfl | exact ⟨_, _, rfl, by omega⟩) (by omega) (by omega) ?_))
    refine s_appendMake tok 0 0 n rfl rfl rfl rfl rfl rfl rfl (by decide) rfl rfl rfl ⟨_, rfl, by omega⟩ (by omega) (by omega) (by omega) (by omega) (by show (0 + n) * 48 ≤ _; omega) (fun v => ?_)
    repeat (first | refine gN pk ?_ | (show AL _ _ _ _ _ _ _; first | refine s_ownLen tok 1 rfl rfl rfl rfl (by decide) rfl rfl rfl ?_ | refine s_frontC tok 0 (n := 0) rfl rfl rfl rfl rfl rfl rfl rfl rfl (Nat.zero_le _) (fun v2 hv2 => ?_)))
    exact fin (x := .lit _) (.inr rfl) rfl (Sub.refl _) ⟨_, rfl, rfl⟩ (.keep (OSub.none _))
def catR (a b : List Mo) : Nat → List (List AV)
  | 0 => []
  | 1 => a.map cMo
  | _ => a.map cMo ++ b.map cMo
theorem concat_spec (a b : List Mo) (ha : a.length ≤ 400000) (hb : b.length ≤ 400000) : Gives Tryz.prog 100 [mssA [a, b]] 95 2 ((a ++ b).map cMo) := by
  have la : (a.map cMo).length = a.length := by simp
  have lb : (b.map cMo).length = b.length := by simp
  have hcell : ∀ l : List Mo, (l.map cMo).all (fun e => e.all AV.cell) = true := fun l => List.all_eq_true.2 fun x hx => by
    obtain ⟨y, _, rfl⟩ := List.mem_map.1 hx
    rfl
  have k0 : ([[mosA a], [mosA b]] : List (List AV))[(0 : Int).toNat]? = some [mosA a] := rfl
  have k1 : ([[mosA a], [mosA b]] : List (List AV))[(1 : Int).toNat]? = some [mosA b] := rfl
  have s1 := grow_spec (a.length + b.length) (by omega)
  rw [List.map_append]
  refine a_enter Tryz.func100 (by kernel_rfl) rfl Tryz.ntmps100 rfl (by simp) ?_
  repeat (first | refine gA pk ?_)
  refine a_loopG2 (fun (k : Nat) (z : Int) => [(0, mssA [a, b]), (3, AI z), (9, mssA [a, b]), (10, AI 2), (11, AI k)]) (fun _ _ => []) (fun k z => k ≤ 2 ∧ (k = 0 → z = 0) ∧ (k = 1 → z = a.length) ∧ (k = 2 → z = a.length + b.length)) (fun k _ => 2 - k) 0 0 ⟨Nat.zero_le _, fun _ => rfl, fun h => (by cases h), fun h => (by cases h)⟩ (.sub (by exact subQ) (OSub.refl _)) ?_
  rintro k z ⟨hk, h0, h1, h2⟩
  have hk3 : k = 0 ∨ k = 1 ∨ k = 2 := by omega
  rcases hk3 with rfl | rfl | rfl
  · have hz := h0 rfl
    repeat (first | refine gA pk ?_ | (show AL _ _ _ _ _ _ _; first | refine jX tok k0 ?_))
    exact ⟨1, z + ((a.map cMo).length : Int), ⟨by omega, fun h => (by cases h), fun _ => by omega, fun h => (by cases h)⟩, by omega, .sub (by exact subQ) (OSub.refl _)⟩
  · have hz := h1 rfl
    repeat (first | refine gA pk ?_ | (show AL _ _ _ _ _ _ _; first | refine jX tok k1 ?_))
    exact ⟨2, z + ((b.map cMo).length : Int), ⟨by omega, fun h => (by cases h), fun h => (by cases h), fun _ => by omega⟩, by omega, .sub (by exact subQ) (OSub.refl _)⟩
  · have hz := h2 rfl
    rw [Int.natCast_add, ← hz] at s1
    repeat (first | refine gA pk ?_ | (show AL _ _ _ _ _ _ _; first | refine s_call (Lc := []) (Lr := []) rfl rfl rfl rfl rfl s1 (SubL.of_eq rfl) (List.Perm.refl _) ?_; rintro _ _ ⟨v, rfl, rfl⟩))
    refine a_loopG2 (fun (k : Nat) (v : Value) => [(6, .lit v), (25, mssA [a, b]), (26, AI 2), (27, AI k)]) (fun k v => [(v, .row 95 2 (catR a b k))]) (fun k _ => k ≤ 2) (fun k _ => 2 - k) 0 v (Nat.zero_le _) (.sub (by exact subQ) (OSub.refl _)) ?_
    clear v
    intro k v hk
    have hk3 : k = 0 ∨ k = 1 ∨ k = 2 := by omega
    rcases hk3 with rfl | rfl | rfl
    · repeat (first | refine gA pk ?_ | (show AL _ _ _ _ _ _ _; first | refine jX tok k0 ?_ | refine s_appendIm tok 0 rfl rfl rfl rfl rfl rfl (by decide) rfl rfl rfl rfl (hcell _) (by simp only [catR, la, lb, List.length_nil]; omega) (by simp only [catR, la, lb, List.length_nil]; omega) (fun w => ?_)))
      exact ⟨1, w, by omega, by omega, .sub (by exact subQ) (OSub.refl _)⟩
    · repeat (first | refine gA pk ?_ | (show AL _ _ _ _ _ _ _; first | refine jX tok k1 ?_ | refine s_appendIm tok 0 rfl rfl rfl rfl rfl rfl (by decide) rfl rfl rfl rfl (hcell _) (by simp only [catR, la, lb, List.length_nil]; omega) (by simp only [catR, la, lb, List.length_nil]; omega) (fun w => ?_)))
      exact ⟨2, w, by omega, by omega, .sub (by exact subQ) (OSub.refl _)⟩
    · repeat (first | refine gA pk ?_)
      exact fin (x := .lit _) (.inr rfl) rfl (Sub.refl _) ⟨_, rfl, rfl⟩ (OSub.refl _)
theorem merged_spec (a b Y : List Mo) (ha : a.length ≤ 400000) (hb : b.length ≤ 400000)
    (hsort : ∀ v, ACalls Tryz.prog 98 [.lit v, .fn (.func 63) [] []] [(v, .row 95 2 ((a ++ b).map cMo))] (fun y M => y = .tup [] ∧ M = [(v, .row 95 2 (Y.map cMo))])) :
    Gives Tryz.prog 67 [mosA a, mosA b] 95 2 (Y.map cMo) := by
  have s1 := concat_spec a b ha hb
  refine a_enter Tryz.func67 (by kernel_rfl) rfl Tryz.ntmps67 rfl (by simp) ?_
  repeat (first | refine gN pk ?_ | (show AL _ _ _ _ _ _ _; first | refine s_frzNow 0 rfl rfl rfl (s_build tok rfl rfl rfl rfl rfl rfl rfl rfl (by decide) (by decide) (fun v => AL.nil ⟨v, rfl, rfl, rfl⟩)) ?_ | refine s_callG rfl rfl rfl rfl rfl (s1) (SubL.of_eq rfl) (fun v => ?_)))
  repeat (first | refine gN pk ?_ | (show AL _ _ _ _ _ _ _; first | refine s_call (Lc := [(v, .row 95 2 ((a ++ b).map cMo))]) (Lr := []) rfl rfl rfl rfl rfl (hsort v) (SubL.of_eq rfl) (List.Perm.refl _) ?_; rintro _ _ ⟨rfl, rfl⟩))
  exact fin (x := .lit _) (.inr rfl) rfl (Sub.refl _) ⟨_, rfl, rfl⟩ (OSub.refl _)
end Go.Proofs.YtddohheabpiljaaGreat

end
