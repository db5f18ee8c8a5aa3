/-
  Stable sorting of lists of numbers, whole: the walks. Conditions: at most 1000 numbers, of which less than 20, or sorted ones.
-/
import Derived.Test.YtoaenbfidlgjhaaSjQ8
import Derived.Test.YtoaenbfidlgjhaaW2
namespace Go.Proofs.Ytoaenbfidlgjhaa
open Go.Sj Go.Sj.Typ Go.Sj.Sta Go.Sj.Can
set_option linter.unusedVariables false
set_option linter.unusedSimpArgs false
set_option maxHeartbeats 16000000

theorem stableIm_spec (t : Int → Int) (D : List Int) (hs : Go.Sj.Can.Srt t D) (hl : D.length ≤ 1000) (f : FuncId) (caps : List AV) (hc : ∀ x ∈ D, ∀ y ∈ D, Pure Try.prog f (AI x :: AI y :: caps) (AI (t x - t y))) :
    Pure Try.prog 81 [ints D, AI D.length, .fn (.func f) [] caps] (.tup []) := by
  have ins := fun a b (ha : a ≤ 1000) (hb : b ≤ D.length) => insIm_spec t D hs hl f caps hc a b ha hb
  have sym := fun a m b (h1 : a < m) (h2 : m < b) (h3 : b ≤ D.length) => symMerge_spec t D hs hl f caps hc (b - a) a m b (Nat.le_refl _) h1 h2 h3
  generalize D.length = n at *
  refine a_enter Try.func81 (by kernel_rfl) rfl Try.ntmps81 rfl (by simp) ?_
  repeat (first | refine gN pk ?_)
  refine a_loopX (fun a : Nat => [(0, ints D), (1, AI n), (2, .fn (.func f) [] caps), (6, AI 20), (7, AI a), (8, AI (a + 20))]) (fun _ => []) (fun a => a ≤ n) (fun a => n - a) 0 (Nat.zero_le _) ?_ (OSub.none _) ?_
  · exact subQ
  · intro a ha
    rcases Nat.lt_or_ge n (a + 20) with h | h
    · have s1 := ins a n (by omega) (Nat.le_refl _)
      repeat (first | refine gN pk ?_ | (show AL _ _ _ _ _ _ _; first | refine jP s1 ?_))
      refine a_loopX (fun s : Nat => [(0, ints D), (1, AI n), (2, .fn (.func f) [] caps), (6, AI s)]) (fun _ => []) (fun s => 20 ≤ s ∧ s ≤ 2000) (fun s => n - s) 20 ⟨by omega, by omega⟩ ?_ (OSub.none _) ?_
      · exact subQ
      · rintro s ⟨hs1, hs2⟩
        rcases Nat.lt_or_ge s n with hq | hq
        · repeat (first | refine gN pk ?_)
          refine a_loopX (fun a : Nat => [(0, ints D), (1, AI n), (2, .fn (.func f) [] caps), (6, AI s), (7, AI a), (8, AI (a + 2 * s))]) (fun _ => []) (fun a => a ≤ n) (fun a => n - a) 0 (Nat.zero_le _) ?_ (OSub.none _) ?_
          · rw [show ((0 : Nat) : Int) + 2 * (s : Int) = 2 * (s : Int) by omega]
            exact subQ
          · intro c hc'
            rcases Nat.lt_or_ge n (c + 2 * s) with hk | hk
            · rcases Nat.lt_or_ge (c + s) n with hz | hz
              · have s3 := sym c (c + s) n (by omega) hz (Nat.le_refl _)
                rw [show (((c + s : Nat)) : Int) = (c : Int) + s by omega] at s3
                repeat (first | refine gA pk ?_ | (show AL _ _ _ _ _ _ _; first | refine jP s3 ?_))
                refine ⟨s * 2, ⟨by omega, by omega⟩, by omega, ?_, OSub.none _⟩
                rw [show (((s * 2 : Nat)) : Int) = (s : Int) * 2 by omega]
                exact subQ
              · repeat (first | refine gA pk ?_)
                refine ⟨s * 2, ⟨by omega, by omega⟩, by omega, ?_, OSub.none _⟩
                rw [show (((s * 2 : Nat)) : Int) = (s : Int) * 2 by omega]
                exact subQ
            · have s3 := sym c (c + s) (c + 2 * s) (by omega) (by omega) hk
              rw [show (((c + s : Nat)) : Int) = (c : Int) + s by omega, show (((c + 2 * s : Nat)) : Int) = (c : Int) + 2 * s by omega] at s3
              repeat (first | refine gA pk ?_ | (show AL _ _ _ _ _ _ _; first | refine jP s3 ?_))
              refine ⟨c + 2 * s, by omega, by omega, ?_, OSub.none _⟩
              rw [show (((c + 2 * s : Nat)) : Int) = (c : Int) + 2 * s by omega]
              exact subQ
        · repeat (first | refine gA pk ?_)
          refine fin (x := .tup []) (.inl rfl) rfl (Sub.refl _) ⟨rfl, rfl⟩ (OSub.refl _)
    · have s1 := ins a (a + 20) (by omega) h
      rw [show (((a + 20 : Nat)) : Int) = (a : Int) + 20 by omega] at s1
      repeat (first | refine gA pk ?_ | (show AL _ _ _ _ _ _ _; first | refine jP s1 ?_))
      refine ⟨a + 20, by omega, by omega, ?_, OSub.none _⟩
      rw [show (((a + 20 : Nat)) : Int) = (a : Int) + 20 by omega]
      exact subQ
theorem stableOwn_spec (t : Int → Int) (D : List Int) (hl : D.length < 20) (f : FuncId) (caps : List AV) (hc : ∀ x ∈ D, ∀ y ∈ D, Pure Try.prog f (AI x :: AI y :: caps) (AI (t x - t y))) (v : Value) :
    ACalls Try.prog 81 [.lit v, AI D.length, .fn (.func f) [] caps] [(v, .row 3 1 (rowI D))] (fun y M => y = .tup [] ∧ M = [(v, .row 3 1 (rowI (sortT t D)))]) := by
  have s1 := insOwn_spec t D (by omega) f caps hc v
  generalize D.length = n at *
  refine a_enter Try.func81 (by kernel_rfl) rfl Try.ntmps81 rfl (by simp) ?_
  repeat (first | refine gN pk ?_)
  refine a_loopX (fun a : Nat => [(0, .lit v), (1, AI n), (2, .fn (.func f) [] caps), (6, AI 20), (7, AI 0), (8, AI 20)]) (fun _ => [(v, .row 3 1 (rowI D))]) (fun a => True) (fun a => 0) 0 trivial ?_ (OSub.refl _) ?_
  · exact subQ
  · rintro a -
    repeat (first | refine gN pk ?_ | (show AL _ _ _ _ _ _ _; first | refine s_callO 0 rfl rfl rfl rfl rfl rfl s1 (SubL.of_eq rfl) ?_; rintro _ _ ⟨rfl, rfl⟩))
    refine a_loopX (fun s : Nat => [(0, .lit v), (1, AI n), (2, .fn (.func f) [] caps), (6, AI 20)]) (fun _ => [(v, .row 3 1 (rowI (sortT t D)))]) (fun s => True) (fun s => 0) 0 trivial ?_ (OSub.refl _) ?_
    · exact subQ
    · rintro s -
      repeat (first | refine gA pk ?_)
      refine fin (x := .tup []) (.inl rfl) rfl (Sub.refl _) ⟨rfl, rfl⟩ (OSub.refl _)
theorem SortStable_spec (t : Int → Int) (D : List Int) (hl : D.length ≤ 1000) (hD : D.length < 20 ∨ Go.Sj.Can.Srt t D) (f : FuncId) (caps : List AV) (hc : ∀ x ∈ D, ∀ y ∈ D, Pure Try.prog f (AI x :: AI y :: caps) (AI (t x - t y))) (v : Value) :
    ACalls Try.prog 65 [.lit v, .fn (.func f) [] caps] [(v, .row 3 1 (rowI D))] (fun y M => y = .tup [] ∧ M = [(v, .row 3 1 (rowI (sortT t D)))]) := by
  have lD : (rowI D).length = D.length := by simp
  by_cases hs : D.length < 20
  · have s1 := stableOwn_spec t D hs f caps hc v
    refine a_enter Try.func65 (by kernel_rfl) rfl Try.ntmps65 rfl (by simp) ?_
    repeat (first | refine gN pk ?_ | (show AL _ _ _ _ _ _ _; first | refine s_ownLen tok 0 rfl rfl rfl rfl (by decide) rfl rfl rfl ?_))
    rw [lD]
    repeat (first | refine gN pk ?_ | (show AL _ _ _ _ _ _ _; first | refine s_callO 0 rfl rfl rfl rfl rfl rfl s1 (SubL.of_eq rfl) ?_; rintro _ _ ⟨rfl, rfl⟩))
    refine fin (x := .tup []) (.inl rfl) rfl (Sub.refl _) ⟨rfl, rfl⟩ (OSub.refl _)
  · have hS := hD.resolve_left hs
    have s1 := stableIm_spec t D hS hl f caps hc
    rw [sortT_of hS]
    have s2 : Pure Try.prog 65 [ints D, .fn (.func f) [] caps] (.tup []) := by
      refine a_enter Try.func65 (by kernel_rfl) rfl Try.ntmps65 rfl (by simp) ?_
      repeat (first | refine gN pk ?_)
      rw [lD]
      repeat (first | refine gA pk ?_ | (show AL _ _ _ _ _ _ _; first | refine jP s1 ?_))
      refine fin (x := .tup []) (.inl rfl) rfl (Sub.refl _) ⟨rfl, rfl⟩ (OSub.refl _)
    exact (ACalls.lendZ (v := v) (E := 3) (sz := 1) (es := rowI D) (args' := [.lit v, .fn (.func f) [] caps]) s2 ⟨FZ.here, FZ.refl _, trivial⟩ (by
      rintro x M ⟨rfl, rfl⟩
      exact ⟨.tup _ (fun x hx => by simp at hx), fun p hp => by cases hp⟩)).mono (by
      rintro x M ⟨M', ⟨rfl, rfl⟩, rfl⟩
      exact ⟨rfl, rfl⟩)
end Go.Proofs.Ytoaenbfidlgjhaa
