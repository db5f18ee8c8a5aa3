/-
  Names, by the reference: the first token.
-/
import Derived.Test.YtcacbdohlfljfaaGreatSjQ8
import Derived.Test.YtcacbdohlfljfaaGreatY4
namespace Go.Proofs.YtcacbdohlfljfaaGreat
open Go.Sj Go.Sj.Typ
set_option linter.unusedVariables false
set_option maxHeartbeats 4000000

theorem one_spec (s : ByteArray) (h0 : 0 < s.size) (hs : s.size ≤ 1000000) : ACalls Tryz.prog 128 [AS s, AI 0] [] (fun y L => (∃ (k : Int) (t : ByteArray) (n e : Int), y = .tup [.agg [AI k, AS t, AI 0], AI n, AI e] ∧ ((e = 0 ∧ n = s.size ∧ k = 1) ↔ nameB s = true)) ∧ L = []) := by
  have s1 := refLetter_spec (byt s (0 : Int).toNat)
  have s2 := refDigit_spec (byt s (0 : Int).toNat)
  have s3 := refRun_spec s hs
  have s5 := refQuoted_spec s hs
  have s6 := signs_spec
  have hle := fun b => runS_le (runP b) s
  have hall := runL_all (fun c => decide (parP c)) s.data.toList
  have hnm : nameB s = true ↔ (letP (byt s 0) ∧ s.size ≤ 20 ∧ runS (runP false) s = s.size) := by
    rw [show runS (runP false) s = runL (fun c => decide (parP c)) s.data.toList from rfl]
    unfold nameB
    rw [size_list]
    rw [hall, Bool.and_eq_true, decide_eq_true_eq]
    constructor
    · rintro ⟨⟨_, a2, a3⟩, a4⟩; exact ⟨a3, a2, a4⟩
    · rintro ⟨a3, a2, a4⟩; exact ⟨⟨by rw [← size_list]; omega, a2, a3⟩, a4⟩
  have h3n := s3 false
  have hrn := hle false
  generalize nameB s = nb at *
  generalize runS (runP false) s = rn at *
  refine a_enterM tok Tryz.func128 (by kernel_rfl) rfl Tryz.ntmps128 rfl (by decide) (by simp) ?_
  have hr0 := byt_rng s 0
  have e0 : byt s (0 : Int).toNat = byt s 0 := rfl
  by_cases hL : letP (byt s 0)
  · have hD : ¬ digP (byt s 0) := by unfold letP at hL; unfold digP; omega
    rw [e0, decide_eq_true hL] at s1
    rw [e0, decide_eq_false hD] at s2
    have h3 := h3n
    repeat' (first | refine gV pk ?_ | (show AL _ _ _ _ _ _ _; first | refine jL tok (fun u => ?_) | refine jS tok 0 ?_ | refine s_strIx tok rfl rfl rfl rfl rfl rfl rfl (by omega) (by omega) ?_ | refine jP s1 ?_ | refine jP s2 ?_ | refine jP h3 ?_ | refine s_strSubI tok (0) (rn) rfl rfl rfl rfl rfl rfl (by first | exact rfl | exact ⟨_, _, rfl, by omega⟩) (by first | exact rfl | exact ⟨_, _, rfl, by omega⟩) (by omega) (by omega) ?_ | (refine s_cmp rfl rfl rfl rfl rfl rfl rfl (fun hb => ?_) (fun hb => ?_) <;> simp only [cmpP] at hb)) | fail)
    · refine a_frzBox 0 4 rfl rfl ?_
      refine a_ret ?_
      refine finM (.inr rfl) rfl ?_
      refine ⟨⟨_, _, _, _, rfl, ?_⟩, rfl⟩
      rw [hnm]
      constructor
      · rintro ⟨h, _⟩; omega
      · rintro ⟨_, h1, h2⟩; omega
    · refine a_frzBox 0 4 rfl rfl ?_
      refine a_ret ?_
      refine finM (.inr rfl) rfl ?_
      refine ⟨⟨_, _, _, _, rfl, ?_⟩, rfl⟩
      rw [hnm]
      constructor
      · rintro ⟨_, h, _⟩; exact ⟨hL, by omega, by omega⟩
      · rintro ⟨_, h1, h2⟩; exact ⟨rfl, by omega, rfl⟩
  · have hno : ∀ (k : Int) (e n : Int), k ≠ 1 → ((e = 0 ∧ n = s.size ∧ k = 1) ↔ nb = true) := fun k e n hk => by
      rw [hnm]
      exact ⟨fun h => absurd h.2.2 hk, fun h => absurd h.1 hL⟩
    rw [e0, decide_eq_false hL] at s1
    by_cases hD : digP (byt s 0)
    · rw [e0, decide_eq_true hD] at s2
      have h3 := s3 true
      have hrn := hle true
      generalize runS (runP true) s = dn at *
      repeat' (first | refine gV pk ?_ | (show AL _ _ _ _ _ _ _; first | refine jL tok (fun u => ?_) | refine jS tok 0 ?_ | refine s_strIx tok rfl rfl rfl rfl rfl rfl rfl (by omega) (by omega) ?_ | refine jP s1 ?_ | refine jP s2 ?_ | refine jP h3 ?_ | refine s_strSubI tok (0) (dn) rfl rfl rfl rfl rfl rfl (by first | exact rfl | exact ⟨_, _, rfl, by omega⟩) (by first | exact rfl | exact ⟨_, _, rfl, by omega⟩) (by omega) (by omega) ?_ | (refine s_cmp rfl rfl rfl rfl rfl rfl rfl (fun hb => ?_) (fun hb => ?_) <;> simp only [cmpP] at hb)) | fail)
      all_goals
        refine a_frzBox 0 4 rfl rfl ?_
        refine a_ret ?_
        refine finM (.inr rfl) rfl ?_
        exact ⟨⟨_, _, _, _, rfl, hno _ _ _ (by decide)⟩, rfl⟩
    · rw [e0, decide_eq_false hD] at s2
      by_cases hq : byt s 0 = 34
      · repeat' (first | refine gV pk ?_ | (show AL _ _ _ _ _ _ _; first | refine jL tok (fun u => ?_) | refine jS tok 0 ?_ | refine s_strIx tok rfl rfl rfl rfl rfl rfl rfl (by omega) (by omega) ?_ | refine jP s1 ?_ | refine jP s2 ?_ | (refine s_call (Lc := []) rfl rfl rfl rfl rfl (s5) (SubL.of_eq rfl) (List.Perm.refl _) ?_; rintro _ _ ⟨⟨qn, hqn, rfl⟩, rfl⟩) | refine s_strSubI tok (1) (qn - 1) rfl rfl rfl rfl rfl rfl (by first | exact rfl | exact ⟨_, _, rfl, by omega⟩) (by first | exact rfl | exact ⟨_, _, rfl, by omega⟩) (by omega) (by omega) ?_ | (refine s_cmp rfl rfl rfl rfl rfl rfl rfl (fun hb => ?_) (fun hb => ?_) <;> simp only [cmpP] at hb)) | fail)
        all_goals
          refine a_frzBox 0 4 rfl rfl ?_
          refine a_ret ?_
          refine finM (.inr rfl) rfl ?_
          exact ⟨⟨_, _, _, _, rfl, hno _ _ _ (by decide)⟩, rfl⟩
      · repeat (first | refine gA pk ?_ | (show AL _ _ _ _ _ _ _; first | refine jL tok (fun u => ?_) | refine jS tok 0 ?_ | refine s_strIx tok rfl rfl rfl rfl rfl rfl rfl (by omega) (by omega) ?_ | refine jP s1 ?_ | refine jP s2 ?_ | refine jP s6 ?_))
        refine a_loopX (fun k : Nat => [(0, AS s), (1, AI 0), (4, .pt u 0 0 0), (12, strsA signL), (13, AI k)]) (fun _ => [(u, .box [AI 0, AS ⟨#[]⟩, AI 0])]) (fun k => k ≤ 25) (fun k => 25 - k) 0 (Nat.zero_le _) ?_ (OSub.refl _) ?_
        · exact subQ
        · intro k hk
          have ls : signL.length = 25 := rfl
          have ls' : (signL.map cS).length = 25 := rfl
          rcases Nat.lt_or_ge k 25 with h | h
          · have hx := List.getElem?_eq_getElem (l := signL) (i := k) (by omega)
            have hsm : signL[k].size ≤ 2 := by
              have := List.getElem_mem (l := signL) (n := k) (by omega)
              have hall : ∀ x ∈ signL, x.size ≤ 2 := by decide
              exact hall _ this
            generalize signL[k] = y at hx hsm
            have xk : (signL.map cS)[(k : Int).toNat]? = some [AS y] := map_get hx
            generalize signL = SL at *
            repeat' (first | refine gV pk ?_ | (show AL _ _ _ _ _ _ _; first | refine jX tok xk ?_ | refine jS tok 0 ?_ | refine s_strEqB rfl rfl rfl rfl rfl rfl (fun hb => ?_) (fun hb => ?_) | refine s_strSubI tok (0) (y.size) rfl rfl rfl rfl rfl rfl (by first | exact rfl | exact ⟨_, _, rfl, by omega⟩) (by first | exact rfl | exact ⟨_, _, rfl, by omega⟩) (by omega) (by omega) ?_ | (refine s_cmp rfl rfl rfl rfl rfl rfl rfl (fun hb => ?_) (fun hb => ?_) <;> simp only [cmpP] at hb)) | fail)
            all_goals first
              | exact ⟨k + 1, by omega, by omega, by exact subQ, OSub.refl _⟩
              | (refine a_frzBox 0 4 rfl rfl ?_
                 refine a_ret ?_
                 refine finM (.inr rfl) rfl ?_
                 exact ⟨⟨_, _, _, _, rfl, hno _ _ _ (by decide)⟩, rfl⟩)
          · obtain rfl : k = 25 := by omega
            generalize signL = SL at *
            repeat (first | refine gV pk ?_ | (show AL _ _ _ _ _ _ _; first | refine jS tok 0 ?_))
            refine a_frzBox 0 4 rfl rfl ?_
            refine a_ret ?_
            refine finM (.inr rfl) rfl ?_
            exact ⟨⟨_, _, _, _, rfl, hno _ _ _ (by decide)⟩, rfl⟩
end Go.Proofs.YtcacbdohlfljfaaGreat
