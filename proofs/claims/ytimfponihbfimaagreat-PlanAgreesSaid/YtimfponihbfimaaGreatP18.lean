/- Parts of a proof. -/
import Derived.Test.YtimfponihbfimaaGreatP17
set_option linter.unusedVariables false
set_option linter.unusedSimpArgs false
section
namespace Go.Proofs.YtimfponihbfimaaGreat
open Go.Sj Go.Sj.Typ
set_option maxRecDepth 8000
set_option maxHeartbeats 4000000
def runP (digits : Bool) (c : Int) : Bool := if digits then decide (digP c) else decide (parP c)
theorem refRun_spec (s : ByteArray) (hs : s.size ≤ 1000000) (digits : Bool) : Pure Tryz.prog 206 [AS s, AI 0, AB digits] (AI (runS (runP digits) s)) := by
  refine zen Tryz.func206 (by kernel_rfl) rfl Tryz.ntmps206 rfl (by simp) ?_
  repeat (first | refine gA pk ?_)
  refine zlx (fun k : Nat => [(0, AS s), (1, AI 0), (2, AB digits), (7, AI k)]) (fun _ => []) (fun k => k ≤ s.size ∧ ∀ i, i < k → runP digits (byt s i) = true) (fun k => s.size - k) 0 ⟨Nat.zero_le _, fun i hi => by omega⟩ ?_ (OSub.refl _) ?_
  · exact subQ
  · rintro k ⟨hk, hp⟩
    have hfin : (k < s.size → runP digits (byt s k) = false) → k = runS (runP digits) s := fun h => (runL_of (runP digits) s.data.toList k (by rw [← size_list]; omega) (fun i hi => hp i hi) (fun hlt => h (by rw [size_list]; exact hlt))).symm
    have stp : k < s.size → runP digits (byt s k) = true → (k + 1 ≤ s.size ∧ ∀ i, i < k + 1 → runP digits (byt s i) = true) := fun h1 h2 => ⟨by omega, fun i hi => by
      rcases Nat.lt_or_ge i k with h3 | h3
      · exact hp i h3
      · obtain rfl : i = k := by omega
        exact h2⟩
    rcases Nat.lt_or_ge k s.size with h | h
    · have s1 : Pure Tryz.prog 205 [A8 (byt s (0 + (k : Int)).toNat)] (AB (decide (digP (byt s k)))) := by
        rw [show (0 + (k : Int)).toNat = k by omega]; exact refDigit_spec _
      have s2 : Pure Tryz.prog 204 [A8 (byt s (0 + (k : Int)).toNat)] (AB (decide (letP (byt s k)))) := by
        rw [show (0 + (k : Int)).toNat = k by omega]; exact refLetter_spec _
      have hbk : byt s (0 + (k : Int)).toNat = byt s k := by rw [show (0 + (k : Int)).toNat = k by omega]
      cases digits with
      | true =>
        repeat' (first | refine gA pk ?_ | (show AL _ _ _ _ _ _ _; first | refine s_strIx tok rfl rfl rfl rfl rfl rfl rfl (by omega) (by omega) ?_ | (refine s_callB rfl rfl rfl rfl rfl (s1) (SubL.of_eq rfl) (fun hb => ?_) (fun hb => ?_) <;> (first | replace hb := of_decide_eq_true hb | replace hb := of_decide_eq_false hb | skip)) | (refine s_cmp rfl rfl rfl rfl rfl rfl rfl (fun hb => ?_) (fun hb => ?_) <;> simp only [cmpP] at hb)) | fail)
        · exact ⟨k + 1, stp h (by simpa [runP] using hb), by omega, by exact subQ, OSub.none _⟩
        · rw [hfin (fun _ => by simpa [runP] using hb)]
          refine finQ ?_
          exact ⟨rfl, rfl⟩
      | false =>
        repeat' (first | refine gA pk ?_ | (show AL _ _ _ _ _ _ _; first | refine s_strIx tok rfl rfl rfl rfl rfl rfl rfl (by omega) (by omega) ?_ | (refine s_callB rfl rfl rfl rfl rfl (s1) (SubL.of_eq rfl) (fun hb => ?_) (fun hb => ?_) <;> (first | replace hb := of_decide_eq_true hb | replace hb := of_decide_eq_false hb | skip)) | (refine s_callB rfl rfl rfl rfl rfl (s2) (SubL.of_eq rfl) (fun hb => ?_) (fun hb => ?_) <;> (first | replace hb := of_decide_eq_true hb | replace hb := of_decide_eq_false hb | skip)) | (refine s_cmp rfl rfl rfl rfl rfl rfl rfl (fun hb => ?_) (fun hb => ?_) <;> simp only [cmpP] at hb)) | fail)
        all_goals first
          | exact ⟨k + 1, stp h (by simp only [runP, parP, Bool.false_eq_true, if_false]; simp_all), by omega, by exact subQ, OSub.none _⟩
          | (rw [hfin (fun _ => by simp only [runP, parP, Bool.false_eq_true, if_false]; simp_all)]
             (refine finQ ?_)
             exact ⟨rfl, rfl⟩)
    · obtain rfl : k = s.size := by omega
      repeat (first | refine gA pk ?_)
      rw [hfin (fun h => by omega)]
      refine finQ ?_
      exact ⟨rfl, rfl⟩
theorem refQuoted_spec (s : ByteArray) (hs : s.size ≤ 1000000) : ACalls Tryz.prog 207 [AS s, AI 0] [] (fun y L => (∃ n : Nat, (n = 0 ∨ (2 ≤ n ∧ n ≤ s.size)) ∧ y = AI n) ∧ L = []) := by
  refine zen Tryz.func207 (by kernel_rfl) rfl Tryz.ntmps207 rfl (by simp) ?_
  repeat (first | refine gA pk ?_)
  refine zlx (fun k : Nat => [(0, AS s), (1, AI 0), (5, AI k)]) (fun _ => []) (fun k => 1 ≤ k ∧ k ≤ s.size + 1) (fun k => s.size - k) 1 ⟨Nat.le_refl _, by omega⟩ ?_ (OSub.refl _) ?_
  · exact subQ
  · rintro k ⟨hk, hk'⟩
    rcases Nat.lt_or_ge k s.size with h | h
    · have hr := byt_rng s (0 + (k : Int)).toNat
      repeat' (first | refine gA pk ?_ | (show AL _ _ _ _ _ _ _; first | refine s_strIx tok rfl rfl rfl rfl rfl rfl rfl (by omega) (by omega) ?_ | (refine s_cmp rfl rfl rfl rfl rfl rfl rfl (fun hb => ?_) (fun hb => ?_) <;> simp only [cmpP] at hb)) | fail)
      all_goals first
        | exact ⟨k + 1, by omega, by omega, by exact subQ, OSub.none _⟩
        | ((refine finQ ?_); exact ⟨⟨k + 1, by omega, rfl⟩, rfl⟩)
        | ((refine finQ ?_); exact ⟨⟨0, by omega, rfl⟩, rfl⟩)
    · repeat (first | refine gA pk ?_)
      refine finQ ?_
      exact ⟨⟨0, by omega, rfl⟩, rfl⟩
def signL : List ByteArray := [⟨#[45, 62]⟩, ⟨#[60, 61]⟩, ⟨#[62, 61]⟩, ⟨#[61, 61]⟩, ⟨#[33, 61]⟩, ⟨#[123]⟩, ⟨#[125]⟩, ⟨#[40]⟩, ⟨#[41]⟩, ⟨#[91]⟩, ⟨#[93]⟩, ⟨#[44]⟩, ⟨#[59]⟩, ⟨#[58]⟩, ⟨#[61]⟩, ⟨#[43]⟩, ⟨#[45]⟩, ⟨#[42]⟩, ⟨#[60]⟩, ⟨#[62]⟩, ⟨#[33]⟩, ⟨#[38]⟩, ⟨#[124]⟩, ⟨#[46]⟩, ⟨#[63]⟩]
theorem signs_spec : Pure Tryz.prog 208 [] (strsA signL) := by
  refine zen Tryz.func208 (by kernel_rfl) rfl Tryz.ntmps208 rfl (by simp) ?_
  repeat (first | refine gA pk ?_ | (show AL _ _ _ _ _ _ _; first | refine s_build tok rfl rfl rfl rfl rfl rfl rfl rfl (by decide) (by decide) (fun u => ?_)))
  exact finF 0 (x := .lit _) (.inr rfl) rfl rfl FZ.here ⟨rfl, rfl⟩
end Go.Proofs.YtimfponihbfimaaGreat
end
section
namespace Go.Proofs.YtimfponihbfimaaGreat
open Go.Sj Go.Sj.Typ
set_option maxRecDepth 8000
set_option maxHeartbeats 4000000
theorem one_spec (s : ByteArray) (h0 : 0 < s.size) (hs : s.size ≤ 1000000) : ACalls Tryz.prog 195 [AS s, AI 0] [] (fun y L => (∃ (k : Int) (t : ByteArray) (n e : Int), y = .tup [.agg [AI k, AS t, AI 0], AI n, AI e] ∧ ((e = 0 ∧ n = s.size ∧ k = 1) ↔ nameB s = true)) ∧ L = []) := by
  have s1 := refLetter_spec (byt s (0 : Int).toNat)
  have s2 := refDigit_spec (byt s (0 : Int).toNat)
  have s3 := refRun_spec s hs
  have s5 := refQuoted_spec s hs
  have s6 := signs_spec
  have hle := fun b => runS_le (runP b) s
  have hall := runL_all (fun c => decide (parP c)) s.data.toList
  have hnm : nameB s = true ↔ (letP (byt s 0) ∧ s.size ≤ 20 ∧ runS (runP false) s = s.size) := by
    rw [show runS (runP false) s = runL (fun c => decide (parP c)) s.data.toList from rfl]
    unfold nameB
    rw [size_list]
    rw [hall, Bool.and_eq_true, decide_eq_true_eq]
    constructor
    · rintro ⟨⟨_, a2, a3⟩, a4⟩; exact ⟨a3, a2, a4⟩
    · rintro ⟨a3, a2, a4⟩; exact ⟨⟨by rw [← size_list]; omega, a2, a3⟩, a4⟩
  have h3n := s3 false
  have hrn := hle false
  generalize nameB s = nb at *
  generalize runS (runP false) s = rn at *
  refine a_enterM tok Tryz.func195 (by kernel_rfl) rfl Tryz.ntmps195 rfl (by decide) (by simp) ?_
  have hr0 := byt_rng s 0
  have e0 : byt s (0 : Int).toNat = byt s 0 := rfl
  by_cases hL : letP (byt s 0)
  · have hD : ¬ digP (byt s 0) := by unfold letP at hL; unfold digP; omega
    rw [e0, decide_eq_true hL] at s1
    rw [e0, decide_eq_false hD] at s2
    have h3 := h3n
    repeat' (first | refine gV pk ?_ | (show AL _ _ _ _ _ _ _; first | refine jL tok (fun u => ?_) | refine jS tok 0 ?_ | refine s_strIx tok rfl rfl rfl rfl rfl rfl rfl (by omega) (by omega) ?_ | refine jP s1 ?_ | refine jP s2 ?_ | refine jP h3 ?_ | refine s_strSubI tok (0) (rn) rfl rfl rfl rfl rfl rfl (by first | exact rfl | exact ⟨_, _, rfl, by omega⟩) (by first | exact rfl | exact ⟨_, _, rfl, by omega⟩) (by omega) (by omega) ?_ | (refine s_cmp rfl rfl rfl rfl rfl rfl rfl (fun hb => ?_) (fun hb => ?_) <;> simp only [cmpP] at hb)) | fail)
    · refine zfb 0 4 rfl rfl ?_
      refine a_ret ?_
      refine finM (.inr rfl) rfl ?_
      refine ⟨⟨_, _, _, _, rfl, ?_⟩, rfl⟩
      rw [hnm]
      constructor
      · rintro ⟨h, _⟩; omega
      · rintro ⟨_, h1, h2⟩; omega
    · refine zfb 0 4 rfl rfl ?_
      refine a_ret ?_
      refine finM (.inr rfl) rfl ?_
      refine ⟨⟨_, _, _, _, rfl, ?_⟩, rfl⟩
      rw [hnm]
      constructor
      · rintro ⟨_, h, _⟩; exact ⟨hL, by omega, by omega⟩
      · rintro ⟨_, h1, h2⟩; exact ⟨rfl, by omega, rfl⟩
  · have hno : ∀ (k : Int) (e n : Int), k ≠ 1 → ((e = 0 ∧ n = s.size ∧ k = 1) ↔ nb = true) := fun k e n hk => by
      rw [hnm]
      exact ⟨fun h => absurd h.2.2 hk, fun h => absurd h.1 hL⟩
    rw [e0, decide_eq_false hL] at s1
    by_cases hD : digP (byt s 0)
    · rw [e0, decide_eq_true hD] at s2
      have h3 := s3 true
      have hrn := hle true
      generalize runS (runP true) s = dn at *
      repeat' (first | refine gV pk ?_ | (show AL _ _ _ _ _ _ _; first | refine jL tok (fun u => ?_) | refine jS tok 0 ?_ | refine s_strIx tok rfl rfl rfl rfl rfl rfl rfl (by omega) (by omega) ?_ | refine jP s1 ?_ | refine jP s2 ?_ | refine jP h3 ?_ | refine s_strSubI tok (0) (dn) rfl rfl rfl rfl rfl rfl (by first | exact rfl | exact ⟨_, _, rfl, by omega⟩) (by first | exact rfl | exact ⟨_, _, rfl, by omega⟩) (by omega) (by omega) ?_ | (refine s_cmp rfl rfl rfl rfl rfl rfl rfl (fun hb => ?_) (fun hb => ?_) <;> simp only [cmpP] at hb)) | fail)
      all_goals
        refine zfb 0 4 rfl rfl ?_
        refine a_ret ?_
        refine finM (.inr rfl) rfl ?_
        exact ⟨⟨_, _, _, _, rfl, hno _ _ _ (by decide)⟩, rfl⟩
    · rw [e0, decide_eq_false hD] at s2
      by_cases hq : byt s 0 = 34
      · repeat' (first | refine gV pk ?_ | (show AL _ _ _ _ _ _ _; first | refine jL tok (fun u => ?_) | refine jS tok 0 ?_ | refine s_strIx tok rfl rfl rfl rfl rfl rfl rfl (by omega) (by omega) ?_ | refine jP s1 ?_ | refine jP s2 ?_ | (refine zsc (Lc := []) rfl rfl rfl rfl rfl (s5) (SubL.of_eq rfl) (List.Perm.refl _) ?_; rintro _ _ ⟨⟨qn, hqn, rfl⟩, rfl⟩) | refine s_strSubI tok (1) (qn - 1) rfl rfl rfl rfl rfl rfl (by first | exact rfl | exact ⟨_, _, rfl, by omega⟩) (by first | exact rfl | exact ⟨_, _, rfl, by omega⟩) (by omega) (by omega) ?_ | (refine s_cmp rfl rfl rfl rfl rfl rfl rfl (fun hb => ?_) (fun hb => ?_) <;> simp only [cmpP] at hb)) | fail)
        all_goals
          refine zfb 0 4 rfl rfl ?_
          refine a_ret ?_
          refine finM (.inr rfl) rfl ?_
          exact ⟨⟨_, _, _, _, rfl, hno _ _ _ (by decide)⟩, rfl⟩
      · repeat (first | refine gA pk ?_ | (show AL _ _ _ _ _ _ _; first | refine jL tok (fun u => ?_) | refine jS tok 0 ?_ | refine s_strIx tok rfl rfl rfl rfl rfl rfl rfl (by omega) (by omega) ?_ | refine jP s1 ?_ | refine jP s2 ?_ | refine jP s6 ?_))
        refine zlx (fun k : Nat => [(0, AS s), (1, AI 0), (4, .pt u 0 0 0), (12, strsA signL), (13, AI k)]) (fun _ => [(u, .box [AI 0, AS ⟨#[]⟩, AI 0])]) (fun k => k ≤ 25) (fun k => 25 - k) 0 (Nat.zero_le _) ?_ (OSub.refl _) ?_
        · exact subQ
        · intro k hk
          have ls : signL.length = 25 := rfl
          have ls' : (signL.map cS).length = 25 := rfl
          rcases Nat.lt_or_ge k 25 with h | h
          · have hx := List.getElem?_eq_getElem (l := signL) (i := k) (by omega)
            have hsm : signL[k].size ≤ 2 := by
              have := List.getElem_mem (l := signL) (n := k) (by omega)
              have hall : ∀ x ∈ signL, x.size ≤ 2 := by decide
              exact hall _ this
            generalize signL[k] = y at hx hsm
            have xk : (signL.map cS)[(k : Int).toNat]? = some [AS y] := zmp hx
            generalize signL = SL at *
            repeat' (first | refine gV pk ?_ | (show AL _ _ _ _ _ _ _; first | refine jX tok xk ?_ | refine jS tok 0 ?_ | refine s_strEqB rfl rfl rfl rfl rfl rfl (fun hb => ?_) (fun hb => ?_) | refine s_strSubI tok (0) (y.size) rfl rfl rfl rfl rfl rfl (by first | exact rfl | exact ⟨_, _, rfl, by omega⟩) (by first | exact rfl | exact ⟨_, _, rfl, by omega⟩) (by omega) (by omega) ?_ | (refine s_cmp rfl rfl rfl rfl rfl rfl rfl (fun hb => ?_) (fun hb => ?_) <;> simp only [cmpP] at hb)) | fail)
            all_goals first
              | exact ⟨k + 1, by omega, by omega, by exact subQ, OSub.refl _⟩
              | (refine zfb 0 4 rfl rfl ?_
                 refine a_ret ?_
                 refine finM (.inr rfl) rfl ?_
                 exact ⟨⟨_, _, _, _, rfl, hno _ _ _ (by decide)⟩, rfl⟩)
          · obtain rfl : k = 25 := by omega
            generalize signL = SL at *
            repeat (first | refine gV pk ?_ | (show AL _ _ _ _ _ _ _; first | refine jS tok 0 ?_))
            refine zfb 0 4 rfl rfl ?_
            refine a_ret ?_
            refine finM (.inr rfl) rfl ?_
            exact ⟨⟨_, _, _, _, rfl, hno _ _ _ (by decide)⟩, rfl⟩
end Go.Proofs.YtimfponihbfimaaGreat
end
section
namespace Go.Proofs.YtimfponihbfimaaGreat
open Go.Sj Go.Sj.Typ
set_option maxRecDepth 8000
set_option maxHeartbeats 4000000
theorem text_spec (s : ByteArray) : Pure Tryz.prog 194 [.agg [AI 1, AS s, AI 0]] (AS s) := by
  refine zen Tryz.func194 (by kernel_rfl) rfl Tryz.ntmps194 rfl (by simp) ?_; refine a_seq ?_; refine a_reg ?_; (repeat (first | refine gZ pk ?_ | (show AL _ _ _ _ _ _ _; first | refine jB (fun u => ?_)))); refine zfb 0 1 rfl rfl ?_
  repeat (first | refine gA pk ?_)
  refine finQ ?_
  exact ⟨rfl, rfl⟩
theorem Right_spec (s : ByteArray) (hs : s.size ≤ 1000000) : Pure Tryz.prog 177 [.agg [AI 1, AS s, AI 0]] (AB (nameB s)) := by
  have s1 := text_spec s
  by_cases h0 : s.size = 0
  · have he : s = ⟨#[]⟩ := by
      cases s with | mk d =>
      congr
      exact Array.eq_empty_of_size_eq_zero h0
    subst he
    rw [show nameB ⟨#[]⟩ = false from by decide]
    refine zen Tryz.func177 (by kernel_rfl) rfl Tryz.ntmps177 rfl (by simp) ?_; refine a_seq ?_; refine a_reg ?_; (repeat (first | refine gZ pk ?_ | (show AL _ _ _ _ _ _ _; first | refine jB (fun u => ?_)))); refine zfb 0 1 rfl rfl ?_
    repeat (first | refine gA pk ?_ | (show AL _ _ _ _ _ _ _; first | refine jP s1 ?_ | refine s_strEqT rfl rfl rfl rfl rfl rfl (by first | rfl | assumption) ?_))
    refine finQ ?_
    exact ⟨rfl, rfl⟩
  · have s2 := one_spec s (by omega) hs
    have hne : s ≠ ⟨#[]⟩ := by rintro rfl; exact h0 rfl
    generalize hnb : nameB s = nb at *
    refine zen Tryz.func177 (by kernel_rfl) rfl Tryz.ntmps177 rfl (by simp) ?_; refine a_seq ?_; refine a_reg ?_; (repeat (first | refine gZ pk ?_ | (show AL _ _ _ _ _ _ _; first | refine jB (fun u => ?_)))); refine zfb 0 1 rfl rfl ?_
    repeat' (first | refine gA pk ?_ | (show AL _ _ _ _ _ _ _; first | refine jL tok (fun u => ?_) | refine jS tok 0 ?_ | refine jO tok 0 ?_ | refine jP s1 ?_ | refine s_strEqF rfl rfl rfl rfl rfl rfl (by assumption) ?_ | (refine zsc (Lc := []) rfl rfl rfl rfl rfl (s2) (SubL.of_eq rfl) (List.Perm.refl _) ?_; rintro _ _ ⟨⟨k, t, n, e, rfl, hiff⟩, rfl⟩) | (refine s_cmp rfl rfl rfl rfl rfl rfl rfl (fun hb => ?_) (fun hb => ?_) <;> simp only [cmpP] at hb)) | fail)
    all_goals refine finQ ?_
    all_goals refine ⟨?_, rfl⟩
    all_goals cases nb with
      | true => first | rfl | (obtain ⟨h1, h2, h3⟩ := hiff.2 rfl; exfalso; omega)
      | false => first | rfl | (exfalso; have := hiff.1 ⟨by omega, by omega, by omega⟩; cases this)
theorem refIsName_spec (s : ByteArray) (hs : s.size ≤ 1000000) : Pure Tryz.prog 135 [AS s] (AB (nameB s)) := by
  have h := Right_spec s hs
  generalize nameB s = b at *
  refine zen Tryz.func135 (by kernel_rfl) rfl Tryz.ntmps135 rfl (by simp) ?_
  repeat (first | refine gA pk ?_ | (show AL _ _ _ _ _ _ _; first | refine jP h ?_))
  refine finQ ?_
  exact ⟨rfl, rfl⟩
end Go.Proofs.YtimfponihbfimaaGreat
end
