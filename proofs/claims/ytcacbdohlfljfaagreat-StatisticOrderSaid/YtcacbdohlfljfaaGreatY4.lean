/-
  Names, by the reference: the walks.
-/
import Derived.Test.YtcacbdohlfljfaaGreatSjQ8
import Derived.Test.YtcacbdohlfljfaaGreatY3
import Derived.Test.YtcacbdohlfljfaaGreatSjQ6
namespace Go.Proofs.YtcacbdohlfljfaaGreat
open Go.Sj Go.Sj.Typ
set_option linter.unusedVariables false
set_option maxHeartbeats 4000000

def runP (digits : Bool) (c : Int) : Bool := if digits then decide (digP c) else decide (parP c)
theorem refRun_spec (s : ByteArray) (hs : s.size ≤ 1000000) (digits : Bool) : Pure Tryz.prog 139 [AS s, AI 0, AB digits] (AI (runS (runP digits) s)) := by
  refine a_enter Tryz.func139 (by kernel_rfl) rfl Tryz.ntmps139 rfl (by simp) ?_
  repeat (first | refine gA pk ?_)
  refine a_loopX (fun k : Nat => [(0, AS s), (1, AI 0), (2, AB digits), (7, AI k)]) (fun _ => []) (fun k => k ≤ s.size ∧ ∀ i, i < k → runP digits (byt s i) = true) (fun k => s.size - k) 0 ⟨Nat.zero_le _, fun i hi => by omega⟩ ?_ (OSub.refl _) ?_
  · exact subQ
  · rintro k ⟨hk, hp⟩
    have hfin : (k < s.size → runP digits (byt s k) = false) → k = runS (runP digits) s := fun h => (runL_of (runP digits) s.data.toList k (by rw [← size_list]; omega) (fun i hi => hp i hi) (fun hlt => h (by rw [size_list]; exact hlt))).symm
    have stp : k < s.size → runP digits (byt s k) = true → (k + 1 ≤ s.size ∧ ∀ i, i < k + 1 → runP digits (byt s i) = true) := fun h1 h2 => ⟨by omega, fun i hi => by
      rcases Nat.lt_or_ge i k with h3 | h3
      · exact hp i h3
      · obtain rfl : i = k := by omega
        exact h2⟩
    rcases Nat.lt_or_ge k s.size with h | h
    · have s1 : Pure Tryz.prog 138 [A8 (byt s (0 + (k : Int)).toNat)] (AB (decide (digP (byt s k)))) := by
        rw [show (0 + (k : Int)).toNat = k by omega]; exact refDigit_spec _
      have s2 : Pure Tryz.prog 137 [A8 (byt s (0 + (k : Int)).toNat)] (AB (decide (letP (byt s k)))) := by
        rw [show (0 + (k : Int)).toNat = k by omega]; exact refLetter_spec _
      have hbk : byt s (0 + (k : Int)).toNat = byt s k := by rw [show (0 + (k : Int)).toNat = k by omega]
      cases digits with
      | true =>
        repeat' (first | refine gA pk ?_ | (show AL _ _ _ _ _ _ _; first | refine s_strIx tok rfl rfl rfl rfl rfl rfl rfl (by omega) (by omega) ?_ | (refine s_callB rfl rfl rfl rfl rfl (s1) (SubL.of_eq rfl) (fun hb => ?_) (fun hb => ?_) <;> (first | replace hb := of_decide_eq_true hb | replace hb := of_decide_eq_false hb | skip)) | (refine s_cmp rfl rfl rfl rfl rfl rfl rfl (fun hb => ?_) (fun hb => ?_) <;> simp only [cmpP] at hb)) | fail)
        · exact ⟨k + 1, stp h (by simpa [runP] using hb), by omega, by exact subQ, OSub.none _⟩
        · rw [hfin (fun _ => by simpa [runP] using hb)]
          refine finQ ?_
          exact ⟨rfl, rfl⟩
      | false =>
        repeat' (first | refine gA pk ?_ | (show AL _ _ _ _ _ _ _; first | refine s_strIx tok rfl rfl rfl rfl rfl rfl rfl (by omega) (by omega) ?_ | (refine s_callB rfl rfl rfl rfl rfl (s1) (SubL.of_eq rfl) (fun hb => ?_) (fun hb => ?_) <;> (first | replace hb := of_decide_eq_true hb | replace hb := of_decide_eq_false hb | skip)) | (refine s_callB rfl rfl rfl rfl rfl (s2) (SubL.of_eq rfl) (fun hb => ?_) (fun hb => ?_) <;> (first | replace hb := of_decide_eq_true hb | replace hb := of_decide_eq_false hb | skip)) | (refine s_cmp rfl rfl rfl rfl rfl rfl rfl (fun hb => ?_) (fun hb => ?_) <;> simp only [cmpP] at hb)) | fail)
        all_goals first
          | exact ⟨k + 1, stp h (by simp only [runP, parP, Bool.false_eq_true, if_false]; simp_all), by omega, by exact subQ, OSub.none _⟩
          | (rw [hfin (fun _ => by simp only [runP, parP, Bool.false_eq_true, if_false]; simp_all)]
             (refine finQ ?_)
             exact ⟨rfl, rfl⟩)
    · obtain rfl : k = s.size := by omega
      repeat (first | refine gA pk ?_)
      rw [hfin (fun h => by omega)]
      refine finQ ?_
      exact ⟨rfl, rfl⟩
theorem refQuoted_spec (s : ByteArray) (hs : s.size ≤ 1000000) : ACalls Tryz.prog 140 [AS s, AI 0] [] (fun y L => (∃ n : Nat, (n = 0 ∨ (2 ≤ n ∧ n ≤ s.size)) ∧ y = AI n) ∧ L = []) := by
  refine a_enter Tryz.func140 (by kernel_rfl) rfl Tryz.ntmps140 rfl (by simp) ?_
  repeat (first | refine gA pk ?_)
  refine a_loopX (fun k : Nat => [(0, AS s), (1, AI 0), (5, AI k)]) (fun _ => []) (fun k => 1 ≤ k ∧ k ≤ s.size + 1) (fun k => s.size - k) 1 ⟨Nat.le_refl _, by omega⟩ ?_ (OSub.refl _) ?_
  · exact subQ
  · rintro k ⟨hk, hk'⟩
    rcases Nat.lt_or_ge k s.size with h | h
    · have hr := byt_rng s (0 + (k : Int)).toNat
      repeat' (first | refine gA pk ?_ | (show AL _ _ _ _ _ _ _; first | refine s_strIx tok rfl rfl rfl rfl rfl rfl rfl (by omega) (by omega) ?_ | (refine s_cmp rfl rfl rfl rfl rfl rfl rfl (fun hb => ?_) (fun hb => ?_) <;> simp only [cmpP] at hb)) | fail)
      all_goals first
        | exact ⟨k + 1, by omega, by omega, by exact subQ, OSub.none _⟩
        | ((refine finQ ?_); exact ⟨⟨k + 1, by omega, rfl⟩, rfl⟩)
        | ((refine finQ ?_); exact ⟨⟨0, by omega, rfl⟩, rfl⟩)
    · repeat (first | refine gA pk ?_)
      refine finQ ?_
      exact ⟨⟨0, by omega, rfl⟩, rfl⟩
def signL : List ByteArray := [⟨#[45, 62]⟩, ⟨#[60, 61]⟩, ⟨#[62, 61]⟩, ⟨#[61, 61]⟩, ⟨#[33, 61]⟩, ⟨#[123]⟩, ⟨#[125]⟩, ⟨#[40]⟩, ⟨#[41]⟩, ⟨#[91]⟩, ⟨#[93]⟩, ⟨#[44]⟩, ⟨#[59]⟩, ⟨#[58]⟩, ⟨#[61]⟩, ⟨#[43]⟩, ⟨#[45]⟩, ⟨#[42]⟩, ⟨#[60]⟩, ⟨#[62]⟩, ⟨#[33]⟩, ⟨#[38]⟩, ⟨#[124]⟩, ⟨#[46]⟩, ⟨#[63]⟩]
theorem signs_spec : Pure Tryz.prog 141 [] (strsA signL) := by
  refine a_enter Tryz.func141 (by kernel_rfl) rfl Tryz.ntmps141 rfl (by simp) ?_
  repeat (first | refine gA pk ?_ | (show AL _ _ _ _ _ _ _; first | refine s_build tok rfl rfl rfl rfl rfl rfl rfl rfl (by decide) (by decide) (fun u => ?_)))
  exact finF 0 (x := .lit _) (.inr rfl) rfl rfl FZ.here ⟨rfl, rfl⟩
end Go.Proofs.YtcacbdohlfljfaaGreat
