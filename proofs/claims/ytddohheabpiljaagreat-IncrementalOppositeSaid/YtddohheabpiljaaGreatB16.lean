/-
  Parts of the proof of the law IncrementalOpposite (texts Y1, Y2): steps, plain mathematics, contracts of functions. Each theorem states its own conditions.
-/
import Derived.Test.YtddohheabpiljaaGreatB09
import Derived.Test.YtddohheabpiljaaGreatB10
import Derived.Test.YtddohheabpiljaaGreatB11
section
/-
  Letters, digits, parts of names: the walks of the program and of the reference.
-/
namespace Go.Proofs.YtddohheabpiljaaGreat
open Go.Sj Go.Sj.Typ
set_option maxRecDepth 8000
set_option linter.unusedVariables false
set_option maxHeartbeats 4000000
theorem letter_spec (c : Int) : Pure Tryz.prog 185 [A8 c] (AB (decide (letP c))) := by
  unfold letP
  refine a_enter Tryz.func185 (by kernel_rfl) rfl Tryz.ntmps185 rfl (by simp) ?_
  repeat' (first | refine gA pk ?_ | (show AL _ _ _ _ _ _ _; first | (refine s_cmp rfl rfl rfl rfl rfl rfl rfl (fun hb => ?_) (fun hb => ?_) <;> simp only [cmpP] at hb)) | fail)
  all_goals first | ((refine finQ ?_); exact ⟨ABt (by omega), rfl⟩) | ((refine finQ ?_); exact ⟨ABf (by omega), rfl⟩)
theorem digit_spec (c : Int) : Pure Tryz.prog 188 [A8 c] (AB (decide (digP c))) := by
  unfold digP
  refine a_enter Tryz.func188 (by kernel_rfl) rfl Tryz.ntmps188 rfl (by simp) ?_
  repeat' (first | refine gA pk ?_ | (show AL _ _ _ _ _ _ _; first | (refine s_cmp rfl rfl rfl rfl rfl rfl rfl (fun hb => ?_) (fun hb => ?_) <;> simp only [cmpP] at hb)) | fail)
  all_goals first | ((refine finQ ?_); exact ⟨ABt (by omega), rfl⟩) | ((refine finQ ?_); exact ⟨ABf (by omega), rfl⟩)
theorem part_spec (c : Int) : Pure Tryz.prog 187 [A8 c] (AB (decide (parP c))) := by
  have h1 := letter_spec c
  have h2 := digit_spec c
  unfold parP
  unfold letP digP at *
  refine a_enter Tryz.func187 (by kernel_rfl) rfl Tryz.ntmps187 rfl (by simp) ?_
  repeat' (first | refine gA pk ?_ | (show AL _ _ _ _ _ _ _; first | (refine s_callB rfl rfl rfl rfl rfl (h1) (SubL.of_eq rfl) (fun hb => ?_) (fun hb => ?_) <;> (first | replace hb := of_decide_eq_true hb | replace hb := of_decide_eq_false hb | skip)) | (refine s_callB rfl rfl rfl rfl rfl (h2) (SubL.of_eq rfl) (fun hb => ?_) (fun hb => ?_) <;> (first | replace hb := of_decide_eq_true hb | replace hb := of_decide_eq_false hb | skip)) | (refine s_cmp rfl rfl rfl rfl rfl rfl rfl (fun hb => ?_) (fun hb => ?_) <;> simp only [cmpP] at hb)) | fail)
  all_goals first | ((refine finQ ?_); exact ⟨ABt (by omega), rfl⟩) | ((refine finQ ?_); exact ⟨ABf (by omega), rfl⟩)
end Go.Proofs.YtddohheabpiljaaGreat

end
section
/-
  Names, by the program: the walks.
-/
namespace Go.Proofs.YtddohheabpiljaaGreat
open Go.Sj Go.Sj.Typ
set_option maxRecDepth 8000
set_option linter.unusedVariables false
set_option maxHeartbeats 4000000

/-- How many bytes from a place on satisfy something. -/
def runL (p : Int → Bool) : List UInt8 → Nat
  | [] => 0
  | b :: l => if p b.toNat then runL p l + 1 else 0
theorem runL_le (p : Int → Bool) : ∀ l, runL p l ≤ l.length
  | [] => Nat.le_refl _
  | b :: l => by
    unfold runL
    have := runL_le p l
    split <;> simp only [List.length_cons] <;> omega
theorem runL_all (p : Int → Bool) : ∀ l : List UInt8, runL p l = l.length ↔ l.all (fun b => p b.toNat) = true
  | [] => by simp [runL]
  | b :: l => by
    have ih := runL_all p l
    have := runL_le p l
    unfold runL
    by_cases h : p b.toNat = true
    · simp [h, ← ih]
    · simp [h]
/-- A run goes on as long as the bytes do. -/
theorem runL_of (p : Int → Bool) : ∀ (l : List UInt8) (n : Nat), n ≤ l.length → (∀ i, i < n → p (l.getD i 0).toNat = true) → (n < l.length → p (l.getD n 0).toNat = false) → runL p l = n
  | [], n, h, _, _ => by simp at h; subst h; rfl
  | b :: l, 0, _, _, h => by
    have := h (by simp)
    simp at this
    simp [runL, this]
  | b :: l, n + 1, hn, h1, h2 => by
    have h0 := h1 0 (by omega)
    simp at h0
    have := runL_of p l n (by simpa using hn) (fun i hi => by have := h1 (i + 1) (by omega); simpa using this) (fun hlt => by have := h2 (by simpa using hlt); simpa using this)
    simp [runL, h0, this]
def runS (p : Int → Bool) (s : ByteArray) : Nat := runL p s.data.toList
theorem runS_le (p : Int → Bool) (s : ByteArray) : runS p s ≤ s.size := by
  have := runL_le p s.data.toList
  rw [size_list]; exact this
theorem run_spec (s : ByteArray) (hs : s.size ≤ 1000000) (g : FuncId) (p : Int → Bool) (hg : ∀ c, 0 ≤ c → c ≤ 255 → Pure Tryz.prog g [A8 c] (AB (p c))) : Pure Tryz.prog 186 [AS s, .fn (.func g) [] []] (AI (runS p s)) := by
  refine a_enter Tryz.func186 (by kernel_rfl) rfl Tryz.ntmps186 rfl (by simp) ?_
  repeat (first | refine gA pk ?_)
  refine a_loopX (fun k : Nat => [(0, AS s), (1, .fn (.func g) [] []), (5, AI k)]) (fun _ => []) (fun k => k ≤ s.size ∧ ∀ i, i < k → p (byt s i) = true) (fun k => s.size - k) 0 ⟨Nat.zero_le _, fun i hi => by omega⟩ ?_ (OSub.refl _) ?_
  · exact subQ
  · rintro k ⟨hk, hp⟩
    rcases Nat.lt_or_ge k s.size with h | h
    · have hr := byt_rng s k
      have hc := hg (byt s k) hr.1 hr.2
      rw [show byt s k = byt s (k : Int).toNat by simp] at hc
      cases hpk : p (byt s k) with
      | true =>
        rw [show byt s (k : Int).toNat = byt s k by simp, hpk] at hc
        repeat (first | refine gA pk ?_ | (show AL _ _ _ _ _ _ _; first | refine s_strIx tok rfl rfl rfl rfl rfl rfl rfl (by omega) (by omega) ?_ | refine jP hc ?_))
        refine ⟨k + 1, ⟨by omega, fun i hi => ?_⟩, by omega, ?_, OSub.none _⟩
        · rcases Nat.lt_or_ge i k with h1 | h1
          · exact hp i h1
          · obtain rfl : i = k := by omega
            exact hpk
        · exact subQ
      | false =>
        rw [show byt s (k : Int).toNat = byt s k by simp, hpk] at hc
        repeat (first | refine gA pk ?_ | (show AL _ _ _ _ _ _ _; first | refine s_strIx tok rfl rfl rfl rfl rfl rfl rfl (by omega) (by omega) ?_ | refine jP hc ?_))
        rw [show k = runS p s from (runL_of p s.data.toList k (by rw [← size_list]; omega) (fun i hi => hp i hi) (fun _ => hpk)).symm]
        refine finQ ?_
        exact ⟨rfl, rfl⟩
    · obtain rfl : k = s.size := by omega
      repeat (first | refine gA pk ?_)
      rw [show s.size = runS p s from (runL_of p s.data.toList s.size (by rw [← size_list]; omega) (fun i hi => hp i hi) (fun h => by rw [← size_list] at h; omega)).symm]
      refine finQ ?_
      exact ⟨rfl, rfl⟩
end Go.Proofs.YtddohheabpiljaaGreat

end
