/- Parts of a proof. -/
import Derived.Test.YtimfponihbfimaaGreatP16
set_option linter.unusedVariables false
set_option linter.unusedSimpArgs false
section
namespace Go.Proofs.YtimfponihbfimaaGreat
open Go.Sj Go.Sj.Typ
set_option maxRecDepth 8000
set_option maxHeartbeats 4000000
theorem quoted1_spec (c : Int) : Pure Tryz.prog 220 [A8 c] (AB (decide (32 ≤ c ∧ c ≤ 126 ∧ c ≠ 34))) := by
  refine zen Tryz.func220 (by kernel_rfl) rfl Tryz.ntmps220 rfl (by simp) ?_
  repeat' (first | refine gA pk ?_ | (show AL _ _ _ _ _ _ _; first | (refine s_cmp rfl rfl rfl rfl rfl rfl rfl (fun hb => ?_) (fun hb => ?_) <;> simp only [cmpP] at hb)) | fail)
  all_goals first | ((refine finQ ?_); exact ⟨ABt (by omega), rfl⟩) | ((refine finQ ?_); exact ⟨ABf (by omega), rfl⟩)
theorem quoted_spec (s : ByteArray) (h0 : 0 < s.size) (hs : s.size ≤ 1000000) : ∃ n e : Int, Pure Tryz.prog 216 [AS s] (.tup [AI n, AI e]) := by
  have hsz : (s.extract 1 s.size).size = s.size - 1 := size_extract (by omega) (Nat.le_refl _)
  have hr := run_spec (s.extract 1 s.size) (by omega) 220 (fun c => decide (32 ≤ c ∧ c ≤ 126 ∧ c ≠ 34)) (fun c _ _ => quoted1_spec c)
  have hle := runS_le (fun c => decide (32 ≤ c ∧ c ≤ 126 ∧ c ≠ 34)) (s.extract 1 s.size)
  generalize runS (fun c => decide (32 ≤ c ∧ c ≤ 126 ∧ c ≠ 34)) (s.extract 1 s.size) = n at *
  have he : (1 + (n : Int) = s.size) ∨ (1 + (n : Int) < s.size) := by omega
  rcases he with he | he
  · refine ⟨0, 2, ?_⟩
    refine zen Tryz.func216 (by kernel_rfl) rfl Tryz.ntmps216 rfl (by simp) ?_
    repeat' (first | refine gA pk ?_ | (show AL _ _ _ _ _ _ _; first | refine s_strSub tok 1 s.size rfl rfl rfl rfl rfl rfl (by exact ⟨_, rfl⟩) (by exact rfl) (by omega) (by omega) ?_ | refine jP hr ?_ | refine s_strIx tok rfl rfl rfl rfl rfl rfl rfl (by omega) (by omega) ?_ | (refine s_cmp rfl rfl rfl rfl rfl rfl rfl (fun hb => ?_) (fun hb => ?_) <;> simp only [cmpP] at hb)) | fail)
    all_goals (refine finQ ?_)
    all_goals exact ⟨rfl, rfl⟩
  · by_cases hb : byt s (1 + n) = 34
    · by_cases hn : 60 < n
      · refine ⟨0, 3, ?_⟩
        rw [show 1 + n = (1 + (n : Int)).toNat by omega] at hb
        refine zen Tryz.func216 (by kernel_rfl) rfl Tryz.ntmps216 rfl (by simp) ?_
        repeat (first | refine gA pk ?_ | (show AL _ _ _ _ _ _ _; first | refine s_strSub tok 1 s.size rfl rfl rfl rfl rfl rfl (by exact ⟨_, rfl⟩) (by exact rfl) (by omega) (by omega) ?_ | refine jP hr ?_ | refine s_strIx tok rfl rfl rfl rfl rfl rfl rfl (by omega) (by omega) ?_))
        refine finQ ?_
        exact ⟨rfl, rfl⟩
      · refine ⟨n + 2, 0, ?_⟩
        rw [show 1 + n = (1 + (n : Int)).toNat by omega] at hb
        refine zen Tryz.func216 (by kernel_rfl) rfl Tryz.ntmps216 rfl (by simp) ?_
        repeat (first | refine gA pk ?_ | (show AL _ _ _ _ _ _ _; first | refine s_strSub tok 1 s.size rfl rfl rfl rfl rfl rfl (by exact ⟨_, rfl⟩) (by exact rfl) (by omega) (by omega) ?_ | refine jP hr ?_ | refine s_strIx tok rfl rfl rfl rfl rfl rfl rfl (by omega) (by omega) ?_))
        refine finQ ?_
        exact ⟨rfl, rfl⟩
    · refine ⟨0, 2, ?_⟩
      rw [show 1 + n = (1 + (n : Int)).toNat by omega] at hb
      refine zen Tryz.func216 (by kernel_rfl) rfl Tryz.ntmps216 rfl (by simp) ?_
      repeat (first | refine gA pk ?_ | (show AL _ _ _ _ _ _ _; first | refine s_strSub tok 1 s.size rfl rfl rfl rfl rfl rfl (by exact ⟨_, rfl⟩) (by exact rfl) (by omega) (by omega) ?_ | refine jP hr ?_ | refine s_strIx tok rfl rfl rfl rfl rfl rfl rfl (by omega) (by omega) ?_))
      refine finQ ?_
      exact ⟨rfl, rfl⟩
def idxS (l : List ByteArray) (v : ByteArray) : Int := match l.findIdx? (fun x => decide (v = x)) with | some i => i | none => -1
theorem idxS_pos (l : List ByteArray) (v : ByteArray) : (v ∈ l ∧ 0 ≤ idxS l v) ∨ (v ∉ l ∧ idxS l v = -1) := by
  unfold idxS
  by_cases h : v ∈ l
  · left
    refine ⟨h, ?_⟩
    cases hf : l.findIdx? (fun x => decide (v = x)) with
    | none =>
      rw [List.findIdx?_eq_none_iff] at hf
      have := hf v h
      simp at this
    | some i => simp only; omega
  · right
    refine ⟨h, ?_⟩
    rw [show l.findIdx? (fun x => decide (v = x)) = none from by
      rw [List.findIdx?_eq_none_iff]
      intro x hx
      simp only [decide_eq_false_iff_not]
      rintro rfl
      exact h hx]
theorem idxS_at {l : List ByteArray} {v : ByteArray} {k : Nat} (h : ∀ x ∈ l.take k, v ≠ x) (hk : l[k]? = some v) : idxS l v = k := by
  have : l.findIdx? (fun x => decide (v = x)) = some k := by
    rw [List.findIdx?_eq_some_iff_getElem]
    obtain ⟨hlt, he⟩ := List.getElem?_eq_some_iff.1 hk
    refine ⟨hlt, by simp [he], fun j hj => ?_⟩
    have := h l[j] (by rw [List.mem_take_iff_getElem]; exact ⟨j, by omega, rfl⟩)
    simpa using this
  unfold idxS
  rw [this]
theorem IndexS_spec (l : List ByteArray) (hl : l.length ≤ 1000000) (v : ByteArray) : Pure Tryz.prog 219 [strsA l, AS v] (AI (idxS l v)) := by
  have ll : (l.map cS).length = l.length := by simp
  refine zen Tryz.func219 (by kernel_rfl) rfl Tryz.ntmps219 rfl (by simp) ?_
  repeat (first | refine gA pk ?_)
  rw [ll]
  refine zlx (fun k : Nat => [(0, strsA l), (1, AS v), (7, AI l.length), (8, AI k)]) (fun _ => []) (fun k => k ≤ l.length ∧ ∀ x ∈ l.take k, v ≠ x) (fun k => l.length - k) 0 ⟨Nat.zero_le _, by simp⟩ ?_ (OSub.refl _) ?_
  · exact subQ
  · rintro k ⟨hk, hp⟩
    rcases Nat.lt_or_ge k l.length with h | h
    · have hx := List.getElem?_eq_getElem h
      have ht := List.take_succ_eq_append_getElem h
      generalize l[k] = y at hx ht
      have xk : (l.map cS)[(k : Int).toNat]? = some [AS y] := zmp hx
      repeat' (first | refine gA pk ?_ | (show AL _ _ _ _ _ _ _; first | refine jX tok xk ?_ | refine s_strEqB rfl rfl rfl rfl rfl rfl (fun hb => ?_) (fun hb => ?_) | (refine s_cmp rfl rfl rfl rfl rfl rfl rfl (fun hb => ?_) (fun hb => ?_) <;> simp only [cmpP] at hb)) | fail)
      · subst hb
        rw [← idxS_at hp hx]
        refine finQ ?_
        exact ⟨rfl, rfl⟩
      · refine ⟨k + 1, ⟨by omega, fun x hx' => ?_⟩, by omega, ?_, OSub.none _⟩
        · rw [ht] at hx'
          rcases List.mem_append.1 hx' with h1 | h1
          · exact hp x h1
          · obtain rfl := List.mem_singleton.1 h1
            exact hb
        · exact subQ
    · obtain rfl : k = l.length := by omega
      rw [List.take_length] at hp
      repeat (first | refine gA pk ?_)
      rw [show (-1 : Int) = idxS l v from by
        rcases idxS_pos l v with ⟨h1, _⟩ | ⟨_, h2⟩
        · exact absurd rfl (hp v h1)
        · exact h2.symm]
      refine finQ ?_
      exact ⟨rfl, rfl⟩
theorem ContainsS_spec (l : List ByteArray) (hl : l.length ≤ 1000000) (v : ByteArray) : Pure Tryz.prog 211 [strsA l, AS v] (AB (decide (v ∈ l))) := by
  have h := IndexS_spec l hl v
  have hc := idxS_pos l v
  generalize idxS l v = i at *
  rcases hc with ⟨h1, h2⟩ | ⟨h1, h2⟩
  · rw [decide_eq_true h1]
    refine zen Tryz.func211 (by kernel_rfl) rfl Tryz.ntmps211 rfl (by simp) ?_
    repeat (first | refine gA pk ?_ | (show AL _ _ _ _ _ _ _; first | refine jP h ?_))
    refine finQ ?_
    exact ⟨rfl, rfl⟩
  · rw [decide_eq_false h1]
    refine zen Tryz.func211 (by kernel_rfl) rfl Tryz.ntmps211 rfl (by simp) ?_
    repeat (first | refine gA pk ?_ | (show AL _ _ _ _ _ _ _; first | refine jP h ?_))
    refine finQ ?_
    exact ⟨rfl, rfl⟩
theorem pair_spec (s : ByteArray) (hs : s.size ≤ 1000000) : ∃ b : Bool, Pure Tryz.prog 217 [AS s] (AB b) := by
  have h := fun v => ContainsS_spec [⟨#[45, 62]⟩, ⟨#[60, 61]⟩, ⟨#[62, 61]⟩, ⟨#[61, 61]⟩, ⟨#[33, 61]⟩] (by decide) v
  by_cases h2 : 2 ≤ s.size
  · have h' := h (s.extract 0 2)
    generalize decide (s.extract 0 2 ∈ ([⟨#[45, 62]⟩, ⟨#[60, 61]⟩, ⟨#[62, 61]⟩, ⟨#[61, 61]⟩, ⟨#[33, 61]⟩] : List ByteArray)) = b at h'
    refine ⟨b, ?_⟩
    have h3 : ∀ u : Value, ACalls Tryz.prog 211 [.lit u, AS (s.extract 0 2)] [(u, .row 9 1 (([⟨#[45, 62]⟩, ⟨#[60, 61]⟩, ⟨#[62, 61]⟩, ⟨#[61, 61]⟩, ⟨#[33, 61]⟩] : List ByteArray).map cS))] (fun y M => y = AB b ∧ M = []) := fun u => ACalls.give h' trivial ⟨FZ.here, FZ.refl _, trivial⟩
    refine zen Tryz.func217 (by kernel_rfl) rfl Tryz.ntmps217 rfl (by simp) ?_
    repeat (first | refine gA pk ?_ | (show AL _ _ _ _ _ _ _; first | refine s_strSub tok 0 2 rfl rfl rfl rfl rfl rfl (by exact rfl) (by exact ⟨_, rfl⟩) (by omega) (by omega) ?_ | refine s_build tok rfl rfl rfl rfl rfl rfl rfl rfl (by decide) (by decide) (fun u => ?_)))
    refine s_callO 0 rfl rfl rfl rfl rfl rfl (h3 _) (SubL.of_eq rfl) ?_
    rintro _ _ ⟨rfl, rfl⟩
    repeat (first | refine gA pk ?_)
    refine finQ ?_
    exact ⟨rfl, rfl⟩
  · refine ⟨false, ?_⟩
    refine zen Tryz.func217 (by kernel_rfl) rfl Tryz.ntmps217 rfl (by simp) ?_
    repeat (first | refine gA pk ?_)
    refine finQ ?_
    exact ⟨rfl, rfl⟩
theorem IndexByte0_spec (s : ByteArray) (c : Int) : Pure Tryz.prog 221 [AS s, A8 c] (AI (firstIdx s c.toNat.toUInt8)) := by
  refine zen Tryz.func221 (by kernel_rfl) rfl Tryz.ntmps221 rfl (by simp) ?_
  repeat (first | refine gA pk ?_ | (show AL _ _ _ _ _ _ _; first | refine s_indexByte rfl rfl rfl rfl rfl Tryz.func222 (by kernel_rfl) rfl rfl rfl rfl rfl ?_))
  refine finQ ?_
  exact ⟨rfl, rfl⟩
theorem IndexByte_spec (s : ByteArray) (c : Int) : Pure Tryz.prog 218 [AS s, A8 c] (AI (firstIdx s c.toNat.toUInt8)) := by
  have h := IndexByte0_spec s c
  refine zen Tryz.func218 (by kernel_rfl) rfl Tryz.ntmps218 rfl (by simp) ?_
  repeat (first | refine gA pk ?_ | (show AL _ _ _ _ _ _ _; first | refine jP h ?_))
  refine finQ ?_
  exact ⟨rfl, rfl⟩
theorem next_spec (s : ByteArray) (h0 : 0 < s.size) (hs : s.size ≤ 1000000) : ∃ k n e : Int, Pure Tryz.prog 209 [AS s] (.tup [AI k, AI n, AI e]) ∧ ((e = 0 ∧ k = 1 ∧ n = s.size) ↔ nameB s = true) := by
  have s1 := letter_spec (byt s 0)
  have s2 := digit_spec (byt s 0)
  have s3 := run_spec s hs 214 (fun c => decide (parP c)) (fun c _ _ => part_spec c)
  have s4 := run_spec s hs 215 (fun c => decide (digP c)) (fun c _ _ => digit_spec c)
  obtain ⟨qn, qe, s5⟩ := quoted_spec s h0 hs
  obtain ⟨pb, s6⟩ := pair_spec s hs
  have s7 := IndexByte_spec ⟨#[123, 125, 40, 41, 91, 93, 44, 59, 58, 61, 43, 45, 42, 60, 62, 33, 38, 124, 46, 63]⟩ (byt s 0)
  generalize firstIdx _ _ = ib at s7
  have e0 : byt s 0 = byt s (0 : Int).toNat := rfl
  by_cases hL : letP (byt s 0)
  · rw [decide_eq_true hL] at s1
    have hall := runL_all (fun c => decide (parP c)) s.data.toList
    have hnm : nameB s = true ↔ (s.size ≤ 20 ∧ runS (fun c => decide (parP c)) s = s.size) := by
      unfold nameB runS
      rw [size_list]
      rw [hall, Bool.and_eq_true, decide_eq_true_eq]
      constructor
      · rintro ⟨⟨_, a2, _⟩, a4⟩; exact ⟨a2, a4⟩
      · rintro ⟨a2, a4⟩; exact ⟨⟨by rw [← size_list]; omega, a2, hL⟩, a4⟩
    have hle := runS_le (fun c => decide (parP c)) s
    generalize runS (fun c => decide (parP c)) s = n at *
    by_cases hn : 20 < n
    · refine ⟨0, 0, 3, ?_, ?_⟩
      · rw [e0] at s1
        refine zen Tryz.func209 (by kernel_rfl) rfl Tryz.ntmps209 rfl (by simp) ?_
        repeat (first | refine gA pk ?_ | (show AL _ _ _ _ _ _ _; first | refine s_strIx tok rfl rfl rfl rfl rfl rfl rfl (by omega) (by omega) ?_ | refine jP s1 ?_ | refine jP s3 ?_))
        refine finQ ?_
        exact ⟨rfl, rfl⟩
      · rw [hnm]
        constructor
        · rintro ⟨h, _⟩; omega
        · rintro ⟨h1, h2⟩; omega
    · refine ⟨1, n, 0, ?_, ?_⟩
      · rw [e0] at s1
        refine zen Tryz.func209 (by kernel_rfl) rfl Tryz.ntmps209 rfl (by simp) ?_
        repeat (first | refine gA pk ?_ | (show AL _ _ _ _ _ _ _; first | refine s_strIx tok rfl rfl rfl rfl rfl rfl rfl (by omega) (by omega) ?_ | refine jP s1 ?_ | refine jP s3 ?_))
        refine finQ ?_
        exact ⟨rfl, rfl⟩
      · rw [hnm]
        constructor
        · rintro ⟨_, _, h⟩; exact ⟨by omega, by omega⟩
        · rintro ⟨h1, h2⟩; exact ⟨rfl, rfl, by omega⟩
  · have hnm : nameB s = false := by
      unfold nameB
      rw [decide_eq_false (fun h => hL h.2.2)]
      rfl
    have key : ∃ k n e : Int, k ≠ 1 ∧ Pure Tryz.prog 209 [AS s] (.tup [AI k, AI n, AI e]) := by
      rw [decide_eq_false hL, e0] at s1
      rw [e0] at s7
      by_cases hD : digP (byt s 0)
      · rw [decide_eq_true hD, e0] at s2
        generalize runS (fun c => decide (digP c)) s = n at *
        by_cases hn : 9 < n
        · refine ⟨0, 0, 3, by decide, ?_⟩
          refine zen Tryz.func209 (by kernel_rfl) rfl Tryz.ntmps209 rfl (by simp) ?_
          repeat (first | refine gA pk ?_ | (show AL _ _ _ _ _ _ _; first | refine s_strIx tok rfl rfl rfl rfl rfl rfl rfl (by omega) (by omega) ?_ | refine jP s1 ?_ | refine jP s2 ?_ | refine jP s4 ?_))
          refine finQ ?_
          exact ⟨rfl, rfl⟩
        · refine ⟨2, n, 0, by decide, ?_⟩
          refine zen Tryz.func209 (by kernel_rfl) rfl Tryz.ntmps209 rfl (by simp) ?_
          repeat (first | refine gA pk ?_ | (show AL _ _ _ _ _ _ _; first | refine s_strIx tok rfl rfl rfl rfl rfl rfl rfl (by omega) (by omega) ?_ | refine jP s1 ?_ | refine jP s2 ?_ | refine jP s4 ?_))
          refine finQ ?_
          exact ⟨rfl, rfl⟩
      · rw [decide_eq_false hD, e0] at s2
        by_cases hq : byt s (0 : Int).toNat = 34
        · refine ⟨3, qn, qe, by decide, ?_⟩
          refine zen Tryz.func209 (by kernel_rfl) rfl Tryz.ntmps209 rfl (by simp) ?_
          repeat (first | refine gA pk ?_ | (show AL _ _ _ _ _ _ _; first | refine s_strIx tok rfl rfl rfl rfl rfl rfl rfl (by omega) (by omega) ?_ | refine jP s1 ?_ | refine jP s2 ?_ | refine jP s5 ?_))
          refine finQ ?_
          exact ⟨rfl, rfl⟩
        · cases pb with
          | true =>
            refine ⟨4, 2, 0, by decide, ?_⟩
            refine zen Tryz.func209 (by kernel_rfl) rfl Tryz.ntmps209 rfl (by simp) ?_
            repeat (first | refine gA pk ?_ | (show AL _ _ _ _ _ _ _; first | refine s_strIx tok rfl rfl rfl rfl rfl rfl rfl (by omega) (by omega) ?_ | refine jP s1 ?_ | refine jP s2 ?_ | refine jP s6 ?_))
            refine finQ ?_
            exact ⟨rfl, rfl⟩
          | false =>
            by_cases hi : 0 ≤ ib
            · refine ⟨4, 1, 0, by decide, ?_⟩
              refine zen Tryz.func209 (by kernel_rfl) rfl Tryz.ntmps209 rfl (by simp) ?_
              repeat (first | refine gA pk ?_ | (show AL _ _ _ _ _ _ _; first | refine s_strIx tok rfl rfl rfl rfl rfl rfl rfl (by omega) (by omega) ?_ | refine jP s1 ?_ | refine jP s2 ?_ | refine jP s6 ?_ | refine jP s7 ?_))
              refine finQ ?_
              exact ⟨rfl, rfl⟩
            · refine ⟨0, 0, 2, by decide, ?_⟩
              refine zen Tryz.func209 (by kernel_rfl) rfl Tryz.ntmps209 rfl (by simp) ?_
              repeat (first | refine gA pk ?_ | (show AL _ _ _ _ _ _ _; first | refine s_strIx tok rfl rfl rfl rfl rfl rfl rfl (by omega) (by omega) ?_ | refine jP s1 ?_ | refine jP s2 ?_ | refine jP s6 ?_ | refine jP s7 ?_))
              refine finQ ?_
              exact ⟨rfl, rfl⟩
    obtain ⟨k, n, e, hk, hp⟩ := key
    refine ⟨k, n, e, hp, ?_⟩
    rw [hnm]
    constructor
    · rintro ⟨_, h, _⟩; exact absurd h hk
    · intro h; cases h
theorem whole_spec (s : ByteArray) (hs : s.size ≤ 1000000) : ∃ t, Pure Tryz.prog 197 [.agg [AI 1, AS s, AI 0]] (.tup [AS t, AB (nameB s)]) := by
  by_cases h0 : s.size = 0
  · have he : s = ⟨#[]⟩ := by
      cases s with | mk d =>
      congr
      exact Array.eq_empty_of_size_eq_zero h0
    subst he
    refine ⟨⟨#[]⟩, ?_⟩
    rw [show nameB ⟨#[]⟩ = false from by decide]
    refine zen Tryz.func197 (by kernel_rfl) rfl Tryz.ntmps197 rfl (by simp) ?_; refine a_seq ?_; refine a_reg ?_; (repeat (first | refine gZ pk ?_ | (show AL _ _ _ _ _ _ _; first | refine jB (fun u => ?_)))); refine zfb 0 1 rfl rfl ?_
    repeat (first | refine gA pk ?_ | (show AL _ _ _ _ _ _ _; first | refine s_strEqT rfl rfl rfl rfl rfl rfl (by first | rfl | assumption) ?_))
    refine finQ ?_
    exact ⟨rfl, rfl⟩
  · obtain ⟨k, n, e, h1, h2⟩ := next_spec s (by omega) hs
    have hne : s ≠ ⟨#[]⟩ := by rintro rfl; exact h0 rfl
    refine ⟨s, ?_⟩
    cases hb : nameB s with
    | true =>
      rw [hb] at h2
      obtain ⟨rfl, rfl, rfl⟩ := h2.2 rfl
      refine zen Tryz.func197 (by kernel_rfl) rfl Tryz.ntmps197 rfl (by simp) ?_; refine a_seq ?_; refine a_reg ?_; (repeat (first | refine gZ pk ?_ | (show AL _ _ _ _ _ _ _; first | refine jB (fun u => ?_)))); refine zfb 0 1 rfl rfl ?_
      repeat (first | refine gA pk ?_ | (show AL _ _ _ _ _ _ _; first | refine s_strEqF rfl rfl rfl rfl rfl rfl (by assumption) ?_ | refine jP h1 ?_))
      refine finQ ?_
      exact ⟨rfl, rfl⟩
    | false =>
      rw [hb] at h2
      have h3 : ¬ (e = 0 ∧ k = 1 ∧ n = s.size) := fun h => by cases h2.1 h
      refine zen Tryz.func197 (by kernel_rfl) rfl Tryz.ntmps197 rfl (by simp) ?_; refine a_seq ?_; refine a_reg ?_; (repeat (first | refine gZ pk ?_ | (show AL _ _ _ _ _ _ _; first | refine jB (fun u => ?_)))); refine zfb 0 1 rfl rfl ?_
      repeat' (first | refine gA pk ?_ | (show AL _ _ _ _ _ _ _; first | refine s_strEqF rfl rfl rfl rfl rfl rfl (by assumption) ?_ | refine jP h1 ?_ | (refine s_cmp rfl rfl rfl rfl rfl rfl rfl (fun hb => ?_) (fun hb => ?_) <;> simp only [cmpP] at hb)) | fail)
      all_goals first | (exfalso; exact h3 ⟨by omega, by omega, by omega⟩) | skip
      all_goals refine finQ ?_
      all_goals exact ⟨rfl, rfl⟩
theorem IsName_spec (s : ByteArray) (hs : s.size ≤ 1000000) : Pure Tryz.prog 182 [AS s] (AB (nameB s)) := by
  obtain ⟨t, h⟩ := whole_spec s hs
  generalize nameB s = b at *
  refine zen Tryz.func182 (by kernel_rfl) rfl Tryz.ntmps182 rfl (by simp) ?_
  repeat (first | refine gA pk ?_ | (show AL _ _ _ _ _ _ _; first | refine jP h ?_))
  refine finQ ?_
  exact ⟨rfl, rfl⟩
end Go.Proofs.YtimfponihbfimaaGreat
end
