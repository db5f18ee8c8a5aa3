/- Parts of a proof. -/
import Derived.Test.YtddohheabpiljaaGreatU13
set_option linter.unusedVariables false
set_option linter.unusedSimpArgs false
section
namespace Go.Proofs.YtddohheabpiljaaGreat
open Go.Sj Go.Sj.Typ
set_option maxRecDepth 8000
set_option maxHeartbeats 4000000
theorem quoted1_spec (c : Int) : Pure Tryz.prog 194 [A8 c] (AB (decide (32 ≤ c ∧ c ≤ 126 ∧ c ≠ 34))) := by
  refine zen Tryz.func194 (by kernel_rfl) rfl Tryz.ntmps194 rfl (by simp) ?_
  repeat' (first | refine gA pk ?_ | (show AL _ _ _ _ _ _ _; first | (refine s_cmp rfl rfl rfl rfl rfl rfl rfl (fun hb => ?_) (fun hb => ?_) <;> simp only [cmpP] at hb)) | fail)
  all_goals first | ((refine finQ ?_); exact ⟨ABt (by omega), rfl⟩) | ((refine finQ ?_); exact ⟨ABf (by omega), rfl⟩)
theorem quoted_spec (s : ByteArray) (h0 : 0 < s.size) (hs : s.size ≤ 1000000) : ∃ n e : Int, Pure Tryz.prog 189 [AS s] (.tup [AI n, AI e]) := by
  have hsz : (s.extract 1 s.size).size = s.size - 1 := size_extract (by omega) (Nat.le_refl _)
  have hr := run_spec (s.extract 1 s.size) (by omega) 194 (fun c => decide (32 ≤ c ∧ c ≤ 126 ∧ c ≠ 34)) (fun c _ _ => quoted1_spec c)
  have hle := runS_le (fun c => decide (32 ≤ c ∧ c ≤ 126 ∧ c ≠ 34)) (s.extract 1 s.size)
  generalize runS (fun c => decide (32 ≤ c ∧ c ≤ 126 ∧ c ≠ 34)) (s.extract 1 s.size) = n at *
  have he : (1 + (n : Int) = s.size) ∨ (1 + (n : Int) < s.size) := by omega
  rcases he with he | he
  · refine ⟨0, 2, ?_⟩
    refine zen Tryz.func189 (by kernel_rfl) rfl Tryz.ntmps189 rfl (by simp) ?_
    repeat' (first | refine gA pk ?_ | (show AL _ _ _ _ _ _ _; first | refine s_strSub tok 1 s.size rfl rfl rfl rfl rfl rfl (by exact ⟨_, rfl⟩) (by exact rfl) (by omega) (by omega) ?_ | refine jP hr ?_ | refine s_strIx tok rfl rfl rfl rfl rfl rfl rfl (by omega) (by omega) ?_ | (refine s_cmp rfl rfl rfl rfl rfl rfl rfl (fun hb => ?_) (fun hb => ?_) <;> simp only [cmpP] at hb)) | fail)
    all_goals (refine finQ ?_)
    all_goals exact ⟨rfl, rfl⟩
  · by_cases hb : byt s (1 + n) = 34
    · by_cases hn : 60 < n
      · refine ⟨0, 3, ?_⟩
        rw [show 1 + n = (1 + (n : Int)).toNat by omega] at hb
        refine zen Tryz.func189 (by kernel_rfl) rfl Tryz.ntmps189 rfl (by simp) ?_
        repeat (first | refine gA pk ?_ | (show AL _ _ _ _ _ _ _; first | refine s_strSub tok 1 s.size rfl rfl rfl rfl rfl rfl (by exact ⟨_, rfl⟩) (by exact rfl) (by omega) (by omega) ?_ | refine jP hr ?_ | refine s_strIx tok rfl rfl rfl rfl rfl rfl rfl (by omega) (by omega) ?_))
        refine finQ ?_
        exact ⟨rfl, rfl⟩
      · refine ⟨n + 2, 0, ?_⟩
        rw [show 1 + n = (1 + (n : Int)).toNat by omega] at hb
        refine zen Tryz.func189 (by kernel_rfl) rfl Tryz.ntmps189 rfl (by simp) ?_
        repeat (first | refine gA pk ?_ | (show AL _ _ _ _ _ _ _; first | refine s_strSub tok 1 s.size rfl rfl rfl rfl rfl rfl (by exact ⟨_, rfl⟩) (by exact rfl) (by omega) (by omega) ?_ | refine jP hr ?_ | refine s_strIx tok rfl rfl rfl rfl rfl rfl rfl (by omega) (by omega) ?_))
        refine finQ ?_
        exact ⟨rfl, rfl⟩
    · refine ⟨0, 2, ?_⟩
      rw [show 1 + n = (1 + (n : Int)).toNat by omega] at hb
      refine zen Tryz.func189 (by kernel_rfl) rfl Tryz.ntmps189 rfl (by simp) ?_
      repeat (first | refine gA pk ?_ | (show AL _ _ _ _ _ _ _; first | refine s_strSub tok 1 s.size rfl rfl rfl rfl rfl rfl (by exact ⟨_, rfl⟩) (by exact rfl) (by omega) (by omega) ?_ | refine jP hr ?_ | refine s_strIx tok rfl rfl rfl rfl rfl rfl rfl (by omega) (by omega) ?_))
      refine finQ ?_
      exact ⟨rfl, rfl⟩
def idxS (l : List ByteArray) (v : ByteArray) : Int := match l.findIdx? (fun x => decide (v = x)) with | some i => i | none => -1
theorem idxS_pos (l : List ByteArray) (v : ByteArray) : (v ∈ l ∧ 0 ≤ idxS l v) ∨ (v ∉ l ∧ idxS l v = -1) := by
  unfold idxS
  by_cases h : v ∈ l
  · left
    refine ⟨h, ?_⟩
    cases hf : l.findIdx? (fun x => decide (v = x)) with
    | none =>
      rw [List.findIdx?_eq_none_iff] at hf
      have := hf v h
      simp at this
    | some i => simp only; omega
  · right
    refine ⟨h, ?_⟩
    rw [show l.findIdx? (fun x => decide (v = x)) = none from by
      rw [List.findIdx?_eq_none_iff]
      intro x hx
      simp only [decide_eq_false_iff_not]
      rintro rfl
      exact h hx]
theorem idxS_at {l : List ByteArray} {v : ByteArray} {k : Nat} (h : ∀ x ∈ l.take k, v ≠ x) (hk : l[k]? = some v) : idxS l v = k := by
  have : l.findIdx? (fun x => decide (v = x)) = some k := by
    rw [List.findIdx?_eq_some_iff_getElem]
    obtain ⟨hlt, he⟩ := List.getElem?_eq_some_iff.1 hk
    refine ⟨hlt, by simp [he], fun j hj => ?_⟩
    have := h l[j] (by rw [List.mem_take_iff_getElem]; exact ⟨j, by omega, rfl⟩)
    simpa using this
  unfold idxS
  rw [this]
theorem IndexS_spec (l : List ByteArray) (hl : l.length ≤ 1000000) (v : ByteArray) : Pure Tryz.prog 192 [strsA l, AS v] (AI (idxS l v)) := by
  have ll : (l.map cS).length = l.length := by simp
  refine zen Tryz.func192 (by kernel_rfl) rfl Tryz.ntmps192 rfl (by simp) ?_
  repeat (first | refine gA pk ?_)
  rw [ll]
  refine zlx (fun k : Nat => [(0, strsA l), (1, AS v), (7, AI l.length), (8, AI k)]) (fun _ => []) (fun k => k ≤ l.length ∧ ∀ x ∈ l.take k, v ≠ x) (fun k => l.length - k) 0 ⟨Nat.zero_le _, by simp⟩ ?_ (OSub.refl _) ?_
  · exact subQ
  · rintro k ⟨hk, hp⟩
    rcases Nat.lt_or_ge k l.length with h | h
    · have hx := List.getElem?_eq_getElem h
      have ht := List.take_succ_eq_append_getElem h
      generalize l[k] = y at hx ht
      have xk : (l.map cS)[(k : Int).toNat]? = some [AS y] := zmp hx
      repeat' (first | refine gA pk ?_ | (show AL _ _ _ _ _ _ _; first | refine jX tok xk ?_ | refine s_strEqB rfl rfl rfl rfl rfl rfl (fun hb => ?_) (fun hb => ?_) | (refine s_cmp rfl rfl rfl rfl rfl rfl rfl (fun hb => ?_) (fun hb => ?_) <;> simp only [cmpP] at hb)) | fail)
      · subst hb
        rw [← idxS_at hp hx]
        refine finQ ?_
        exact ⟨rfl, rfl⟩
      · refine ⟨k + 1, ⟨by omega, fun x hx' => ?_⟩, by omega, ?_, OSub.none _⟩
        · rw [ht] at hx'
          rcases List.mem_append.1 hx' with h1 | h1
          · exact hp x h1
          · obtain rfl := List.mem_singleton.1 h1
            exact hb
        · exact subQ
    · obtain rfl : k = l.length := by omega
      rw [List.take_length] at hp
      repeat (first | refine gA pk ?_)
      rw [show (-1 : Int) = idxS l v from by
        rcases idxS_pos l v with ⟨h1, _⟩ | ⟨_, h2⟩
        · exact absurd rfl (hp v h1)
        · exact h2.symm]
      refine finQ ?_
      exact ⟨rfl, rfl⟩
theorem ContainsS_spec (l : List ByteArray) (hl : l.length ≤ 1000000) (v : ByteArray) : Pure Tryz.prog 182 [strsA l, AS v] (AB (decide (v ∈ l))) := by
  have h := IndexS_spec l hl v
  have hc := idxS_pos l v
  generalize idxS l v = i at *
  rcases hc with ⟨h1, h2⟩ | ⟨h1, h2⟩
  · rw [decide_eq_true h1]
    refine zen Tryz.func182 (by kernel_rfl) rfl Tryz.ntmps182 rfl (by simp) ?_
    repeat (first | refine gA pk ?_ | (show AL _ _ _ _ _ _ _; first | refine jP h ?_))
    refine finQ ?_
    exact ⟨rfl, rfl⟩
  · rw [decide_eq_false h1]
    refine zen Tryz.func182 (by kernel_rfl) rfl Tryz.ntmps182 rfl (by simp) ?_
    repeat (first | refine gA pk ?_ | (show AL _ _ _ _ _ _ _; first | refine jP h ?_))
    refine finQ ?_
    exact ⟨rfl, rfl⟩
theorem pair_spec (s : ByteArray) (hs : s.size ≤ 1000000) : ∃ b : Bool, Pure Tryz.prog 190 [AS s] (AB b) := by
  have h := fun v => ContainsS_spec [⟨#[45, 62]⟩, ⟨#[60, 61]⟩, ⟨#[62, 61]⟩, ⟨#[61, 61]⟩, ⟨#[33, 61]⟩] (by decide) v
  by_cases h2 : 2 ≤ s.size
  · have h' := h (s.extract 0 2)
    generalize decide (s.extract 0 2 ∈ ([⟨#[45, 62]⟩, ⟨#[60, 61]⟩, ⟨#[62, 61]⟩, ⟨#[61, 61]⟩, ⟨#[33, 61]⟩] : List ByteArray)) = b at h'
    refine ⟨b, ?_⟩
    have h3 : ∀ u : Value, ACalls Tryz.prog 182 [.lit u, AS (s.extract 0 2)] [(u, .row 9 1 (([⟨#[45, 62]⟩, ⟨#[60, 61]⟩, ⟨#[62, 61]⟩, ⟨#[61, 61]⟩, ⟨#[33, 61]⟩] : List ByteArray).map cS))] (fun y M => y = AB b ∧ M = []) := fun u => ACalls.give h' trivial ⟨FZ.here, FZ.refl _, trivial⟩
    refine zen Tryz.func190 (by kernel_rfl) rfl Tryz.ntmps190 rfl (by simp) ?_
    repeat (first | refine gA pk ?_ | (show AL _ _ _ _ _ _ _; first | refine s_strSub tok 0 2 rfl rfl rfl rfl rfl rfl (by exact rfl) (by exact ⟨_, rfl⟩) (by omega) (by omega) ?_ | refine s_build tok rfl rfl rfl rfl rfl rfl rfl rfl (by decide) (by decide) (fun u => ?_)))
    refine s_callO 0 rfl rfl rfl rfl rfl rfl (h3 _) (SubL.of_eq rfl) ?_
    rintro _ _ ⟨rfl, rfl⟩
    repeat (first | refine gA pk ?_)
    refine finQ ?_
    exact ⟨rfl, rfl⟩
  · refine ⟨false, ?_⟩
    refine zen Tryz.func190 (by kernel_rfl) rfl Tryz.ntmps190 rfl (by simp) ?_
    repeat (first | refine gA pk ?_)
    refine finQ ?_
    exact ⟨rfl, rfl⟩
theorem IndexByte0_spec (s : ByteArray) (c : Int) : Pure Tryz.prog 195 [AS s, A8 c] (AI (firstIdx s c.toNat.toUInt8)) := by
  refine zen Tryz.func195 (by kernel_rfl) rfl Tryz.ntmps195 rfl (by simp) ?_
  repeat (first | refine gA pk ?_ | (show AL _ _ _ _ _ _ _; first | refine s_indexByte rfl rfl rfl rfl rfl Tryz.func196 (by kernel_rfl) rfl rfl rfl rfl rfl ?_))
  refine finQ ?_
  exact ⟨rfl, rfl⟩
theorem IndexByte_spec (s : ByteArray) (c : Int) : Pure Tryz.prog 191 [AS s, A8 c] (AI (firstIdx s c.toNat.toUInt8)) := by
  have h := IndexByte0_spec s c
  refine zen Tryz.func191 (by kernel_rfl) rfl Tryz.ntmps191 rfl (by simp) ?_
  repeat (first | refine gA pk ?_ | (show AL _ _ _ _ _ _ _; first | refine jP h ?_))
  refine finQ ?_
  exact ⟨rfl, rfl⟩
theorem next_spec (s : ByteArray) (h0 : 0 < s.size) (hs : s.size ≤ 1000000) : ∃ k n e : Int, Pure Tryz.prog 180 [AS s] (.tup [AI k, AI n, AI e]) ∧ ((e = 0 ∧ k = 1 ∧ n = s.size) ↔ nameB s = true) := by
  have s1 := letter_spec (byt s 0)
  have s2 := digit_spec (byt s 0)
  have s3 := run_spec s hs 187 (fun c => decide (parP c)) (fun c _ _ => part_spec c)
  have s4 := run_spec s hs 188 (fun c => decide (digP c)) (fun c _ _ => digit_spec c)
  obtain ⟨qn, qe, s5⟩ := quoted_spec s h0 hs
  obtain ⟨pb, s6⟩ := pair_spec s hs
  have s7 := IndexByte_spec ⟨#[123, 125, 40, 41, 91, 93, 44, 59, 58, 61, 43, 45, 42, 60, 62, 33, 38, 124, 46, 63]⟩ (byt s 0)
  generalize firstIdx _ _ = ib at s7
  have e0 : byt s 0 = byt s (0 : Int).toNat := rfl
  by_cases hL : letP (byt s 0)
  · rw [decide_eq_true hL] at s1
    have hall := runL_all (fun c => decide (parP c)) s.data.toList
    have hnm : nameB s = true ↔ (s.size ≤ 20 ∧ runS (fun c => decide (parP c)) s = s.size) := by
      unfold nameB runS
      rw [size_list]
      rw [hall, Bool.and_eq_true, decide_eq_true_eq]
      constructor
      · rintro ⟨⟨_, a2, _⟩, a4⟩; exact ⟨a2, a4⟩
      · rintro ⟨a2, a4⟩; exact ⟨⟨by rw [← size_list]; omega, a2, hL⟩, a4⟩
    have hle := runS_le (fun c => decide (parP c)) s
    generalize runS (fun c => decide (parP c)) s = n at *
    by_cases hn : 20 < n
    · refine ⟨0, 0, 3, ?_, ?_⟩
      · rw [e0] at s1
        refine zen Tryz.func180 (by kernel_rfl) rfl Tryz.ntmps180 rfl (by simp) ?_
        repeat (first | refine gA pk ?_ | (show AL _ _ _ _ _ _ _; first | refine s_strIx tok rfl rfl rfl rfl rfl rfl rfl (by omega) (by omega) ?_ | refine jP s1 ?_ | refine jP s3 ?_))
        refine finQ ?_
        exact ⟨rfl, rfl⟩
      · rw [hnm]
        constructor
        · rintro ⟨h, _⟩; omega
        · rintro ⟨h1, h2⟩; omega
    · refine ⟨1, n, 0, ?_, ?_⟩
      · rw [e0] at s1
        refine zen Tryz.func180 (by kernel_rfl) rfl Tryz.ntmps180 rfl (by simp) ?_
        repeat (first | refine gA pk ?_ | (show AL _ _ _ _ _ _ _; first | refine s_strIx tok rfl rfl rfl rfl rfl rfl rfl (by omega) (by omega) ?_ | refine jP s1 ?_ | refine jP s3 ?_))
        refine finQ ?_
        exact ⟨rfl, rfl⟩
      · rw [hnm]
        constructor
        · rintro ⟨_, _, h⟩; exact ⟨by omega, by omega⟩
        · rintro ⟨h1, h2⟩; exact ⟨rfl, rfl, by omega⟩
  · have hnm : nameB s = false := by
      unfold nameB
      rw [decide_eq_false (fun h => hL h.2.2)]
      rfl
    have key : ∃ k n e : Int, k ≠ 1 ∧ Pure Tryz.prog 180 [AS s] (.tup [AI k, AI n, AI e]) := by
      rw [decide_eq_false hL, e0] at s1
      rw [e0] at s7
      by_cases hD : digP (byt s 0)
      · rw [decide_eq_true hD, e0] at s2
        generalize runS (fun c => decide (digP c)) s = n at *
        by_cases hn : 9 < n
        · refine ⟨0, 0, 3, by decide, ?_⟩
          refine zen Tryz.func180 (by kernel_rfl) rfl Tryz.ntmps180 rfl (by simp) ?_
          repeat (first | refine gA pk ?_ | (show AL _ _ _ _ _ _ _; first | refine s_strIx tok rfl rfl rfl rfl rfl rfl rfl (by omega) (by omega) ?_ | refine jP s1 ?_ | refine jP s2 ?_ | refine jP s4 ?_))
          refine finQ ?_
          exact ⟨rfl, rfl⟩
        · refine ⟨2, n, 0, by decide, ?_⟩
          refine zen Tryz.func180 (by kernel_rfl) rfl Tryz.ntmps180 rfl (by simp) ?_
          repeat (first | refine gA pk ?_ | (show AL _ _ _ _ _ _ _; first | refine s_strIx tok rfl rfl rfl rfl rfl rfl rfl (by omega) (by omega) ?_ | refine jP s1 ?_ | refine jP s2 ?_ | refine jP s4 ?_))
          refine finQ ?_
          exact ⟨rfl, rfl⟩
      · rw [decide_eq_false hD, e0] at s2
        by_cases hq : byt s (0 : Int).toNat = 34
        · refine ⟨3, qn, qe, by decide, ?_⟩
          refine zen Tryz.func180 (by kernel_rfl) rfl Tryz.ntmps180 rfl (by simp) ?_
          repeat (first | refine gA pk ?_ | (show AL _ _ _ _ _ _ _; first | refine s_strIx tok rfl rfl rfl rfl rfl rfl rfl (by omega) (by omega) ?_ | refine jP s1 ?_ | refine jP s2 ?_ | refine jP s5 ?_))
          refine finQ ?_
          exact ⟨rfl, rfl⟩
        · cases pb with
          | true =>
            refine ⟨4, 2, 0, by decide, ?_⟩
            refine zen Tryz.func180 (by kernel_rfl) rfl Tryz.ntmps180 rfl (by simp) ?_
            repeat (first | refine gA pk ?_ | (show AL _ _ _ _ _ _ _; first | refine s_strIx tok rfl rfl rfl rfl rfl rfl rfl (by omega) (by omega) ?_ | refine jP s1 ?_ | refine jP s2 ?_ | refine jP s6 ?_))
            refine finQ ?_
            exact ⟨rfl, rfl⟩
          | false =>
            by_cases hi : 0 ≤ ib
            · refine ⟨4, 1, 0, by decide, ?_⟩
              refine zen Tryz.func180 (by kernel_rfl) rfl Tryz.ntmps180 rfl (by simp) ?_
              repeat (first | refine gA pk ?_ | (show AL _ _ _ _ _ _ _; first | refine s_strIx tok rfl rfl rfl rfl rfl rfl rfl (by omega) (by omega) ?_ | refine jP s1 ?_ | refine jP s2 ?_ | refine jP s6 ?_ | refine jP s7 ?_))
              refine finQ ?_
              exact ⟨rfl, rfl⟩
            · refine ⟨0, 0, 2, by decide, ?_⟩
              refine zen Tryz.func180 (by kernel_rfl) rfl Tryz.ntmps180 rfl (by simp) ?_
              repeat (first | refine gA pk ?_ | (show AL _ _ _ _ _ _ _; first | refine s_strIx tok rfl rfl rfl rfl rfl rfl rfl (by omega) (by omega) ?_ | refine jP s1 ?_ | refine jP s2 ?_ | refine jP s6 ?_ | refine jP s7 ?_))
              refine finQ ?_
              exact ⟨rfl, rfl⟩
    obtain ⟨k, n, e, hk, hp⟩ := key
    refine ⟨k, n, e, hp, ?_⟩
    rw [hnm]
    constructor
    · rintro ⟨_, h, _⟩; exact absurd h hk
    · intro h; cases h
theorem whole_spec (s : ByteArray) (hs : s.size ≤ 1000000) : ∃ t, Pure Tryz.prog 166 [.agg [AI 1, AS s, AI 0]] (.tup [AS t, AB (nameB s)]) := by
  by_cases h0 : s.size = 0
  · have he : s = ⟨#[]⟩ := by
      cases s with | mk d =>
      congr
      exact Array.eq_empty_of_size_eq_zero h0
    subst he
    refine ⟨⟨#[]⟩, ?_⟩
    rw [show nameB ⟨#[]⟩ = false from by decide]
    refine zen Tryz.func166 (by kernel_rfl) rfl Tryz.ntmps166 rfl (by simp) ?_; refine a_seq ?_; refine a_reg ?_; (repeat (first | refine gZ pk ?_ | (show AL _ _ _ _ _ _ _; first | refine jB (fun u => ?_)))); refine zfb 0 1 rfl rfl ?_
    repeat (first | refine gA pk ?_ | (show AL _ _ _ _ _ _ _; first | refine s_strEqT rfl rfl rfl rfl rfl rfl (by first | rfl | assumption) ?_))
    refine finQ ?_
    exact ⟨rfl, rfl⟩
  · obtain ⟨k, n, e, h1, h2⟩ := next_spec s (by omega) hs
    have hne : s ≠ ⟨#[]⟩ := by rintro rfl; exact h0 rfl
    refine ⟨s, ?_⟩
    cases hb : nameB s with
    | true =>
      rw [hb] at h2
      obtain ⟨rfl, rfl, rfl⟩ := h2.2 rfl
      refine zen Tryz.func166 (by kernel_rfl) rfl Tryz.ntmps166 rfl (by simp) ?_; refine a_seq ?_; refine a_reg ?_; (repeat (first | refine gZ pk ?_ | (show AL _ _ _ _ _ _ _; first | refine jB (fun u => ?_)))); refine zfb 0 1 rfl rfl ?_
      repeat (first | refine gA pk ?_ | (show AL _ _ _ _ _ _ _; first | refine s_strEqF rfl rfl rfl rfl rfl rfl (by assumption) ?_ | refine jP h1 ?_))
      refine finQ ?_
      exact ⟨rfl, rfl⟩
    | false =>
      rw [hb] at h2
      have h3 : ¬ (e = 0 ∧ k = 1 ∧ n = s.size) := fun h => by cases h2.1 h
      refine zen Tryz.func166 (by kernel_rfl) rfl Tryz.ntmps166 rfl (by simp) ?_; refine a_seq ?_; refine a_reg ?_; (repeat (first | refine gZ pk ?_ | (show AL _ _ _ _ _ _ _; first | refine jB (fun u => ?_)))); refine zfb 0 1 rfl rfl ?_
      repeat' (first | refine gA pk ?_ | (show AL _ _ _ _ _ _ _; first | refine s_strEqF rfl rfl rfl rfl rfl rfl (by assumption) ?_ | refine jP h1 ?_ | (refine s_cmp rfl rfl rfl rfl rfl rfl rfl (fun hb => ?_) (fun hb => ?_) <;> simp only [cmpP] at hb)) | fail)
      all_goals first | (exfalso; exact h3 ⟨by omega, by omega, by omega⟩) | skip
      all_goals refine finQ ?_
      all_goals exact ⟨rfl, rfl⟩
theorem IsName_spec (s : ByteArray) (hs : s.size ≤ 1000000) : Pure Tryz.prog 144 [AS s] (AB (nameB s)) := by
  obtain ⟨t, h⟩ := whole_spec s hs
  generalize nameB s = b at *
  refine zen Tryz.func144 (by kernel_rfl) rfl Tryz.ntmps144 rfl (by simp) ?_
  repeat (first | refine gA pk ?_ | (show AL _ _ _ _ _ _ _; first | refine jP h ?_))
  refine finQ ?_
  exact ⟨rfl, rfl⟩
end Go.Proofs.YtddohheabpiljaaGreat
end
section
namespace Go.Proofs.YtddohheabpiljaaGreat
open Go.Sj Go.Sj.Typ
set_option maxRecDepth 8000
set_option maxHeartbeats 4000000
def runP (digits : Bool) (c : Int) : Bool := if digits then decide (digP c) else decide (parP c)
theorem refRun_spec (s : ByteArray) (hs : s.size ≤ 1000000) (digits : Bool) : Pure Tryz.prog 177 [AS s, AI 0, AB digits] (AI (runS (runP digits) s)) := by
  refine zen Tryz.func177 (by kernel_rfl) rfl Tryz.ntmps177 rfl (by simp) ?_
  repeat (first | refine gA pk ?_)
  refine zlx (fun k : Nat => [(0, AS s), (1, AI 0), (2, AB digits), (7, AI k)]) (fun _ => []) (fun k => k ≤ s.size ∧ ∀ i, i < k → runP digits (byt s i) = true) (fun k => s.size - k) 0 ⟨Nat.zero_le _, fun i hi => by omega⟩ ?_ (OSub.refl _) ?_
  · exact subQ
  · rintro k ⟨hk, hp⟩
    have hfin : (k < s.size → runP digits (byt s k) = false) → k = runS (runP digits) s := fun h => (runL_of (runP digits) s.data.toList k (by rw [← size_list]; omega) (fun i hi => hp i hi) (fun hlt => h (by rw [size_list]; exact hlt))).symm
    have stp : k < s.size → runP digits (byt s k) = true → (k + 1 ≤ s.size ∧ ∀ i, i < k + 1 → runP digits (byt s i) = true) := fun h1 h2 => ⟨by omega, fun i hi => by
      rcases Nat.lt_or_ge i k with h3 | h3
      · exact hp i h3
      · obtain rfl : i = k := by omega
        exact h2⟩
    rcases Nat.lt_or_ge k s.size with h | h
    · have s1 : Pure Tryz.prog 176 [A8 (byt s (0 + (k : Int)).toNat)] (AB (decide (digP (byt s k)))) := by
        rw [show (0 + (k : Int)).toNat = k by omega]; exact refDigit_spec _
      have s2 : Pure Tryz.prog 175 [A8 (byt s (0 + (k : Int)).toNat)] (AB (decide (letP (byt s k)))) := by
        rw [show (0 + (k : Int)).toNat = k by omega]; exact refLetter_spec _
      have hbk : byt s (0 + (k : Int)).toNat = byt s k := by rw [show (0 + (k : Int)).toNat = k by omega]
      cases digits with
      | true =>
        repeat' (first | refine gA pk ?_ | (show AL _ _ _ _ _ _ _; first | refine s_strIx tok rfl rfl rfl rfl rfl rfl rfl (by omega) (by omega) ?_ | (refine s_callB rfl rfl rfl rfl rfl (s1) (SubL.of_eq rfl) (fun hb => ?_) (fun hb => ?_) <;> (first | replace hb := of_decide_eq_true hb | replace hb := of_decide_eq_false hb | skip)) | (refine s_cmp rfl rfl rfl rfl rfl rfl rfl (fun hb => ?_) (fun hb => ?_) <;> simp only [cmpP] at hb)) | fail)
        · exact ⟨k + 1, stp h (by simpa [runP] using hb), by omega, by exact subQ, OSub.none _⟩
        · rw [hfin (fun _ => by simpa [runP] using hb)]
          refine finQ ?_
          exact ⟨rfl, rfl⟩
      | false =>
        repeat' (first | refine gA pk ?_ | (show AL _ _ _ _ _ _ _; first | refine s_strIx tok rfl rfl rfl rfl rfl rfl rfl (by omega) (by omega) ?_ | (refine s_callB rfl rfl rfl rfl rfl (s1) (SubL.of_eq rfl) (fun hb => ?_) (fun hb => ?_) <;> (first | replace hb := of_decide_eq_true hb | replace hb := of_decide_eq_false hb | skip)) | (refine s_callB rfl rfl rfl rfl rfl (s2) (SubL.of_eq rfl) (fun hb => ?_) (fun hb => ?_) <;> (first | replace hb := of_decide_eq_true hb | replace hb := of_decide_eq_false hb | skip)) | (refine s_cmp rfl rfl rfl rfl rfl rfl rfl (fun hb => ?_) (fun hb => ?_) <;> simp only [cmpP] at hb)) | fail)
        all_goals first
          | exact ⟨k + 1, stp h (by simp only [runP, parP, Bool.false_eq_true, if_false]; simp_all), by omega, by exact subQ, OSub.none _⟩
          | (rw [hfin (fun _ => by simp only [runP, parP, Bool.false_eq_true, if_false]; simp_all)]
             (refine finQ ?_)
             exact ⟨rfl, rfl⟩)
    · obtain rfl : k = s.size := by omega
      repeat (first | refine gA pk ?_)
      rw [hfin (fun h => by omega)]
      refine finQ ?_
      exact ⟨rfl, rfl⟩
theorem refQuoted_spec (s : ByteArray) (hs : s.size ≤ 1000000) : ACalls Tryz.prog 178 [AS s, AI 0] [] (fun y L => (∃ n : Nat, (n = 0 ∨ (2 ≤ n ∧ n ≤ s.size)) ∧ y = AI n) ∧ L = []) := by
  refine zen Tryz.func178 (by kernel_rfl) rfl Tryz.ntmps178 rfl (by simp) ?_
  repeat (first | refine gA pk ?_)
  refine zlx (fun k : Nat => [(0, AS s), (1, AI 0), (5, AI k)]) (fun _ => []) (fun k => 1 ≤ k ∧ k ≤ s.size + 1) (fun k => s.size - k) 1 ⟨Nat.le_refl _, by omega⟩ ?_ (OSub.refl _) ?_
  · exact subQ
  · rintro k ⟨hk, hk'⟩
    rcases Nat.lt_or_ge k s.size with h | h
    · have hr := byt_rng s (0 + (k : Int)).toNat
      repeat' (first | refine gA pk ?_ | (show AL _ _ _ _ _ _ _; first | refine s_strIx tok rfl rfl rfl rfl rfl rfl rfl (by omega) (by omega) ?_ | (refine s_cmp rfl rfl rfl rfl rfl rfl rfl (fun hb => ?_) (fun hb => ?_) <;> simp only [cmpP] at hb)) | fail)
      all_goals first
        | exact ⟨k + 1, by omega, by omega, by exact subQ, OSub.none _⟩
        | ((refine finQ ?_); exact ⟨⟨k + 1, by omega, rfl⟩, rfl⟩)
        | ((refine finQ ?_); exact ⟨⟨0, by omega, rfl⟩, rfl⟩)
    · repeat (first | refine gA pk ?_)
      refine finQ ?_
      exact ⟨⟨0, by omega, rfl⟩, rfl⟩
def signL : List ByteArray := [⟨#[45, 62]⟩, ⟨#[60, 61]⟩, ⟨#[62, 61]⟩, ⟨#[61, 61]⟩, ⟨#[33, 61]⟩, ⟨#[123]⟩, ⟨#[125]⟩, ⟨#[40]⟩, ⟨#[41]⟩, ⟨#[91]⟩, ⟨#[93]⟩, ⟨#[44]⟩, ⟨#[59]⟩, ⟨#[58]⟩, ⟨#[61]⟩, ⟨#[43]⟩, ⟨#[45]⟩, ⟨#[42]⟩, ⟨#[60]⟩, ⟨#[62]⟩, ⟨#[33]⟩, ⟨#[38]⟩, ⟨#[124]⟩, ⟨#[46]⟩, ⟨#[63]⟩]
theorem signs_spec : Pure Tryz.prog 179 [] (strsA signL) := by
  refine zen Tryz.func179 (by kernel_rfl) rfl Tryz.ntmps179 rfl (by simp) ?_
  repeat (first | refine gA pk ?_ | (show AL _ _ _ _ _ _ _; first | refine s_build tok rfl rfl rfl rfl rfl rfl rfl rfl (by decide) (by decide) (fun u => ?_)))
  exact finF 0 (x := .lit _) (.inr rfl) rfl rfl FZ.here ⟨rfl, rfl⟩
end Go.Proofs.YtddohheabpiljaaGreat
end
section
namespace Go.Proofs.YtddohheabpiljaaGreat
open Go.Sj Go.Sj.Typ
set_option maxRecDepth 8000
set_option maxHeartbeats 4000000
theorem one_spec (s : ByteArray) (h0 : 0 < s.size) (hs : s.size ≤ 1000000) : ACalls Tryz.prog 165 [AS s, AI 0] [] (fun y L => (∃ (k : Int) (t : ByteArray) (n e : Int), y = .tup [.agg [AI k, AS t, AI 0], AI n, AI e] ∧ ((e = 0 ∧ n = s.size ∧ k = 1) ↔ nameB s = true)) ∧ L = []) := by
  have s1 := refLetter_spec (byt s (0 : Int).toNat)
  have s2 := refDigit_spec (byt s (0 : Int).toNat)
  have s3 := refRun_spec s hs
  have s5 := refQuoted_spec s hs
  have s6 := signs_spec
  have hle := fun b => runS_le (runP b) s
  have hall := runL_all (fun c => decide (parP c)) s.data.toList
  have hnm : nameB s = true ↔ (letP (byt s 0) ∧ s.size ≤ 20 ∧ runS (runP false) s = s.size) := by
    rw [show runS (runP false) s = runL (fun c => decide (parP c)) s.data.toList from rfl]
    unfold nameB
    rw [size_list]
    rw [hall, Bool.and_eq_true, decide_eq_true_eq]
    constructor
    · rintro ⟨⟨_, a2, a3⟩, a4⟩; exact ⟨a3, a2, a4⟩
    · rintro ⟨a3, a2, a4⟩; exact ⟨⟨by rw [← size_list]; omega, a2, a3⟩, a4⟩
  have h3n := s3 false
  have hrn := hle false
  generalize nameB s = nb at *
  generalize runS (runP false) s = rn at *
  refine a_enterM tok Tryz.func165 (by kernel_rfl) rfl Tryz.ntmps165 rfl (by decide) (by simp) ?_
  have hr0 := byt_rng s 0
  have e0 : byt s (0 : Int).toNat = byt s 0 := rfl
  by_cases hL : letP (byt s 0)
  · have hD : ¬ digP (byt s 0) := by unfold letP at hL; unfold digP; omega
    rw [e0, decide_eq_true hL] at s1
    rw [e0, decide_eq_false hD] at s2
    have h3 := h3n
    repeat' (first | refine gV pk ?_ | (show AL _ _ _ _ _ _ _; first | refine jL tok (fun u => ?_) | refine jS tok 0 ?_ | refine s_strIx tok rfl rfl rfl rfl rfl rfl rfl (by omega) (by omega) ?_ | refine jP s1 ?_ | refine jP s2 ?_ | refine jP h3 ?_ | refine s_strSubI tok (0) (rn) rfl rfl rfl rfl rfl rfl (by first | exact rfl | exact ⟨_, _, rfl, by omega⟩) (by first | exact rfl | exact ⟨_, _, rfl, by omega⟩) (by omega) (by omega) ?_ | (refine s_cmp rfl rfl rfl rfl rfl rfl rfl (fun hb => ?_) (fun hb => ?_) <;> simp only [cmpP] at hb)) | fail)
    · refine zfb 0 4 rfl rfl ?_
      refine a_ret ?_
      refine finM (.inr rfl) rfl ?_
      refine ⟨⟨_, _, _, _, rfl, ?_⟩, rfl⟩
      rw [hnm]
      constructor
      · rintro ⟨h, _⟩; omega
      · rintro ⟨_, h1, h2⟩; omega
    · refine zfb 0 4 rfl rfl ?_
      refine a_ret ?_
      refine finM (.inr rfl) rfl ?_
      refine ⟨⟨_, _, _, _, rfl, ?_⟩, rfl⟩
      rw [hnm]
      constructor
      · rintro ⟨_, h, _⟩; exact ⟨hL, by omega, by omega⟩
      · rintro ⟨_, h1, h2⟩; exact ⟨rfl, by omega, rfl⟩
  · have hno : ∀ (k : Int) (e n : Int), k ≠ 1 → ((e = 0 ∧ n = s.size ∧ k = 1) ↔ nb = true) := fun k e n hk => by
      rw [hnm]
      exact ⟨fun h => absurd h.2.2 hk, fun h => absurd h.1 hL⟩
    rw [e0, decide_eq_false hL] at s1
    by_cases hD : digP (byt s 0)
    · rw [e0, decide_eq_true hD] at s2
      have h3 := s3 true
      have hrn := hle true
      generalize runS (runP true) s = dn at *
      repeat' (first | refine gV pk ?_ | (show AL _ _ _ _ _ _ _; first | refine jL tok (fun u => ?_) | refine jS tok 0 ?_ | refine s_strIx tok rfl rfl rfl rfl rfl rfl rfl (by omega) (by omega) ?_ | refine jP s1 ?_ | refine jP s2 ?_ | refine jP h3 ?_ | refine s_strSubI tok (0) (dn) rfl rfl rfl rfl rfl rfl (by first | exact rfl | exact ⟨_, _, rfl, by omega⟩) (by first | exact rfl | exact ⟨_, _, rfl, by omega⟩) (by omega) (by omega) ?_ | (refine s_cmp rfl rfl rfl rfl rfl rfl rfl (fun hb => ?_) (fun hb => ?_) <;> simp only [cmpP] at hb)) | fail)
      all_goals
        refine zfb 0 4 rfl rfl ?_
        refine a_ret ?_
        refine finM (.inr rfl) rfl ?_
        exact ⟨⟨_, _, _, _, rfl, hno _ _ _ (by decide)⟩, rfl⟩
    · rw [e0, decide_eq_false hD] at s2
      by_cases hq : byt s 0 = 34
      · repeat' (first | refine gV pk ?_ | (show AL _ _ _ _ _ _ _; first | refine jL tok (fun u => ?_) | refine jS tok 0 ?_ | refine s_strIx tok rfl rfl rfl rfl rfl rfl rfl (by omega) (by omega) ?_ | refine jP s1 ?_ | refine jP s2 ?_ | (refine zsc (Lc := []) rfl rfl rfl rfl rfl (s5) (SubL.of_eq rfl) (List.Perm.refl _) ?_; rintro _ _ ⟨⟨qn, hqn, rfl⟩, rfl⟩) | refine s_strSubI tok (1) (qn - 1) rfl rfl rfl rfl rfl rfl (by first | exact rfl | exact ⟨_, _, rfl, by omega⟩) (by first | exact rfl | exact ⟨_, _, rfl, by omega⟩) (by omega) (by omega) ?_ | (refine s_cmp rfl rfl rfl rfl rfl rfl rfl (fun hb => ?_) (fun hb => ?_) <;> simp only [cmpP] at hb)) | fail)
        all_goals
          refine zfb 0 4 rfl rfl ?_
          refine a_ret ?_
          refine finM (.inr rfl) rfl ?_
          exact ⟨⟨_, _, _, _, rfl, hno _ _ _ (by decide)⟩, rfl⟩
      · repeat (first | refine gA pk ?_ | (show AL _ _ _ _ _ _ _; first | refine jL tok (fun u => ?_) | refine jS tok 0 ?_ | refine s_strIx tok rfl rfl rfl rfl rfl rfl rfl (by omega) (by omega) ?_ | refine jP s1 ?_ | refine jP s2 ?_ | refine jP s6 ?_))
        refine zlx (fun k : Nat => [(0, AS s), (1, AI 0), (4, .pt u 0 0 0), (12, strsA signL), (13, AI k)]) (fun _ => [(u, .box [AI 0, AS ⟨#[]⟩, AI 0])]) (fun k => k ≤ 25) (fun k => 25 - k) 0 (Nat.zero_le _) ?_ (OSub.refl _) ?_
        · exact subQ
        · intro k hk
          have ls : signL.length = 25 := rfl
          have ls' : (signL.map cS).length = 25 := rfl
          rcases Nat.lt_or_ge k 25 with h | h
          · have hx := List.getElem?_eq_getElem (l := signL) (i := k) (by omega)
            have hsm : signL[k].size ≤ 2 := by
              have := List.getElem_mem (l := signL) (n := k) (by omega)
              have hall : ∀ x ∈ signL, x.size ≤ 2 := by decide
              exact hall _ this
            generalize signL[k] = y at hx hsm
            have xk : (signL.map cS)[(k : Int).toNat]? = some [AS y] := zmp hx
            generalize signL = SL at *
            repeat' (first | refine gV pk ?_ | (show AL _ _ _ _ _ _ _; first | refine jX tok xk ?_ | refine jS tok 0 ?_ | refine s_strEqB rfl rfl rfl rfl rfl rfl (fun hb => ?_) (fun hb => ?_) | refine s_strSubI tok (0) (y.size) rfl rfl rfl rfl rfl rfl (by first | exact rfl | exact ⟨_, _, rfl, by omega⟩) (by first | exact rfl | exact ⟨_, _, rfl, by omega⟩) (by omega) (by omega) ?_ | (refine s_cmp rfl rfl rfl rfl rfl rfl rfl (fun hb => ?_) (fun hb => ?_) <;> simp only [cmpP] at hb)) | fail)
            all_goals first
              | exact ⟨k + 1, by omega, by omega, by exact subQ, OSub.refl _⟩
              | (refine zfb 0 4 rfl rfl ?_
                 refine a_ret ?_
                 refine finM (.inr rfl) rfl ?_
                 exact ⟨⟨_, _, _, _, rfl, hno _ _ _ (by decide)⟩, rfl⟩)
          · obtain rfl : k = 25 := by omega
            generalize signL = SL at *
            repeat (first | refine gV pk ?_ | (show AL _ _ _ _ _ _ _; first | refine jS tok 0 ?_))
            refine zfb 0 4 rfl rfl ?_
            refine a_ret ?_
            refine finM (.inr rfl) rfl ?_
            exact ⟨⟨_, _, _, _, rfl, hno _ _ _ (by decide)⟩, rfl⟩
end Go.Proofs.YtddohheabpiljaaGreat
end
section
namespace Go.Proofs.YtddohheabpiljaaGreat
open Go.Sj Go.Sj.Typ
set_option maxRecDepth 8000
set_option maxHeartbeats 4000000
theorem text_spec (s : ByteArray) : Pure Tryz.prog 164 [.agg [AI 1, AS s, AI 0]] (AS s) := by
  refine zen Tryz.func164 (by kernel_rfl) rfl Tryz.ntmps164 rfl (by simp) ?_; refine a_seq ?_; refine a_reg ?_; (repeat (first | refine gZ pk ?_ | (show AL _ _ _ _ _ _ _; first | refine jB (fun u => ?_)))); refine zfb 0 1 rfl rfl ?_
  repeat (first | refine gA pk ?_)
  refine finQ ?_
  exact ⟨rfl, rfl⟩
theorem Right_spec (s : ByteArray) (hs : s.size ≤ 1000000) : Pure Tryz.prog 142 [.agg [AI 1, AS s, AI 0]] (AB (nameB s)) := by
  have s1 := text_spec s
  by_cases h0 : s.size = 0
  · have he : s = ⟨#[]⟩ := by
      cases s with | mk d =>
      congr
      exact Array.eq_empty_of_size_eq_zero h0
    subst he
    rw [show nameB ⟨#[]⟩ = false from by decide]
    refine zen Tryz.func142 (by kernel_rfl) rfl Tryz.ntmps142 rfl (by simp) ?_; refine a_seq ?_; refine a_reg ?_; (repeat (first | refine gZ pk ?_ | (show AL _ _ _ _ _ _ _; first | refine jB (fun u => ?_)))); refine zfb 0 1 rfl rfl ?_
    repeat (first | refine gA pk ?_ | (show AL _ _ _ _ _ _ _; first | refine jP s1 ?_ | refine s_strEqT rfl rfl rfl rfl rfl rfl (by first | rfl | assumption) ?_))
    refine finQ ?_
    exact ⟨rfl, rfl⟩
  · have s2 := one_spec s (by omega) hs
    have hne : s ≠ ⟨#[]⟩ := by rintro rfl; exact h0 rfl
    generalize hnb : nameB s = nb at *
    refine zen Tryz.func142 (by kernel_rfl) rfl Tryz.ntmps142 rfl (by simp) ?_; refine a_seq ?_; refine a_reg ?_; (repeat (first | refine gZ pk ?_ | (show AL _ _ _ _ _ _ _; first | refine jB (fun u => ?_)))); refine zfb 0 1 rfl rfl ?_
    repeat' (first | refine gA pk ?_ | (show AL _ _ _ _ _ _ _; first | refine jL tok (fun u => ?_) | refine jS tok 0 ?_ | refine jO tok 0 ?_ | refine jP s1 ?_ | refine s_strEqF rfl rfl rfl rfl rfl rfl (by assumption) ?_ | (refine zsc (Lc := []) rfl rfl rfl rfl rfl (s2) (SubL.of_eq rfl) (List.Perm.refl _) ?_; rintro _ _ ⟨⟨k, t, n, e, rfl, hiff⟩, rfl⟩) | (refine s_cmp rfl rfl rfl rfl rfl rfl rfl (fun hb => ?_) (fun hb => ?_) <;> simp only [cmpP] at hb)) | fail)
    all_goals refine finQ ?_
    all_goals refine ⟨?_, rfl⟩
    all_goals cases nb with
      | true => first | rfl | (obtain ⟨h1, h2, h3⟩ := hiff.2 rfl; exfalso; omega)
      | false => first | rfl | (exfalso; have := hiff.1 ⟨by omega, by omega, by omega⟩; cases this)
theorem refIsName_spec (s : ByteArray) (hs : s.size ≤ 1000000) : Pure Tryz.prog 116 [AS s] (AB (nameB s)) := by
  have h := Right_spec s hs
  generalize nameB s = b at *
  refine zen Tryz.func116 (by kernel_rfl) rfl Tryz.ntmps116 rfl (by simp) ?_
  repeat (first | refine gA pk ?_ | (show AL _ _ _ _ _ _ _; first | refine jP h ?_))
  refine finQ ?_
  exact ⟨rfl, rfl⟩
end Go.Proofs.YtddohheabpiljaaGreat
end
