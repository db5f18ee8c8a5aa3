/- Parts of a proof. -/
import Derived.Test.YtimfponihbfimaaGreatP12
import Derived.Test.YtimfponihbfimaaGreatP13
set_option linter.unusedVariables false
set_option linter.unusedSimpArgs false
section
namespace Go.Proofs.YtimfponihbfimaaGreat
open Go.Sj Go.Sj.Typ Go.Sj.Sta
set_option maxRecDepth 8000
set_option maxHeartbeats 4000000
def idxC (l : List Cnt) (p : Cnt → Bool) : Int := match l.findIdx? p with | some i => i | none => -1
theorem idxC_any (l : List Cnt) (p : Cnt → Bool) : (l.any p = true ∧ 0 ≤ idxC l p) ∨ (l.any p = false ∧ idxC l p = -1) := by
  unfold idxC
  cases hf : l.findIdx? p with
  | none =>
    right
    rw [List.findIdx?_eq_none_iff] at hf
    exact ⟨by simpa using hf, rfl⟩
  | some i =>
    left
    rw [List.findIdx?_eq_some_iff_getElem] at hf
    obtain ⟨h1, h2, _⟩ := hf
    exact ⟨List.any_eq_true.2 ⟨_, List.getElem_mem h1, h2⟩, by simp only; omega⟩
theorem idxC_at {l : List Cnt} {p : Cnt → Bool} {k : Nat} {a : Cnt} (h : ∀ x ∈ l.take k, p x = false) (hk : l[k]? = some a) (hp : p a = true) : idxC l p = k := by
  have : l.findIdx? p = some k := by
    rw [List.findIdx?_eq_some_iff_getElem]
    obtain ⟨hlt, he⟩ := List.getElem?_eq_some_iff.1 hk
    refine ⟨hlt, by rw [he]; exact hp, fun j hj => ?_⟩
    have := h l[j] (by rw [List.mem_take_iff_getElem]; exact ⟨j, by omega, rfl⟩)
    simp [this]
  unfold idxC
  rw [this]
theorem IndexFuncC_spec (l : List Cnt) (hl : l.length ≤ 1000000) (g : FuncId) (caps : List AV) (p : Cnt → Bool) (hg : ∀ a ∈ l, Pure Tryz.prog g (.agg (cCnt a) :: caps) (AB (p a))) :
    Pure Tryz.prog 196 [.im 4 (l.map cCnt), .fn (.func g) [] caps] (AI (idxC l p)) := by
  have ll : (l.map cCnt).length = l.length := by simp
  refine zen Tryz.func196 (by kernel_rfl) rfl Tryz.ntmps196 rfl (by simp) ?_
  repeat (first | refine gA pk ?_)
  rw [ll]
  refine zlx (fun k : Nat => [(0, .im 4 (l.map cCnt)), (1, .fn (.func g) [] caps), (7, AI l.length), (8, AI k)]) (fun _ => []) (fun k => k ≤ l.length ∧ ∀ x ∈ l.take k, p x = false) (fun k => l.length - k) 0 ⟨Nat.zero_le _, by simp⟩ ?_ (OSub.refl _) ?_
  · exact subQ
  · rintro k ⟨hk, hp⟩
    rcases Nat.lt_or_ge k l.length with h | h
    · have hx := List.getElem?_eq_getElem h
      have ht := List.take_succ_eq_append_getElem h
      have hc := hg _ (List.getElem_mem h)
      generalize l[k] = y at hx ht hc
      have xk : (l.map cCnt)[(k : Int).toNat]? = some (cCnt y) := zmp hx
      cases hpy : p y with
      | true =>
        rw [hpy] at hc
        repeat (first | refine gA pk ?_ | (show AL _ _ _ _ _ _ _; first | refine jX tok xk ?_ | refine jP hc ?_))
        rw [← idxC_at hp hx hpy]
        refine finQ ?_
        exact ⟨rfl, rfl⟩
      | false =>
        rw [hpy] at hc
        repeat (first | refine gA pk ?_ | (show AL _ _ _ _ _ _ _; first | refine jX tok xk ?_ | refine jP hc ?_))
        refine ⟨k + 1, ⟨by omega, fun x hx' => ?_⟩, by omega, ?_, OSub.none _⟩
        · rw [ht] at hx'
          rcases List.mem_append.1 hx' with h1 | h1
          · exact hp x h1
          · obtain rfl := List.mem_singleton.1 h1
            exact hpy
        · exact subQ
    · obtain rfl : k = l.length := by omega
      rw [List.take_length] at hp
      repeat (first | refine gA pk ?_)
      rw [show (-1 : Int) = idxC l p from by
        rcases idxC_any l p with ⟨h1, _⟩ | ⟨_, h2⟩
        · obtain ⟨x, hx, hpx⟩ := List.any_eq_true.1 h1
          rw [hp x hx] at hpx; cases hpx
        · exact h2.symm]
      refine finQ ?_
      exact ⟨rfl, rfl⟩
theorem ContainsFuncC_spec (l : List Cnt) (hl : l.length ≤ 1000000) (g : FuncId) (caps : List AV) (p : Cnt → Bool) (hg : ∀ a ∈ l, Pure Tryz.prog g (.agg (cCnt a) :: caps) (AB (p a))) :
    Pure Tryz.prog 179 [.im 4 (l.map cCnt), .fn (.func g) [] caps] (AB (l.any p)) := by
  have h := IndexFuncC_spec l hl g caps p hg
  have hc := idxC_any l p
  generalize idxC l p = i at *
  rcases hc with ⟨h1, h2⟩ | ⟨h1, h2⟩
  · rw [h1]
    refine zen Tryz.func179 (by kernel_rfl) rfl Tryz.ntmps179 rfl (by simp) ?_
    repeat (first | refine gA pk ?_ | (show AL _ _ _ _ _ _ _; first | refine jP h ?_))
    refine finQ ?_
    exact ⟨rfl, rfl⟩
  · rw [h1]
    refine zen Tryz.func179 (by kernel_rfl) rfl Tryz.ntmps179 rfl (by simp) ?_
    repeat (first | refine gA pk ?_ | (show AL _ _ _ _ _ _ _; first | refine jP h ?_))
    refine finQ ?_
    exact ⟨rfl, rfl⟩
def idxG (l : List Ed) (p : Ed → Bool) : Int := match l.findIdx? p with | some i => i | none => -1
theorem idxG_any (l : List Ed) (p : Ed → Bool) : (l.any p = true ∧ 0 ≤ idxG l p) ∨ (l.any p = false ∧ idxG l p = -1) := by
  unfold idxG
  cases hf : l.findIdx? p with
  | none =>
    right
    rw [List.findIdx?_eq_none_iff] at hf
    exact ⟨by simpa using hf, rfl⟩
  | some i =>
    left
    rw [List.findIdx?_eq_some_iff_getElem] at hf
    obtain ⟨h1, h2, _⟩ := hf
    exact ⟨List.any_eq_true.2 ⟨_, List.getElem_mem h1, h2⟩, by simp only; omega⟩
theorem idxG_at {l : List Ed} {p : Ed → Bool} {k : Nat} {a : Ed} (h : ∀ x ∈ l.take k, p x = false) (hk : l[k]? = some a) (hp : p a = true) : idxG l p = k := by
  have : l.findIdx? p = some k := by
    rw [List.findIdx?_eq_some_iff_getElem]
    obtain ⟨hlt, he⟩ := List.getElem?_eq_some_iff.1 hk
    refine ⟨hlt, by rw [he]; exact hp, fun j hj => ?_⟩
    have := h l[j] (by rw [List.mem_take_iff_getElem]; exact ⟨j, by omega, rfl⟩)
    simp [this]
  unfold idxG
  rw [this]
theorem IndexFuncG_spec (l : List Ed) (hl : l.length ≤ 1000000) (g : FuncId) (caps : List AV) (p : Ed → Bool) (hg : ∀ a ∈ l, Pure Tryz.prog g (.agg (cEd a) :: caps) (AB (p a))) :
    Pure Tryz.prog 147 [.im 3 (l.map cEd), .fn (.func g) [] caps] (AI (idxG l p)) := by
  have ll : (l.map cEd).length = l.length := by simp
  refine zen Tryz.func147 (by kernel_rfl) rfl Tryz.ntmps147 rfl (by simp) ?_
  repeat (first | refine gA pk ?_)
  rw [ll]
  refine zlx (fun k : Nat => [(0, .im 3 (l.map cEd)), (1, .fn (.func g) [] caps), (7, AI l.length), (8, AI k)]) (fun _ => []) (fun k => k ≤ l.length ∧ ∀ x ∈ l.take k, p x = false) (fun k => l.length - k) 0 ⟨Nat.zero_le _, by simp⟩ ?_ (OSub.refl _) ?_
  · exact subQ
  · rintro k ⟨hk, hp⟩
    rcases Nat.lt_or_ge k l.length with h | h
    · have hx := List.getElem?_eq_getElem h
      have ht := List.take_succ_eq_append_getElem h
      have hc := hg _ (List.getElem_mem h)
      generalize l[k] = y at hx ht hc
      have xk : (l.map cEd)[(k : Int).toNat]? = some (cEd y) := zmp hx
      cases hpy : p y with
      | true =>
        rw [hpy] at hc
        repeat (first | refine gA pk ?_ | (show AL _ _ _ _ _ _ _; first | refine jX tok xk ?_ | refine jP hc ?_))
        rw [← idxG_at hp hx hpy]
        refine finQ ?_
        exact ⟨rfl, rfl⟩
      | false =>
        rw [hpy] at hc
        repeat (first | refine gA pk ?_ | (show AL _ _ _ _ _ _ _; first | refine jX tok xk ?_ | refine jP hc ?_))
        refine ⟨k + 1, ⟨by omega, fun x hx' => ?_⟩, by omega, ?_, OSub.none _⟩
        · rw [ht] at hx'
          rcases List.mem_append.1 hx' with h1 | h1
          · exact hp x h1
          · obtain rfl := List.mem_singleton.1 h1
            exact hpy
        · exact subQ
    · obtain rfl : k = l.length := by omega
      rw [List.take_length] at hp
      repeat (first | refine gA pk ?_)
      rw [show (-1 : Int) = idxG l p from by
        rcases idxG_any l p with ⟨h1, _⟩ | ⟨_, h2⟩
        · obtain ⟨x, hx, hpx⟩ := List.any_eq_true.1 h1
          rw [hp x hx] at hpx; cases hpx
        · exact h2.symm]
      refine finQ ?_
      exact ⟨rfl, rfl⟩
theorem ContainsFuncG_spec (l : List Ed) (hl : l.length ≤ 1000000) (g : FuncId) (caps : List AV) (p : Ed → Bool) (hg : ∀ a ∈ l, Pure Tryz.prog g (.agg (cEd a) :: caps) (AB (p a))) :
    Pure Tryz.prog 100 [.im 3 (l.map cEd), .fn (.func g) [] caps] (AB (l.any p)) := by
  have h := IndexFuncG_spec l hl g caps p hg
  have hc := idxG_any l p
  generalize idxG l p = i at *
  rcases hc with ⟨h1, h2⟩ | ⟨h1, h2⟩
  · rw [h1]
    refine zen Tryz.func100 (by kernel_rfl) rfl Tryz.ntmps100 rfl (by simp) ?_
    repeat (first | refine gA pk ?_ | (show AL _ _ _ _ _ _ _; first | refine jP h ?_))
    refine finQ ?_
    exact ⟨rfl, rfl⟩
  · rw [h1]
    refine zen Tryz.func100 (by kernel_rfl) rfl Tryz.ntmps100 rfl (by simp) ?_
    repeat (first | refine gA pk ?_ | (show AL _ _ _ _ _ _ _; first | refine jP h ?_))
    refine finQ ?_
    exact ⟨rfl, rfl⟩
def smC (c : Cnt) : Prop := (-1099511627776 ≤ c.ty ∧ c.ty ≤ 1099511627776) ∧ (-1099511627776 ≤ c.fr ∧ c.fr ≤ 1099511627776) ∧ (-1099511627776 ≤ c.to ∧ c.to ≤ 1099511627776)
def orL (l : List Int) : Int := (l.find? fun x => decide (x ≠ 0)).getD 0
theorem none_takeP {A : Type} {l : List A} {p : A → Bool} {k : Nat} {x : A} (h : ∀ x ∈ l.take k, p x = false) (hx : l[k]? = some x) (hp : p x = false) : ∀ x ∈ l.take (k + 1), p x = false := fun y hy => by
  obtain ⟨hk, rfl⟩ := List.getElem?_eq_some_iff.1 hx
  rw [List.take_succ_eq_append_getElem hk] at hy
  rcases List.mem_append.1 hy with h1 | h1
  · exact h y h1
  · obtain rfl := List.mem_singleton.1 h1; exact hp
theorem find_atP {A : Type} {l : List A} {p : A → Bool} {k : Nat} {x : A} (h : ∀ x ∈ l.take k, p x = false) (hx : l[k]? = some x) (hp : p x = true) : l.find? p = some x := by
  obtain ⟨hk, rfl⟩ := List.getElem?_eq_some_iff.1 hx
  have e : l = l.take k ++ l[k] :: l.drop (k + 1) := by rw [← List.drop_eq_getElem_cons hk, List.take_append_drop]
  rw [congrArg (List.find? p) e, List.find?_append, List.find?_eq_none.2 (fun y hy => by simpa using h y hy), List.find?_cons, hp]
  rfl
theorem Or_spec (l : List Int) (hl : l.length ≤ 1000) : Pure Tryz.prog 45 [ints l] (AI (orL l)) := by
  have ll : (rowI l).length = l.length := by simp
  refine zen Tryz.func45 (by kernel_rfl) rfl Tryz.ntmps45 rfl (by simp) ?_
  repeat (first | refine gA pk ?_)
  rw [ll]
  refine zlx (fun k : Nat => [(3, AI 0), (6, ints l), (7, AI l.length), (8, AI k)]) (fun _ => []) (fun k => k ≤ l.length ∧ ∀ x ∈ l.take k, decide (x ≠ 0) = false) (fun k => l.length - k) 0 ⟨Nat.zero_le _, by simp⟩ ?_ (OSub.refl _) ?_
  · exact subQ
  · rintro k ⟨hk, hno⟩
    rcases Nat.lt_or_ge k l.length with h | h
    · have hx := List.getElem?_eq_getElem h
      generalize l[k] = x at hx
      have xk : (rowI l)[(k : Int).toNat]? = some [AI x] := zmp (f := cI) hx
      by_cases h1 : x = 0
      · have hn := none_takeP (p := fun x => decide (x ≠ 0)) hno hx (by simp [h1])
        repeat (first | refine gA pk ?_ | (show AL _ _ _ _ _ _ _; first | refine jX tok xk ?_))
        refine ⟨k + 1, ⟨by omega, hn⟩, by omega, ?_, OSub.refl _⟩
        exact subQ
      · have hf := find_atP (p := fun x => decide (x ≠ 0)) hno hx (by simp [h1])
        rw [orL, hf]
        repeat (first | refine gA pk ?_ | (show AL _ _ _ _ _ _ _; first | refine jX tok xk ?_))
        refine finQ ?_
        exact ⟨rfl, rfl⟩
    · obtain rfl : k = l.length := by omega
      rw [List.take_length] at hno
      rw [orL, List.find?_eq_none.2 (fun x hx => by simpa using hno x hx)]
      repeat (first | refine gA pk ?_)
      refine finQ ?_
      exact ⟨rfl, rfl⟩
theorem orL_three (a b c : Int) : orL [a, b, c] = if a ≠ 0 then a else if b ≠ 0 then b else c := by
  by_cases h : a = 0
  · by_cases h2 : b = 0
    · by_cases h3 : c = 0 <;> simp [orL, h, h2, h3]
    · simp [orL, h, h2]
  · simp [orL, h]
theorem compare_spec (a b : Cnt) (ha : smC a) (hb : smC b) : Pure Tryz.prog 149 [.agg (cCnt a), .agg (cCnt b)] (AI (cmp3 a b)) := by
  have s1 := Or_spec [a.ty - b.ty, a.fr - b.fr, a.to - b.to] (by simp)
  rw [orL_three] at s1
  unfold smC at ha hb
  obtain ⟨a1, a2, a3, a4⟩ := a
  obtain ⟨b1, b2, b3, b4⟩ := b
  simp only at ha hb s1
  unfold cmp3
  simp only
  generalize (if a1 - b1 ≠ 0 then a1 - b1 else if a2 - b2 ≠ 0 then a2 - b2 else a3 - b3) = z at *
  show Pure Tryz.prog 149 [.agg [AI a1, AI a2, AI a3, AI a4], .agg [AI b1, AI b2, AI b3, AI b4]] (AI z)
  refine zen Tryz.func149 (by kernel_rfl) rfl Tryz.ntmps149 rfl (by simp) ?_
  refine a_seq ?_
  refine a_reg ?_
  repeat (first | refine gZ pk ?_ | (show AL _ _ _ _ _ _ _; first | refine jB (fun u => ?_)))
  refine zfb 0 3 rfl rfl ?_
  refine zfb 0 2 rfl rfl ?_
  repeat (first | refine gA pk ?_ | (show AL _ _ _ _ _ _ _; first | refine jP s1 ?_ | refine s_frzNow 0 rfl rfl rfl (s_build tok rfl rfl rfl rfl rfl rfl rfl rfl (by decide) (by decide) (fun v => AL.nil ⟨v, rfl, rfl, rfl⟩)) ?_))
  refine finQ ?_
  exact ⟨rfl, rfl⟩
theorem refcompare_spec (a b : Cnt) (ha : smC a) (hb : smC b) : Pure Tryz.prog 113 [.agg (cCnt a), .agg (cCnt b)] (AI (cmp3 a b)) := by
  unfold smC at ha hb
  obtain ⟨a1, a2, a3, a4⟩ := a
  obtain ⟨b1, b2, b3, b4⟩ := b
  simp only at ha hb
  unfold cmp3
  simp only
  show Pure Tryz.prog 113 [.agg [AI a1, AI a2, AI a3, AI a4], .agg [AI b1, AI b2, AI b3, AI b4]] (AI (if a1 - b1 ≠ 0 then a1 - b1 else if a2 - b2 ≠ 0 then a2 - b2 else a3 - b3))
  by_cases h1 : a1 = b1
  · rw [if_neg (by omega)]
    by_cases h2 : a2 = b2
    · rw [if_neg (by omega)]
      refine zen Tryz.func113 (by kernel_rfl) rfl Tryz.ntmps113 rfl (by simp) ?_
      refine a_seq ?_
      refine a_reg ?_
      repeat (first | refine gZ pk ?_ | (show AL _ _ _ _ _ _ _; first | refine jB (fun u => ?_)))
      refine zfb 0 3 rfl rfl ?_
      refine zfb 0 2 rfl rfl ?_
      repeat (first | refine gA pk ?_)
      refine finQ ?_
      exact ⟨rfl, rfl⟩
    · rw [if_pos (by omega)]
      refine zen Tryz.func113 (by kernel_rfl) rfl Tryz.ntmps113 rfl (by simp) ?_
      refine a_seq ?_
      refine a_reg ?_
      repeat (first | refine gZ pk ?_ | (show AL _ _ _ _ _ _ _; first | refine jB (fun u => ?_)))
      refine zfb 0 3 rfl rfl ?_
      refine zfb 0 2 rfl rfl ?_
      repeat (first | refine gA pk ?_)
      refine finQ ?_
      exact ⟨rfl, rfl⟩
  · rw [if_pos (by omega)]
    refine zen Tryz.func113 (by kernel_rfl) rfl Tryz.ntmps113 rfl (by simp) ?_
    refine a_seq ?_
    refine a_reg ?_
    repeat (first | refine gZ pk ?_ | (show AL _ _ _ _ _ _ _; first | refine jB (fun u => ?_)))
    refine zfb 0 3 rfl rfl ?_
    refine zfb 0 2 rfl rfl ?_
    repeat (first | refine gA pk ?_)
    refine finQ ?_
    exact ⟨rfl, rfl⟩
theorem is_spec' (n : Int) (m : Int) : Pure Tryz.prog 148 [AI n, AI m] (AB (decide (0 ≤ n ∧ n < m))) := by
  refine zen Tryz.func148 (by kernel_rfl) rfl Tryz.ntmps148 rfl (by simp) ?_
  repeat' (first | refine gA pk ?_ | (show AL _ _ _ _ _ _ _; first | (refine s_cmp rfl rfl rfl rfl rfl rfl rfl (fun hb => ?_) (fun hb => ?_) <;> simp only [cmpP] at hb)) | fail)
  all_goals first | ((refine finQ ?_); exact ⟨ABt (by omega), rfl⟩) | ((refine finQ ?_); exact ⟨ABf (by omega), rfl⟩)
theorem refis_spec (n : Int) (m : Int) : Pure Tryz.prog 153 [AI n, AI m] (AB (decide (0 ≤ n ∧ n < m))) := by
  refine zen Tryz.func153 (by kernel_rfl) rfl Tryz.ntmps153 rfl (by simp) ?_
  repeat' (first | refine gA pk ?_ | (show AL _ _ _ _ _ _ _; first | (refine s_cmp rfl rfl rfl rfl rfl rfl rfl (fun hb => ?_) (fun hb => ?_) <;> simp only [cmpP] at hb)) | fail)
  all_goals first | ((refine finQ ?_); exact ⟨ABt (by omega), rfl⟩) | ((refine finQ ?_); exact ⟨ABf (by omega), rfl⟩)
theorem tot_bound {l : List Cnt} (h : ∀ c ∈ l, -1000 ≤ c.nu ∧ c.nu ≤ 1000) : -1000 * (l.length : Int) ≤ tot l ∧ tot l ≤ 1000 * (l.length : Int) := by
  induction l with
  | nil => simp [sumP]
  | cons c l ih =>
    have h1 := h c (by simp)
    have h2 := ih (fun d hd => h d (by simp [hd]))
    simp only [sumP, if_true, List.length_cons]
    simp only [tot] at h2
    omega
theorem tot_take {l : List Cnt} {k : Nat} {c : Cnt} (hc : l[k]? = some c) : tot (l.take (k + 1)) = tot (l.take k) + c.nu := by
  obtain ⟨hk, rfl⟩ := List.getElem?_eq_some_iff.1 hc
  rw [List.take_succ_eq_append_getElem hk, tot, sumP_append]
  simp [sumP]
theorem total_spec (l : List Cnt) (hl : l.length ≤ 1000) (h : ∀ c ∈ l, -1000 ≤ c.nu ∧ c.nu ≤ 1000) : Pure Tryz.prog 150 [cntsA l] (AI (tot l)) := by
  have ll : (l.map cCnt).length = l.length := by simp
  refine zen Tryz.func150 (by kernel_rfl) rfl Tryz.ntmps150 rfl (by simp) ?_
  repeat (first | refine gA pk ?_)
  rw [ll]
  refine zlx (fun k : Nat => [(3, AI (tot (l.take k))), (6, cntsA l), (7, AI l.length), (8, AI k)]) (fun _ => []) (fun k => k ≤ l.length) (fun k => l.length - k) 0 (Nat.zero_le _) ?_ (OSub.refl _) ?_
  · exact subQ
  · intro k hk
    rcases Nat.lt_or_ge k l.length with hlt | hge
    · have hx := List.getElem?_eq_getElem hlt
      have h1 := h _ (List.getElem_mem hlt)
      have ht := tot_take hx
      have hb := tot_bound (l := l.take k) (fun c hc => h c (List.mem_of_mem_take hc))
      have hkl : (l.take k).length = k := by rw [List.length_take]; omega
      rw [hkl] at hb
      generalize l[k] = c at *
      generalize tot (l.take k) = z at *
      obtain ⟨c1, c2, c3, c4⟩ := c
      simp only at h1 ht
      have xk : (l.map cCnt)[(k : Int).toNat]? = some [AI c1, AI c2, AI c3, AI c4] := zmp (f := cCnt) hx
      repeat (first | refine gA pk ?_ | (show AL _ _ _ _ _ _ _; first | refine jX tok xk ?_ | refine jL tok (fun u => ?_) | refine jS tok 0 ?_ | refine jO tok 0 ?_))
      refine ⟨k + 1, by omega, by omega, ?_, OSub.none _⟩
      rw [ht]
      exact subQ
    · obtain rfl : k = l.length := by omega
      rw [List.take_length]
      repeat (first | refine gA pk ?_)
      refine finQ ?_
      exact ⟨rfl, rfl⟩
theorem reftotal_spec (l : List Cnt) (hl : l.length ≤ 1000) (h : ∀ c ∈ l, -1000 ≤ c.nu ∧ c.nu ≤ 1000) : Pure Tryz.prog 154 [cntsA l] (AI (tot l)) := by
  have ll : (l.map cCnt).length = l.length := by simp
  refine zen Tryz.func154 (by kernel_rfl) rfl Tryz.ntmps154 rfl (by simp) ?_
  repeat (first | refine gA pk ?_)
  refine zlx (fun k : Nat => [(0, cntsA l), (3, AI (tot (l.take k))), (4, AI k)]) (fun _ => []) (fun k => k ≤ l.length) (fun k => l.length - k) 0 (Nat.zero_le _) ?_ (OSub.refl _) ?_
  · exact subQ
  · intro k hk
    rcases Nat.lt_or_ge k l.length with hlt | hge
    · have hx := List.getElem?_eq_getElem hlt
      have h1 := h _ (List.getElem_mem hlt)
      have ht := tot_take hx
      have hb := tot_bound (l := l.take k) (fun c hc => h c (List.mem_of_mem_take hc))
      have hkl : (l.take k).length = k := by rw [List.length_take]; omega
      rw [hkl] at hb
      generalize l[k] = c at *
      generalize tot (l.take k) = z at *
      obtain ⟨c1, c2, c3, c4⟩ := c
      simp only at h1 ht
      have xk : (l.map cCnt)[(k : Int).toNat]? = some [AI c1, AI c2, AI c3, AI c4] := zmp (f := cCnt) hx
      repeat (first | refine gA pk ?_ | (show AL _ _ _ _ _ _ _; first | refine jX tok xk ?_))
      refine ⟨k + 1, by omega, by omega, ?_, OSub.none _⟩
      rw [ht]
      exact subQ
    · obtain rfl : k = l.length := by omega
      rw [List.take_length]
      repeat (first | refine gA pk ?_)
      refine finQ ?_
      exact ⟨rfl, rfl⟩
end Go.Proofs.YtimfponihbfimaaGreat
end
