/- Parts of a proof. -/
import Derived.Test.YtimfponihbfimaaGreatP09
import Derived.Test.YtimfponihbfimaaGreatP10
import Derived.Test.YtimfponihbfimaaGreatP11
set_option linter.unusedVariables false
set_option linter.unusedSimpArgs false
section
namespace Go.Proofs.YtimfponihbfimaaGreat
open Go.Sj Go.Sj.Typ
set_option maxRecDepth 8000
set_option maxHeartbeats 4000000
def idxN (l : List Nod) (p : Nod → Bool) : Int := match l.findIdx? p with | some i => i | none => -1
theorem idxN_any (l : List Nod) (p : Nod → Bool) : (l.any p = true ∧ 0 ≤ idxN l p) ∨ (l.any p = false ∧ idxN l p = -1) := by
  unfold idxN
  cases hf : l.findIdx? p with
  | none =>
    right
    rw [List.findIdx?_eq_none_iff] at hf
    exact ⟨by simpa using hf, rfl⟩
  | some i =>
    left
    rw [List.findIdx?_eq_some_iff_getElem] at hf
    obtain ⟨h1, h2, _⟩ := hf
    exact ⟨List.any_eq_true.2 ⟨_, List.getElem_mem h1, h2⟩, by simp only; omega⟩
theorem idxN_at {l : List Nod} {p : Nod → Bool} {k : Nat} {a : Nod} (h : ∀ x ∈ l.take k, p x = false) (hk : l[k]? = some a) (hp : p a = true) : idxN l p = k := by
  have : l.findIdx? p = some k := by
    rw [List.findIdx?_eq_some_iff_getElem]
    obtain ⟨hlt, he⟩ := List.getElem?_eq_some_iff.1 hk
    refine ⟨hlt, by rw [he]; exact hp, fun j hj => ?_⟩
    have := h l[j] (by rw [List.mem_take_iff_getElem]; exact ⟨j, by omega, rfl⟩)
    simp [this]
  unfold idxN
  rw [this]
theorem IndexFuncN_spec (l : List Nod) (hl : l.length ≤ 1000000) (g : FuncId) (caps : List AV) (p : Nod → Bool) (hg : ∀ a ∈ l, Pure Tryz.prog g (.agg (cNod a) :: caps) (AB (p a))) :
    Pure Tryz.prog 198 [.im 4 (l.map cNod), .fn (.func g) [] caps] (AI (idxN l p)) := by
  have ll : (l.map cNod).length = l.length := by simp
  refine zen Tryz.func198 (by kernel_rfl) rfl Tryz.ntmps198 rfl (by simp) ?_
  repeat (first | refine gA pk ?_)
  rw [ll]
  refine zlx (fun k : Nat => [(0, .im 4 (l.map cNod)), (1, .fn (.func g) [] caps), (7, AI l.length), (8, AI k)]) (fun _ => []) (fun k => k ≤ l.length ∧ ∀ x ∈ l.take k, p x = false) (fun k => l.length - k) 0 ⟨Nat.zero_le _, by simp⟩ ?_ (OSub.refl _) ?_
  · exact subQ
  · rintro k ⟨hk, hp⟩
    rcases Nat.lt_or_ge k l.length with h | h
    · have hx := List.getElem?_eq_getElem h
      have ht := List.take_succ_eq_append_getElem h
      have hc := hg _ (List.getElem_mem h)
      generalize l[k] = y at hx ht hc
      have xk : (l.map cNod)[(k : Int).toNat]? = some (cNod y) := zmp hx
      cases hpy : p y with
      | true =>
        rw [hpy] at hc
        repeat (first | refine gA pk ?_ | (show AL _ _ _ _ _ _ _; first | refine jX tok xk ?_ | refine jP hc ?_))
        rw [← idxN_at hp hx hpy]
        refine finQ ?_
        exact ⟨rfl, rfl⟩
      | false =>
        rw [hpy] at hc
        repeat (first | refine gA pk ?_ | (show AL _ _ _ _ _ _ _; first | refine jX tok xk ?_ | refine jP hc ?_))
        refine ⟨k + 1, ⟨by omega, fun x hx' => ?_⟩, by omega, ?_, OSub.none _⟩
        · rw [ht] at hx'
          rcases List.mem_append.1 hx' with h1 | h1
          · exact hp x h1
          · obtain rfl := List.mem_singleton.1 h1
            exact hpy
        · exact subQ
    · obtain rfl : k = l.length := by omega
      rw [List.take_length] at hp
      repeat (first | refine gA pk ?_)
      rw [show (-1 : Int) = idxN l p from by
        rcases idxN_any l p with ⟨h1, _⟩ | ⟨_, h2⟩
        · obtain ⟨x, hx, hpx⟩ := List.any_eq_true.1 h1
          rw [hp x hx] at hpx; cases hpx
        · exact h2.symm]
      refine finQ ?_
      exact ⟨rfl, rfl⟩
theorem ContainsFuncN_spec (l : List Nod) (hl : l.length ≤ 1000000) (g : FuncId) (caps : List AV) (p : Nod → Bool) (hg : ∀ a ∈ l, Pure Tryz.prog g (.agg (cNod a) :: caps) (AB (p a))) :
    Pure Tryz.prog 183 [.im 4 (l.map cNod), .fn (.func g) [] caps] (AB (l.any p)) := by
  have h := IndexFuncN_spec l hl g caps p hg
  have hc := idxN_any l p
  generalize idxN l p = i at *
  rcases hc with ⟨h1, h2⟩ | ⟨h1, h2⟩
  · rw [h1]
    refine zen Tryz.func183 (by kernel_rfl) rfl Tryz.ntmps183 rfl (by simp) ?_
    repeat (first | refine gA pk ?_ | (show AL _ _ _ _ _ _ _; first | refine jP h ?_))
    refine finQ ?_
    exact ⟨rfl, rfl⟩
  · rw [h1]
    refine zen Tryz.func183 (by kernel_rfl) rfl Tryz.ntmps183 rfl (by simp) ?_
    repeat (first | refine gA pk ?_ | (show AL _ _ _ _ _ _ _; first | refine jP h ?_))
    refine finQ ?_
    exact ⟨rfl, rfl⟩
def idxE (l : List Edg) (p : Edg → Bool) : Int := match l.findIdx? p with | some i => i | none => -1
theorem idxE_any (l : List Edg) (p : Edg → Bool) : (l.any p = true ∧ 0 ≤ idxE l p) ∨ (l.any p = false ∧ idxE l p = -1) := by
  unfold idxE
  cases hf : l.findIdx? p with
  | none =>
    right
    rw [List.findIdx?_eq_none_iff] at hf
    exact ⟨by simpa using hf, rfl⟩
  | some i =>
    left
    rw [List.findIdx?_eq_some_iff_getElem] at hf
    obtain ⟨h1, h2, _⟩ := hf
    exact ⟨List.any_eq_true.2 ⟨_, List.getElem_mem h1, h2⟩, by simp only; omega⟩
theorem idxE_at {l : List Edg} {p : Edg → Bool} {k : Nat} {a : Edg} (h : ∀ x ∈ l.take k, p x = false) (hk : l[k]? = some a) (hp : p a = true) : idxE l p = k := by
  have : l.findIdx? p = some k := by
    rw [List.findIdx?_eq_some_iff_getElem]
    obtain ⟨hlt, he⟩ := List.getElem?_eq_some_iff.1 hk
    refine ⟨hlt, by rw [he]; exact hp, fun j hj => ?_⟩
    have := h l[j] (by rw [List.mem_take_iff_getElem]; exact ⟨j, by omega, rfl⟩)
    simp [this]
  unfold idxE
  rw [this]
theorem IndexFuncE_spec (l : List Edg) (hl : l.length ≤ 1000000) (g : FuncId) (caps : List AV) (p : Edg → Bool) (hg : ∀ a ∈ l, Pure Tryz.prog g (.agg (cEdg a) :: caps) (AB (p a))) :
    Pure Tryz.prog 202 [.im 7 (l.map cEdg), .fn (.func g) [] caps] (AI (idxE l p)) := by
  have ll : (l.map cEdg).length = l.length := by simp
  refine zen Tryz.func202 (by kernel_rfl) rfl Tryz.ntmps202 rfl (by simp) ?_
  repeat (first | refine gA pk ?_)
  rw [ll]
  refine zlx (fun k : Nat => [(0, .im 7 (l.map cEdg)), (1, .fn (.func g) [] caps), (7, AI l.length), (8, AI k)]) (fun _ => []) (fun k => k ≤ l.length ∧ ∀ x ∈ l.take k, p x = false) (fun k => l.length - k) 0 ⟨Nat.zero_le _, by simp⟩ ?_ (OSub.refl _) ?_
  · exact subQ
  · rintro k ⟨hk, hp⟩
    rcases Nat.lt_or_ge k l.length with h | h
    · have hx := List.getElem?_eq_getElem h
      have ht := List.take_succ_eq_append_getElem h
      have hc := hg _ (List.getElem_mem h)
      generalize l[k] = y at hx ht hc
      have xk : (l.map cEdg)[(k : Int).toNat]? = some (cEdg y) := zmp hx
      cases hpy : p y with
      | true =>
        rw [hpy] at hc
        repeat (first | refine gA pk ?_ | (show AL _ _ _ _ _ _ _; first | refine jX tok xk ?_ | refine jP hc ?_))
        rw [← idxE_at hp hx hpy]
        refine finQ ?_
        exact ⟨rfl, rfl⟩
      | false =>
        rw [hpy] at hc
        repeat (first | refine gA pk ?_ | (show AL _ _ _ _ _ _ _; first | refine jX tok xk ?_ | refine jP hc ?_))
        refine ⟨k + 1, ⟨by omega, fun x hx' => ?_⟩, by omega, ?_, OSub.none _⟩
        · rw [ht] at hx'
          rcases List.mem_append.1 hx' with h1 | h1
          · exact hp x h1
          · obtain rfl := List.mem_singleton.1 h1
            exact hpy
        · exact subQ
    · obtain rfl : k = l.length := by omega
      rw [List.take_length] at hp
      repeat (first | refine gA pk ?_)
      rw [show (-1 : Int) = idxE l p from by
        rcases idxE_any l p with ⟨h1, _⟩ | ⟨_, h2⟩
        · obtain ⟨x, hx, hpx⟩ := List.any_eq_true.1 h1
          rw [hp x hx] at hpx; cases hpx
        · exact h2.symm]
      refine finQ ?_
      exact ⟨rfl, rfl⟩
theorem ContainsFuncE_spec (l : List Edg) (hl : l.length ≤ 1000000) (g : FuncId) (caps : List AV) (p : Edg → Bool) (hg : ∀ a ∈ l, Pure Tryz.prog g (.agg (cEdg a) :: caps) (AB (p a))) :
    Pure Tryz.prog 188 [.im 7 (l.map cEdg), .fn (.func g) [] caps] (AB (l.any p)) := by
  have h := IndexFuncE_spec l hl g caps p hg
  have hc := idxE_any l p
  generalize idxE l p = i at *
  rcases hc with ⟨h1, h2⟩ | ⟨h1, h2⟩
  · rw [h1]
    refine zen Tryz.func188 (by kernel_rfl) rfl Tryz.ntmps188 rfl (by simp) ?_
    repeat (first | refine gA pk ?_ | (show AL _ _ _ _ _ _ _; first | refine jP h ?_))
    refine finQ ?_
    exact ⟨rfl, rfl⟩
  · rw [h1]
    refine zen Tryz.func188 (by kernel_rfl) rfl Tryz.ntmps188 rfl (by simp) ?_
    repeat (first | refine gA pk ?_ | (show AL _ _ _ _ _ _ _; first | refine jP h ?_))
    refine finQ ?_
    exact ⟨rfl, rfl⟩
def idxA (l : List Att) (p : Att → Bool) : Int := match l.findIdx? p with | some i => i | none => -1
theorem idxA_any (l : List Att) (p : Att → Bool) : (l.any p = true ∧ 0 ≤ idxA l p) ∨ (l.any p = false ∧ idxA l p = -1) := by
  unfold idxA
  cases hf : l.findIdx? p with
  | none =>
    right
    rw [List.findIdx?_eq_none_iff] at hf
    exact ⟨by simpa using hf, rfl⟩
  | some i =>
    left
    rw [List.findIdx?_eq_some_iff_getElem] at hf
    obtain ⟨h1, h2, _⟩ := hf
    exact ⟨List.any_eq_true.2 ⟨_, List.getElem_mem h1, h2⟩, by simp only; omega⟩
theorem idxA_at {l : List Att} {p : Att → Bool} {k : Nat} {a : Att} (h : ∀ x ∈ l.take k, p x = false) (hk : l[k]? = some a) (hp : p a = true) : idxA l p = k := by
  have : l.findIdx? p = some k := by
    rw [List.findIdx?_eq_some_iff_getElem]
    obtain ⟨hlt, he⟩ := List.getElem?_eq_some_iff.1 hk
    refine ⟨hlt, by rw [he]; exact hp, fun j hj => ?_⟩
    have := h l[j] (by rw [List.mem_take_iff_getElem]; exact ⟨j, by omega, rfl⟩)
    simp [this]
  unfold idxA
  rw [this]
theorem IndexFuncA_spec (l : List Att) (hl : l.length ≤ 1000000) (g : FuncId) (caps : List AV) (p : Att → Bool) (hg : ∀ a ∈ l, Pure Tryz.prog g (.agg (cAtt a) :: caps) (AB (p a))) :
    Pure Tryz.prog 210 [.im 4 (l.map cAtt), .fn (.func g) [] caps] (AI (idxA l p)) := by
  have ll : (l.map cAtt).length = l.length := by simp
  refine zen Tryz.func210 (by kernel_rfl) rfl Tryz.ntmps210 rfl (by simp) ?_
  repeat (first | refine gA pk ?_)
  rw [ll]
  refine zlx (fun k : Nat => [(0, .im 4 (l.map cAtt)), (1, .fn (.func g) [] caps), (7, AI l.length), (8, AI k)]) (fun _ => []) (fun k => k ≤ l.length ∧ ∀ x ∈ l.take k, p x = false) (fun k => l.length - k) 0 ⟨Nat.zero_le _, by simp⟩ ?_ (OSub.refl _) ?_
  · exact subQ
  · rintro k ⟨hk, hp⟩
    rcases Nat.lt_or_ge k l.length with h | h
    · have hx := List.getElem?_eq_getElem h
      have ht := List.take_succ_eq_append_getElem h
      have hc := hg _ (List.getElem_mem h)
      generalize l[k] = y at hx ht hc
      have xk : (l.map cAtt)[(k : Int).toNat]? = some (cAtt y) := zmp hx
      cases hpy : p y with
      | true =>
        rw [hpy] at hc
        repeat (first | refine gA pk ?_ | (show AL _ _ _ _ _ _ _; first | refine jX tok xk ?_ | refine jP hc ?_))
        rw [← idxA_at hp hx hpy]
        refine finQ ?_
        exact ⟨rfl, rfl⟩
      | false =>
        rw [hpy] at hc
        repeat (first | refine gA pk ?_ | (show AL _ _ _ _ _ _ _; first | refine jX tok xk ?_ | refine jP hc ?_))
        refine ⟨k + 1, ⟨by omega, fun x hx' => ?_⟩, by omega, ?_, OSub.none _⟩
        · rw [ht] at hx'
          rcases List.mem_append.1 hx' with h1 | h1
          · exact hp x h1
          · obtain rfl := List.mem_singleton.1 h1
            exact hpy
        · exact subQ
    · obtain rfl : k = l.length := by omega
      rw [List.take_length] at hp
      repeat (first | refine gA pk ?_)
      rw [show (-1 : Int) = idxA l p from by
        rcases idxA_any l p with ⟨h1, _⟩ | ⟨_, h2⟩
        · obtain ⟨x, hx, hpx⟩ := List.any_eq_true.1 h1
          rw [hp x hx] at hpx; cases hpx
        · exact h2.symm]
      refine finQ ?_
      exact ⟨rfl, rfl⟩
theorem ContainsFuncA_spec (l : List Att) (hl : l.length ≤ 1000000) (g : FuncId) (caps : List AV) (p : Att → Bool) (hg : ∀ a ∈ l, Pure Tryz.prog g (.agg (cAtt a) :: caps) (AB (p a))) :
    Pure Tryz.prog 199 [.im 4 (l.map cAtt), .fn (.func g) [] caps] (AB (l.any p)) := by
  have h := IndexFuncA_spec l hl g caps p hg
  have hc := idxA_any l p
  generalize idxA l p = i at *
  rcases hc with ⟨h1, h2⟩ | ⟨h1, h2⟩
  · rw [h1]
    refine zen Tryz.func199 (by kernel_rfl) rfl Tryz.ntmps199 rfl (by simp) ?_
    repeat (first | refine gA pk ?_ | (show AL _ _ _ _ _ _ _; first | refine jP h ?_))
    refine finQ ?_
    exact ⟨rfl, rfl⟩
  · rw [h1]
    refine zen Tryz.func199 (by kernel_rfl) rfl Tryz.ntmps199 rfl (by simp) ?_
    repeat (first | refine gA pk ?_ | (show AL _ _ _ _ _ _ _; first | refine jP h ?_))
    refine finQ ?_
    exact ⟨rfl, rfl⟩
def idxI (l : List Int) (p : Int → Bool) : Int := match l.findIdx? p with | some i => i | none => -1
theorem idxI_any (l : List Int) (p : Int → Bool) : (l.any p = true ∧ 0 ≤ idxI l p) ∨ (l.any p = false ∧ idxI l p = -1) := by
  unfold idxI
  cases hf : l.findIdx? p with
  | none =>
    right
    rw [List.findIdx?_eq_none_iff] at hf
    exact ⟨by simpa using hf, rfl⟩
  | some i =>
    left
    rw [List.findIdx?_eq_some_iff_getElem] at hf
    obtain ⟨h1, h2, _⟩ := hf
    exact ⟨List.any_eq_true.2 ⟨_, List.getElem_mem h1, h2⟩, by simp only; omega⟩
theorem idxI_at {l : List Int} {p : Int → Bool} {k : Nat} {a : Int} (h : ∀ x ∈ l.take k, p x = false) (hk : l[k]? = some a) (hp : p a = true) : idxI l p = k := by
  have : l.findIdx? p = some k := by
    rw [List.findIdx?_eq_some_iff_getElem]
    obtain ⟨hlt, he⟩ := List.getElem?_eq_some_iff.1 hk
    refine ⟨hlt, by rw [he]; exact hp, fun j hj => ?_⟩
    have := h l[j] (by rw [List.mem_take_iff_getElem]; exact ⟨j, by omega, rfl⟩)
    simp [this]
  unfold idxI
  rw [this]
theorem IndexFuncI_spec (l : List Int) (hl : l.length ≤ 1000000) (g : FuncId) (caps : List AV) (p : Int → Bool) (hg : ∀ a ∈ l, Pure Tryz.prog g (AI a :: caps) (AB (p a))) :
    Pure Tryz.prog 146 [.im 1 (l.map cI), .fn (.func g) [] caps] (AI (idxI l p)) := by
  have ll : (l.map cI).length = l.length := by simp
  refine zen Tryz.func146 (by kernel_rfl) rfl Tryz.ntmps146 rfl (by simp) ?_
  repeat (first | refine gA pk ?_)
  rw [ll]
  refine zlx (fun k : Nat => [(0, .im 1 (l.map cI)), (1, .fn (.func g) [] caps), (7, AI l.length), (8, AI k)]) (fun _ => []) (fun k => k ≤ l.length ∧ ∀ x ∈ l.take k, p x = false) (fun k => l.length - k) 0 ⟨Nat.zero_le _, by simp⟩ ?_ (OSub.refl _) ?_
  · exact subQ
  · rintro k ⟨hk, hp⟩
    rcases Nat.lt_or_ge k l.length with h | h
    · have hx := List.getElem?_eq_getElem h
      have ht := List.take_succ_eq_append_getElem h
      have hc := hg _ (List.getElem_mem h)
      generalize l[k] = y at hx ht hc
      have xk : (l.map cI)[(k : Int).toNat]? = some (cI y) := zmp hx
      cases hpy : p y with
      | true =>
        rw [hpy] at hc
        repeat (first | refine gA pk ?_ | (show AL _ _ _ _ _ _ _; first | refine jX tok xk ?_ | refine jP hc ?_))
        rw [← idxI_at hp hx hpy]
        refine finQ ?_
        exact ⟨rfl, rfl⟩
      | false =>
        rw [hpy] at hc
        repeat (first | refine gA pk ?_ | (show AL _ _ _ _ _ _ _; first | refine jX tok xk ?_ | refine jP hc ?_))
        refine ⟨k + 1, ⟨by omega, fun x hx' => ?_⟩, by omega, ?_, OSub.none _⟩
        · rw [ht] at hx'
          rcases List.mem_append.1 hx' with h1 | h1
          · exact hp x h1
          · obtain rfl := List.mem_singleton.1 h1
            exact hpy
        · exact subQ
    · obtain rfl : k = l.length := by omega
      rw [List.take_length] at hp
      repeat (first | refine gA pk ?_)
      rw [show (-1 : Int) = idxI l p from by
        rcases idxI_any l p with ⟨h1, _⟩ | ⟨_, h2⟩
        · obtain ⟨x, hx, hpx⟩ := List.any_eq_true.1 h1
          rw [hp x hx] at hpx; cases hpx
        · exact h2.symm]
      refine finQ ?_
      exact ⟨rfl, rfl⟩
theorem ContainsFuncI_spec (l : List Int) (hl : l.length ≤ 1000000) (g : FuncId) (caps : List AV) (p : Int → Bool) (hg : ∀ a ∈ l, Pure Tryz.prog g (AI a :: caps) (AB (p a))) :
    Pure Tryz.prog 97 [.im 1 (l.map cI), .fn (.func g) [] caps] (AB (l.any p)) := by
  have h := IndexFuncI_spec l hl g caps p hg
  have hc := idxI_any l p
  generalize idxI l p = i at *
  rcases hc with ⟨h1, h2⟩ | ⟨h1, h2⟩
  · rw [h1]
    refine zen Tryz.func97 (by kernel_rfl) rfl Tryz.ntmps97 rfl (by simp) ?_
    repeat (first | refine gA pk ?_ | (show AL _ _ _ _ _ _ _; first | refine jP h ?_))
    refine finQ ?_
    exact ⟨rfl, rfl⟩
  · rw [h1]
    refine zen Tryz.func97 (by kernel_rfl) rfl Tryz.ntmps97 rfl (by simp) ?_
    repeat (first | refine gA pk ?_ | (show AL _ _ _ _ _ _ _; first | refine jP h ?_))
    refine finQ ?_
    exact ⟨rfl, rfl⟩
end Go.Proofs.YtimfponihbfimaaGreat
end
