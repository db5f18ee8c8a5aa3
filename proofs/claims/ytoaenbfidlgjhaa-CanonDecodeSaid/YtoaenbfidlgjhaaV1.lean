/-
  Walks: Y7, Y15, Z1, Z2, Z3, Z4, Z5, Z6, Z7, Z17, Z21.
-/
import Derived.Test.YtoaenbfidlgjhaaSjQ8
import Derived.Test.YtoaenbfidlgjhaaTy
import Derived.Test.YtoaenbfidlgjhaaSjQM
import Derived.Test.YtoaenbfidlgjhaaSjQ6
import Derived.Test.YtoaenbfidlgjhaaSjQN
import Derived.Test.YtoaenbfidlgjhaaSjQ7
import Derived.Test.YtoaenbfidlgjhaaSjL25
import Derived.Test.YtoaenbfidlgjhaaSjQC
/-
  Whether a list holds something that a function accepts: the walks.
-/
namespace Go.Proofs.Ytoaenbfidlgjhaa
open Go.Sj Go.Sj.Typ
set_option linter.unusedVariables false
set_option maxHeartbeats 4000000

def idxN (l : List Nod) (p : Nod → Bool) : Int := match l.findIdx? p with | some i => i | none => -1
theorem idxN_any (l : List Nod) (p : Nod → Bool) : (l.any p = true ∧ 0 ≤ idxN l p) ∨ (l.any p = false ∧ idxN l p = -1) := by
  unfold idxN
  cases hf : l.findIdx? p with
  | none =>
    right
    rw [List.findIdx?_eq_none_iff] at hf
    exact ⟨by simpa using hf, rfl⟩
  | some i =>
    left
    rw [List.findIdx?_eq_some_iff_getElem] at hf
    obtain ⟨h1, h2, _⟩ := hf
    exact ⟨List.any_eq_true.2 ⟨_, List.getElem_mem h1, h2⟩, by simp only; omega⟩
theorem idxN_at {l : List Nod} {p : Nod → Bool} {k : Nat} {a : Nod} (h : ∀ x ∈ l.take k, p x = false) (hk : l[k]? = some a) (hp : p a = true) : idxN l p = k := by
  have : l.findIdx? p = some k := by
    rw [List.findIdx?_eq_some_iff_getElem]
    obtain ⟨hlt, he⟩ := List.getElem?_eq_some_iff.1 hk
    refine ⟨hlt, by rw [he]; exact hp, fun j hj => ?_⟩
    have := h l[j] (by rw [List.mem_take_iff_getElem]; exact ⟨j, by omega, rfl⟩)
    simp [this]
  unfold idxN
  rw [this]
def idxE (l : List Edg) (p : Edg → Bool) : Int := match l.findIdx? p with | some i => i | none => -1
theorem idxE_any (l : List Edg) (p : Edg → Bool) : (l.any p = true ∧ 0 ≤ idxE l p) ∨ (l.any p = false ∧ idxE l p = -1) := by
  unfold idxE
  cases hf : l.findIdx? p with
  | none =>
    right
    rw [List.findIdx?_eq_none_iff] at hf
    exact ⟨by simpa using hf, rfl⟩
  | some i =>
    left
    rw [List.findIdx?_eq_some_iff_getElem] at hf
    obtain ⟨h1, h2, _⟩ := hf
    exact ⟨List.any_eq_true.2 ⟨_, List.getElem_mem h1, h2⟩, by simp only; omega⟩
theorem idxE_at {l : List Edg} {p : Edg → Bool} {k : Nat} {a : Edg} (h : ∀ x ∈ l.take k, p x = false) (hk : l[k]? = some a) (hp : p a = true) : idxE l p = k := by
  have : l.findIdx? p = some k := by
    rw [List.findIdx?_eq_some_iff_getElem]
    obtain ⟨hlt, he⟩ := List.getElem?_eq_some_iff.1 hk
    refine ⟨hlt, by rw [he]; exact hp, fun j hj => ?_⟩
    have := h l[j] (by rw [List.mem_take_iff_getElem]; exact ⟨j, by omega, rfl⟩)
    simp [this]
  unfold idxE
  rw [this]
def idxA (l : List Att) (p : Att → Bool) : Int := match l.findIdx? p with | some i => i | none => -1
theorem idxA_any (l : List Att) (p : Att → Bool) : (l.any p = true ∧ 0 ≤ idxA l p) ∨ (l.any p = false ∧ idxA l p = -1) := by
  unfold idxA
  cases hf : l.findIdx? p with
  | none =>
    right
    rw [List.findIdx?_eq_none_iff] at hf
    exact ⟨by simpa using hf, rfl⟩
  | some i =>
    left
    rw [List.findIdx?_eq_some_iff_getElem] at hf
    obtain ⟨h1, h2, _⟩ := hf
    exact ⟨List.any_eq_true.2 ⟨_, List.getElem_mem h1, h2⟩, by simp only; omega⟩
theorem idxA_at {l : List Att} {p : Att → Bool} {k : Nat} {a : Att} (h : ∀ x ∈ l.take k, p x = false) (hk : l[k]? = some a) (hp : p a = true) : idxA l p = k := by
  have : l.findIdx? p = some k := by
    rw [List.findIdx?_eq_some_iff_getElem]
    obtain ⟨hlt, he⟩ := List.getElem?_eq_some_iff.1 hk
    refine ⟨hlt, by rw [he]; exact hp, fun j hj => ?_⟩
    have := h l[j] (by rw [List.mem_take_iff_getElem]; exact ⟨j, by omega, rfl⟩)
    simp [this]
  unfold idxA
  rw [this]
def idxI (l : List Int) (p : Int → Bool) : Int := match l.findIdx? p with | some i => i | none => -1
theorem idxI_any (l : List Int) (p : Int → Bool) : (l.any p = true ∧ 0 ≤ idxI l p) ∨ (l.any p = false ∧ idxI l p = -1) := by
  unfold idxI
  cases hf : l.findIdx? p with
  | none =>
    right
    rw [List.findIdx?_eq_none_iff] at hf
    exact ⟨by simpa using hf, rfl⟩
  | some i =>
    left
    rw [List.findIdx?_eq_some_iff_getElem] at hf
    obtain ⟨h1, h2, _⟩ := hf
    exact ⟨List.any_eq_true.2 ⟨_, List.getElem_mem h1, h2⟩, by simp only; omega⟩
theorem idxI_at {l : List Int} {p : Int → Bool} {k : Nat} {a : Int} (h : ∀ x ∈ l.take k, p x = false) (hk : l[k]? = some a) (hp : p a = true) : idxI l p = k := by
  have : l.findIdx? p = some k := by
    rw [List.findIdx?_eq_some_iff_getElem]
    obtain ⟨hlt, he⟩ := List.getElem?_eq_some_iff.1 hk
    refine ⟨hlt, by rw [he]; exact hp, fun j hj => ?_⟩
    have := h l[j] (by rw [List.mem_take_iff_getElem]; exact ⟨j, by omega, rfl⟩)
    simp [this]
  unfold idxI
  rw [this]
theorem IndexFuncI_spec (l : List Int) (hl : l.length ≤ 1000000) (g : FuncId) (caps : List AV) (p : Int → Bool) (hg : ∀ a ∈ l, Pure Try.prog g (AI a :: caps) (AB (p a))) :
    Pure Try.prog 63 [.im 1 (l.map cI), .fn (.func g) [] caps] (AI (idxI l p)) := by
  have ll : (l.map cI).length = l.length := by simp
  refine a_enter Try.func63 (by kernel_rfl) rfl Try.ntmps63 rfl (by simp) ?_
  repeat (first | refine gA pk ?_)
  rw [ll]
  refine a_loopX (fun k : Nat => [(0, .im 1 (l.map cI)), (1, .fn (.func g) [] caps), (7, AI l.length), (8, AI k)]) (fun _ => []) (fun k => k ≤ l.length ∧ ∀ x ∈ l.take k, p x = false) (fun k => l.length - k) 0 ⟨Nat.zero_le _, by simp⟩ ?_ (OSub.refl _) ?_
  · exact subQ
  · rintro k ⟨hk, hp⟩
    rcases Nat.lt_or_ge k l.length with h | h
    · have hx := List.getElem?_eq_getElem h
      have ht := List.take_succ_eq_append_getElem h
      have hc := hg _ (List.getElem_mem h)
      generalize l[k] = y at hx ht hc
      have xk : (l.map cI)[(k : Int).toNat]? = some (cI y) := map_get hx
      cases hpy : p y with
      | true =>
        rw [hpy] at hc
        repeat (first | refine gA pk ?_ | (show AL _ _ _ _ _ _ _; first | refine jX tok xk ?_ | refine jP hc ?_))
        rw [← idxI_at hp hx hpy]
        refine finQ ?_
        exact ⟨rfl, rfl⟩
      | false =>
        rw [hpy] at hc
        repeat (first | refine gA pk ?_ | (show AL _ _ _ _ _ _ _; first | refine jX tok xk ?_ | refine jP hc ?_))
        refine ⟨k + 1, ⟨by omega, fun x hx' => ?_⟩, by omega, ?_, OSub.none _⟩
        · rw [ht] at hx'
          rcases List.mem_append.1 hx' with h1 | h1
          · exact hp x h1
          · obtain rfl := List.mem_singleton.1 h1
            exact hpy
        · exact subQ
    · obtain rfl : k = l.length := by omega
      rw [List.take_length] at hp
      repeat (first | refine gA pk ?_)
      rw [show (-1 : Int) = idxI l p from by
        rcases idxI_any l p with ⟨h1, _⟩ | ⟨_, h2⟩
        · obtain ⟨x, hx, hpx⟩ := List.any_eq_true.1 h1
          rw [hp x hx] at hpx; cases hpx
        · exact h2.symm]
      refine finQ ?_
      exact ⟨rfl, rfl⟩
theorem ContainsFuncI_spec (l : List Int) (hl : l.length ≤ 1000000) (g : FuncId) (caps : List AV) (p : Int → Bool) (hg : ∀ a ∈ l, Pure Try.prog g (AI a :: caps) (AB (p a))) :
    Pure Try.prog 40 [.im 1 (l.map cI), .fn (.func g) [] caps] (AB (l.any p)) := by
  have h := IndexFuncI_spec l hl g caps p hg
  have hc := idxI_any l p
  generalize idxI l p = i at *
  rcases hc with ⟨h1, h2⟩ | ⟨h1, h2⟩
  · rw [h1]
    refine a_enter Try.func40 (by kernel_rfl) rfl Try.ntmps40 rfl (by simp) ?_
    repeat (first | refine gA pk ?_ | (show AL _ _ _ _ _ _ _; first | refine jP h ?_))
    refine finQ ?_
    exact ⟨rfl, rfl⟩
  · rw [h1]
    refine a_enter Try.func40 (by kernel_rfl) rfl Try.ntmps40 rfl (by simp) ?_
    repeat (first | refine gA pk ?_ | (show AL _ _ _ _ _ _ _; first | refine jP h ?_))
    refine finQ ?_
    exact ⟨rfl, rfl⟩
end Go.Proofs.Ytoaenbfidlgjhaa

/-
  Rows of numbers turned around, searched; chains of supertypes: the walks.
-/
namespace Go.Proofs.Ytoaenbfidlgjhaa
open Go.Sj Go.Sj.Typ
set_option linter.unusedVariables false
set_option maxHeartbeats 4000000

theorem obset_int {E : Nat} {l : List Int} {j : Nat} {q0 q : Int} (h : l[j]? = some q0) : obSet (.row E 1 (rowI l)) j 0 (cI q) = .row E 1 (rowI (l.set j q)) := by
  simp only [obSet, rowI, List.map_set]
  rw [List.getD_eq_getElem?_getD, List.getElem?_map, h]
  rfl
theorem obat_int {E : Nat} {l : List Int} {j : Nat} {q0 : Int} (h : l[j]? = some q0) : obAt (.row E 1 (rowI l)) j 0 = some (cI q0) := by
  simp only [obAt, rowI, List.getElem?_map, h]; rfl
def idxV (l : List Int) (v : Int) : Int := match l.findIdx? (fun x => decide (v = x)) with | some i => i | none => -1
theorem idxV_pos (l : List Int) (v : Int) : (v ∈ l ∧ 0 ≤ idxV l v) ∨ (v ∉ l ∧ idxV l v = -1) := by
  unfold idxV
  by_cases h : v ∈ l
  · left
    refine ⟨h, ?_⟩
    cases hf : l.findIdx? (fun x => decide (v = x)) with
    | none =>
      rw [List.findIdx?_eq_none_iff] at hf
      have := hf v h
      simp at this
    | some i => simp only; omega
  · right
    refine ⟨h, ?_⟩
    rw [show l.findIdx? (fun x => decide (v = x)) = none from by
      rw [List.findIdx?_eq_none_iff]
      intro x hx
      simp only [decide_eq_false_iff_not]
      rintro rfl
      exact h hx]
theorem idxV_at {l : List Int} {v : Int} {k : Nat} (h : ∀ x ∈ l.take k, v ≠ x) (hk : l[k]? = some v) : idxV l v = k := by
  have : l.findIdx? (fun x => decide (v = x)) = some k := by
    rw [List.findIdx?_eq_some_iff_getElem]
    obtain ⟨hlt, he⟩ := List.getElem?_eq_some_iff.1 hk
    refine ⟨hlt, by simp [he], fun j hj => ?_⟩
    have := h l[j] (by rw [List.mem_take_iff_getElem]; exact ⟨j, by omega, rfl⟩)
    simpa using this
  unfold idxV
  rw [this]
theorem take_allI {α : Type} {p : α → Prop} {l : List α} {k : Nat} {x : α} (hx : l[k]? = some x) (h : ∀ y ∈ l.take k, p y) (hp : p x) : ∀ y ∈ l.take (k + 1), p y := by
  obtain ⟨hk, he⟩ := List.getElem?_eq_some_iff.1 hx
  intro y hy
  rw [List.take_succ_eq_append_getElem hk] at hy
  rcases List.mem_append.1 hy with h1 | h1
  · exact h y h1
  · obtain rfl := List.mem_singleton.1 h1
    rw [he]; exact hp
theorem IndexV_spec (l : List Int) (hl : l.length ≤ 1000000) (v : Int) : Pure Try.prog 64 [ints l, AI v] (AI (idxV l v)) := by
  have ll : (rowI l).length = l.length := by simp
  refine a_enter Try.func64 (by kernel_rfl) rfl Try.ntmps64 rfl (by simp) ?_
  repeat (first | refine gA pk ?_)
  rw [ll]
  refine a_loopX (fun k : Nat => [(0, ints l), (1, AI v), (7, AI l.length), (8, AI k)]) (fun _ => []) (fun k => k ≤ l.length ∧ ∀ x ∈ l.take k, v ≠ x) (fun k => l.length - k) 0 ⟨Nat.zero_le _, by simp⟩ ?_ (OSub.refl _) ?_
  · exact subQ
  · rintro k ⟨hk, hp⟩
    rcases Nat.lt_or_ge k l.length with h | h
    · have hx := List.getElem?_eq_getElem h
      generalize l[k] = y at hx
      have xk : (rowI l)[(k : Int).toNat]? = some [AI y] := map_get (f := cI) hx
      by_cases he : v = y
      · subst he
        rw [idxV_at hp hx]
        repeat (first | refine gA pk ?_ | (show AL _ _ _ _ _ _ _; first | refine jX tok xk ?_))
        refine finQ ?_
        exact ⟨rfl, rfl⟩
      · repeat (first | refine gA pk ?_ | (show AL _ _ _ _ _ _ _; first | refine jX tok xk ?_))
        exact ⟨k + 1, ⟨by omega, take_allI hx hp he⟩, by omega, by exact subQ, OSub.none _⟩
    · obtain rfl : k = l.length := by omega
      rw [List.take_length] at hp
      repeat (first | refine gA pk ?_)
      rw [show (-1 : Int) = idxV l v from by
        rcases idxV_pos l v with ⟨h1, _⟩ | ⟨_, h2⟩
        · exact absurd rfl (hp v h1)
        · exact h2.symm]
      refine finQ ?_
      exact ⟨rfl, rfl⟩
theorem ContainsV_spec (l : List Int) (hl : l.length ≤ 1000000) (v : Int) : Pure Try.prog 42 [ints l, AI v] (AB (decide (v ∈ l))) := by
  have h := IndexV_spec l hl v
  have hc := idxV_pos l v
  generalize idxV l v = i at *
  rcases hc with ⟨h1, h2⟩ | ⟨h1, h2⟩
  · rw [decide_eq_true h1]
    refine a_enter Try.func42 (by kernel_rfl) rfl Try.ntmps42 rfl (by simp) ?_
    repeat (first | refine gA pk ?_ | (show AL _ _ _ _ _ _ _; first | refine jP h ?_))
    refine finQ ?_
    exact ⟨rfl, rfl⟩
  · rw [decide_eq_false h1]
    refine a_enter Try.func42 (by kernel_rfl) rfl Try.ntmps42 rfl (by simp) ?_
    repeat (first | refine gA pk ?_ | (show AL _ _ _ _ _ _ _; first | refine jP h ?_))
    refine finQ ?_
    exact ⟨rfl, rfl⟩
end Go.Proofs.Ytoaenbfidlgjhaa

/-
  Rows of counts: copies, insertion, deletion: the walks of package slices. Conditions: short rows.
-/
namespace Go.Proofs.Ytoaenbfidlgjhaa
open Go.Sj Go.Sj.Typ Go.Sj.Sta
set_option linter.unusedVariables false
set_option linter.unusedSimpArgs false
set_option maxHeartbeats 4000000

theorem cCnt_cell (l : List Cnt) : (l.map cCnt).all (fun e => e.all AV.cell) = true := by simp [cCnt, AV.cell, Value.oneCell']
theorem ins_grow {A : Type} (Z : List A) (x : A) (r : List A) {n k : Nat} (hn : Z.length = n) (hk : k < n) (hr : r.length = n + 1 - k) :
    (((Z.take k ++ r).take k ++ [x].take 1 ++ (Z.take k ++ r).drop (k + 1)).take (k + 1) ++ ((Z.take n).drop k).take (n - k) ++ ((Z.take k ++ r).take k ++ [x].take 1 ++ (Z.take k ++ r).drop (k + 1)).drop (k + 1 + (n - k))) = Z.take k ++ x :: Z.drop k := by
  have h1 : (Z.take k).length = k := by rw [List.length_take]; omega
  have e1 : (Z.take k ++ r).take k = Z.take k := by rw [List.take_append_of_le_length (by omega), List.take_of_length_le (by omega)]
  have e2 : (Z.take k ++ r).drop (k + 1) = r.drop 1 := by rw [List.drop_append, h1, List.drop_eq_nil_of_le (by omega), show k + 1 - k = 1 by omega]; rfl
  have e3 : (Z.take n).drop k = Z.drop k := by rw [List.take_of_length_le (by omega)]
  have e4 : (Z.drop k).take (n - k) = Z.drop k := List.take_of_length_le (by rw [List.length_drop]; omega)
  rw [e1, e2, e3, e4, show [x].take 1 = [x] from rfl]
  have h2 : (Z.take k ++ [x]).length = k + 1 := by rw [List.length_append, h1]; rfl
  have f1 : (Z.take k ++ [x] ++ r.drop 1).take (k + 1) = Z.take k ++ [x] := by
    rw [List.take_append_of_le_length (by omega)]
    exact List.take_of_length_le (by omega)
  have f2 : (Z.take k ++ [x] ++ r.drop 1).drop (k + 1 + (n - k)) = [] := List.drop_eq_nil_of_le (by rw [List.length_append, h2, List.length_drop]; omega)
  rw [f1, f2]
  simp
theorem ins_room {A : Type} (Z : List A) (x : A) (r : List A) {n k : Nat} (hn : Z.length = n) (hk : k < n) (hr : r.length = 1) :
    (((Z ++ r).take (k + 1) ++ (((Z ++ r).take (n + 1)).drop k).take (n - k) ++ (Z ++ r).drop (k + 1 + (n - k))).take k ++ [x].take 1 ++ ((Z ++ r).take (k + 1) ++ (((Z ++ r).take (n + 1)).drop k).take (n - k) ++ (Z ++ r).drop (k + 1 + (n - k))).drop (k + 1)) = Z.take k ++ x :: Z.drop k := by
  have hl : (Z ++ r).length = n + 1 := by simp [hn, hr]
  have e1 : (Z ++ r).take (k + 1) = Z.take (k + 1) := List.take_append_of_le_length (by omega)
  have e2 : ((Z ++ r).take (n + 1)).drop k = Z.drop k ++ r := by rw [List.take_of_length_le (by omega), List.drop_append_of_le_length (by omega)]
  have e3 : (Z.drop k ++ r).take (n - k) = Z.drop k := by
    have : (Z.drop k).length = n - k := by rw [List.length_drop]; omega
    rw [List.take_append_of_le_length (by omega), List.take_of_length_le (by omega)]
  have e4 : (Z ++ r).drop (k + 1 + (n - k)) = [] := List.drop_eq_nil_of_le (by omega)
  rw [e1, e2, e3, e4, List.append_nil, show [x].take 1 = [x] from rfl]
  have h1 : (Z.take (k + 1)).length = k + 1 := by rw [List.length_take]; omega
  have e5 : (Z.take (k + 1) ++ Z.drop k).take k = Z.take k := by
    rw [List.take_append_of_le_length (by omega), List.take_take, Nat.min_eq_left (by omega)]
  have e6 : (Z.take (k + 1) ++ Z.drop k).drop (k + 1) = Z.drop k := by
    rw [List.drop_append, h1, List.drop_eq_nil_of_le (by omega), Nat.sub_self]; rfl
  rw [e5, e6]
  simp
theorem cell_sub {l : List (List AV)} {n k m : Nat} (h : l.all (fun e => e.all AV.cell) = true) : (((l.take n).drop k).take m).all (fun e => e.all AV.cell) = true := by
  rw [List.all_eq_true] at h ⊢
  exact fun e he => h e (List.mem_of_mem_take (List.mem_of_mem_drop (List.mem_of_mem_take he)))
end Go.Proofs.Ytoaenbfidlgjhaa

/-
  Rows of counts: deletion, binary search, equality: the walks of package slices. Conditions: short rows.
-/
namespace Go.Proofs.Ytoaenbfidlgjhaa
open Go.Sj Go.Sj.Typ Go.Sj.Sta
set_option linter.unusedVariables false
set_option linter.unusedSimpArgs false
set_option maxHeartbeats 4000000

def fndB (l : List Cnt) (x : Cnt) : Bool := match l[plc l x]? with
  | some c => decide (keq c x)
  | none => false
theorem cSub (l : List Cnt) {k : Nat} (h : k < l.length) : (l.map cCnt)[k]? = some (cCnt l[k]) := map_get (List.getElem?_eq_getElem h)
abbrev toIC (c : Cnt) : List Int := [c.ty, c.fr, c.to, c.nu]
theorem toIC_eq {a b : Cnt} : toIC a = toIC b ↔ a = b := by
  cases a; cases b; simp
theorem take_eq1 {A : Type} {xs ys : List A} {k : Nat} {a b : A} (hx : xs[k]? = some a) (hy : ys[k]? = some b) (h : xs.take k = ys.take k) (e : a = b) : xs.take (k + 1) = ys.take (k + 1) := by
  obtain ⟨h1, rfl⟩ := List.getElem?_eq_some_iff.1 hx
  obtain ⟨h2, rfl⟩ := List.getElem?_eq_some_iff.1 hy
  rw [List.take_succ_eq_append_getElem h1, List.take_succ_eq_append_getElem h2, h, e]
end Go.Proofs.Ytoaenbfidlgjhaa

/-
  Counts, edges: searches by a predicate; comparisons; sums: the walks. Conditions: short rows, small numbers.
-/
namespace Go.Proofs.Ytoaenbfidlgjhaa
open Go.Sj Go.Sj.Typ Go.Sj.Sta
set_option linter.unusedVariables false
set_option linter.unusedSimpArgs false
set_option maxHeartbeats 4000000

def idxC (l : List Cnt) (p : Cnt → Bool) : Int := match l.findIdx? p with | some i => i | none => -1
theorem idxC_any (l : List Cnt) (p : Cnt → Bool) : (l.any p = true ∧ 0 ≤ idxC l p) ∨ (l.any p = false ∧ idxC l p = -1) := by
  unfold idxC
  cases hf : l.findIdx? p with
  | none =>
    right
    rw [List.findIdx?_eq_none_iff] at hf
    exact ⟨by simpa using hf, rfl⟩
  | some i =>
    left
    rw [List.findIdx?_eq_some_iff_getElem] at hf
    obtain ⟨h1, h2, _⟩ := hf
    exact ⟨List.any_eq_true.2 ⟨_, List.getElem_mem h1, h2⟩, by simp only; omega⟩
theorem idxC_at {l : List Cnt} {p : Cnt → Bool} {k : Nat} {a : Cnt} (h : ∀ x ∈ l.take k, p x = false) (hk : l[k]? = some a) (hp : p a = true) : idxC l p = k := by
  have : l.findIdx? p = some k := by
    rw [List.findIdx?_eq_some_iff_getElem]
    obtain ⟨hlt, he⟩ := List.getElem?_eq_some_iff.1 hk
    refine ⟨hlt, by rw [he]; exact hp, fun j hj => ?_⟩
    have := h l[j] (by rw [List.mem_take_iff_getElem]; exact ⟨j, by omega, rfl⟩)
    simp [this]
  unfold idxC
  rw [this]
def idxG (l : List Ed) (p : Ed → Bool) : Int := match l.findIdx? p with | some i => i | none => -1
theorem idxG_any (l : List Ed) (p : Ed → Bool) : (l.any p = true ∧ 0 ≤ idxG l p) ∨ (l.any p = false ∧ idxG l p = -1) := by
  unfold idxG
  cases hf : l.findIdx? p with
  | none =>
    right
    rw [List.findIdx?_eq_none_iff] at hf
    exact ⟨by simpa using hf, rfl⟩
  | some i =>
    left
    rw [List.findIdx?_eq_some_iff_getElem] at hf
    obtain ⟨h1, h2, _⟩ := hf
    exact ⟨List.any_eq_true.2 ⟨_, List.getElem_mem h1, h2⟩, by simp only; omega⟩
theorem idxG_at {l : List Ed} {p : Ed → Bool} {k : Nat} {a : Ed} (h : ∀ x ∈ l.take k, p x = false) (hk : l[k]? = some a) (hp : p a = true) : idxG l p = k := by
  have : l.findIdx? p = some k := by
    rw [List.findIdx?_eq_some_iff_getElem]
    obtain ⟨hlt, he⟩ := List.getElem?_eq_some_iff.1 hk
    refine ⟨hlt, by rw [he]; exact hp, fun j hj => ?_⟩
    have := h l[j] (by rw [List.mem_take_iff_getElem]; exact ⟨j, by omega, rfl⟩)
    simp [this]
  unfold idxG
  rw [this]
theorem IndexFuncG_spec (l : List Ed) (hl : l.length ≤ 1000000) (g : FuncId) (caps : List AV) (p : Ed → Bool) (hg : ∀ a ∈ l, Pure Try.prog g (.agg (cEd a) :: caps) (AB (p a))) :
    Pure Try.prog 87 [.im 3 (l.map cEd), .fn (.func g) [] caps] (AI (idxG l p)) := by
  have ll : (l.map cEd).length = l.length := by simp
  refine a_enter Try.func87 (by kernel_rfl) rfl Try.ntmps87 rfl (by simp) ?_
  repeat (first | refine gA pk ?_)
  rw [ll]
  refine a_loopX (fun k : Nat => [(0, .im 3 (l.map cEd)), (1, .fn (.func g) [] caps), (7, AI l.length), (8, AI k)]) (fun _ => []) (fun k => k ≤ l.length ∧ ∀ x ∈ l.take k, p x = false) (fun k => l.length - k) 0 ⟨Nat.zero_le _, by simp⟩ ?_ (OSub.refl _) ?_
  · exact subQ
  · rintro k ⟨hk, hp⟩
    rcases Nat.lt_or_ge k l.length with h | h
    · have hx := List.getElem?_eq_getElem h
      have ht := List.take_succ_eq_append_getElem h
      have hc := hg _ (List.getElem_mem h)
      generalize l[k] = y at hx ht hc
      have xk : (l.map cEd)[(k : Int).toNat]? = some (cEd y) := map_get hx
      cases hpy : p y with
      | true =>
        rw [hpy] at hc
        repeat (first | refine gA pk ?_ | (show AL _ _ _ _ _ _ _; first | refine jX tok xk ?_ | refine jP hc ?_))
        rw [← idxG_at hp hx hpy]
        refine finQ ?_
        exact ⟨rfl, rfl⟩
      | false =>
        rw [hpy] at hc
        repeat (first | refine gA pk ?_ | (show AL _ _ _ _ _ _ _; first | refine jX tok xk ?_ | refine jP hc ?_))
        refine ⟨k + 1, ⟨by omega, fun x hx' => ?_⟩, by omega, ?_, OSub.none _⟩
        · rw [ht] at hx'
          rcases List.mem_append.1 hx' with h1 | h1
          · exact hp x h1
          · obtain rfl := List.mem_singleton.1 h1
            exact hpy
        · exact subQ
    · obtain rfl : k = l.length := by omega
      rw [List.take_length] at hp
      repeat (first | refine gA pk ?_)
      rw [show (-1 : Int) = idxG l p from by
        rcases idxG_any l p with ⟨h1, _⟩ | ⟨_, h2⟩
        · obtain ⟨x, hx, hpx⟩ := List.any_eq_true.1 h1
          rw [hp x hx] at hpx; cases hpx
        · exact h2.symm]
      refine finQ ?_
      exact ⟨rfl, rfl⟩
theorem ContainsFuncG_spec (l : List Ed) (hl : l.length ≤ 1000000) (g : FuncId) (caps : List AV) (p : Ed → Bool) (hg : ∀ a ∈ l, Pure Try.prog g (.agg (cEd a) :: caps) (AB (p a))) :
    Pure Try.prog 78 [.im 3 (l.map cEd), .fn (.func g) [] caps] (AB (l.any p)) := by
  have h := IndexFuncG_spec l hl g caps p hg
  have hc := idxG_any l p
  generalize idxG l p = i at *
  rcases hc with ⟨h1, h2⟩ | ⟨h1, h2⟩
  · rw [h1]
    refine a_enter Try.func78 (by kernel_rfl) rfl Try.ntmps78 rfl (by simp) ?_
    repeat (first | refine gA pk ?_ | (show AL _ _ _ _ _ _ _; first | refine jP h ?_))
    refine finQ ?_
    exact ⟨rfl, rfl⟩
  · rw [h1]
    refine a_enter Try.func78 (by kernel_rfl) rfl Try.ntmps78 rfl (by simp) ?_
    repeat (first | refine gA pk ?_ | (show AL _ _ _ _ _ _ _; first | refine jP h ?_))
    refine finQ ?_
    exact ⟨rfl, rfl⟩
/-- Numbers that are small. -/
def smC (c : Cnt) : Prop := (-1099511627776 ≤ c.ty ∧ c.ty ≤ 1099511627776) ∧ (-1099511627776 ≤ c.fr ∧ c.fr ≤ 1099511627776) ∧ (-1099511627776 ≤ c.to ∧ c.to ≤ 1099511627776)
def orL (l : List Int) : Int := (l.find? fun x => decide (x ≠ 0)).getD 0
theorem none_takeP {A : Type} {l : List A} {p : A → Bool} {k : Nat} {x : A} (h : ∀ x ∈ l.take k, p x = false) (hx : l[k]? = some x) (hp : p x = false) : ∀ x ∈ l.take (k + 1), p x = false := fun y hy => by
  obtain ⟨hk, rfl⟩ := List.getElem?_eq_some_iff.1 hx
  rw [List.take_succ_eq_append_getElem hk] at hy
  rcases List.mem_append.1 hy with h1 | h1
  · exact h y h1
  · obtain rfl := List.mem_singleton.1 h1; exact hp
theorem find_atP {A : Type} {l : List A} {p : A → Bool} {k : Nat} {x : A} (h : ∀ x ∈ l.take k, p x = false) (hx : l[k]? = some x) (hp : p x = true) : l.find? p = some x := by
  obtain ⟨hk, rfl⟩ := List.getElem?_eq_some_iff.1 hx
  have e : l = l.take k ++ l[k] :: l.drop (k + 1) := by rw [← List.drop_eq_getElem_cons hk, List.take_append_drop]
  rw [congrArg (List.find? p) e, List.find?_append, List.find?_eq_none.2 (fun y hy => by simpa using h y hy), List.find?_cons, hp]
  rfl
theorem orL_three (a b c : Int) : orL [a, b, c] = if a ≠ 0 then a else if b ≠ 0 then b else c := by
  by_cases h : a = 0
  · by_cases h2 : b = 0
    · by_cases h3 : c = 0 <;> simp [orL, h, h2, h3]
    · simp [orL, h, h2]
  · simp [orL, h]
theorem tot_bound {l : List Cnt} (h : ∀ c ∈ l, -1000 ≤ c.nu ∧ c.nu ≤ 1000) : -1000 * (l.length : Int) ≤ tot l ∧ tot l ≤ 1000 * (l.length : Int) := by
  induction l with
  | nil => simp [sumP]
  | cons c l ih =>
    have h1 := h c (by simp)
    have h2 := ih (fun d hd => h d (by simp [hd]))
    simp only [sumP, if_true, List.length_cons]
    simp only [tot] at h2
    omega
theorem tot_take {l : List Cnt} {k : Nat} {c : Cnt} (hc : l[k]? = some c) : tot (l.take (k + 1)) = tot (l.take k) + c.nu := by
  obtain ⟨hk, rfl⟩ := List.getElem?_eq_some_iff.1 hc
  rw [List.take_succ_eq_append_getElem hk, tot, sumP_append]
  simp [sumP]
end Go.Proofs.Ytoaenbfidlgjhaa

/-
  Counts: the number of a key, a number added: the walks of the program. Conditions: short sorted rows, small numbers.
-/
namespace Go.Proofs.Ytoaenbfidlgjhaa
open Go.Sj Go.Sj.Typ Go.Sj.Sta
set_option linter.unusedVariables false
set_option linter.unusedSimpArgs false
set_option maxHeartbeats 4000000

theorem obat_cnt {E : Nat} {l : List Cnt} {j : Nat} {y : Cnt} (h : l[j]? = some y) : obAt (.row E 4 (l.map cCnt)) j (0 + 3) = some [AI y.nu] := by
  simp only [obAt, List.getElem?_map, h, Option.map_some]; rfl
theorem obset_cnt {E : Nat} {l : List Cnt} {j : Nat} {y : Cnt} (h : l[j]? = some y) (z : Int) : obSet (.row E 4 (l.map cCnt)) j (0 + 3) [AI z] = .row E 4 ((l.set j ⟨y.ty, y.fr, y.to, z⟩).map cCnt) := by
  simp only [obSet, List.map_set]
  congr 2
  rw [List.getD_eq_getElem?_getD, List.getElem?_map, h]
  rfl
end Go.Proofs.Ytoaenbfidlgjhaa

/-
  Counts: the number of a key, a number added, copies, equality: the walks of the reference. Conditions: short sorted rows, small numbers.
-/
namespace Go.Proofs.Ytoaenbfidlgjhaa
open Go.Sj Go.Sj.Typ Go.Sj.Sta
set_option linter.unusedVariables false
set_option linter.unusedSimpArgs false
set_option maxHeartbeats 4000000

def sameB (a b : Sta) : Bool := decide (a.nodes = b.nodes) && decide (a.edges = b.edges)
end Go.Proofs.Ytoaenbfidlgjhaa

/-
  Counts: a number added, by the reference: the walk. Conditions: a short sorted row, small numbers.
-/
namespace Go.Proofs.Ytoaenbfidlgjhaa
open Go.Sj Go.Sj.Typ Go.Sj.Sta
set_option linter.unusedVariables false
set_option linter.unusedSimpArgs false
set_option maxHeartbeats 8000000

def chOut (l : List Cnt) (x : Cnt) (k : Nat) (b : Bool) : List Cnt := if b = true then addC (l.take k) x else l.take k
theorem chOut_len (l : List Cnt) (x : Cnt) (k : Nat) (b : Bool) : (chOut l x k b).length ≤ k + 1 := by
  unfold chOut
  have h := addC_len (l.take k) x
  have h2 : (l.take k).length ≤ k := by rw [List.length_take]; omega
  split <;> omega
theorem take_snoc {A : Type} {l : List A} {k : Nat} {c : A} (hc : l[k]? = some c) : l.take (k + 1) = l.take k ++ [c] := by
  obtain ⟨hk, rfl⟩ := List.getElem?_eq_some_iff.1 hc
  exact List.take_succ_eq_append_getElem hk
end Go.Proofs.Ytoaenbfidlgjhaa

/-
  Valid graphs, typed graphs: the walks. Conditions: small type graphs.
-/
namespace Go.Proofs.Ytoaenbfidlgjhaa
open Go.Sj Go.Sj.Typ Go.Sj.Sta
set_option linter.unusedVariables false
set_option linter.unusedSimpArgs false
set_option maxHeartbeats 8000000

theorem within_spec (n m : Int) : Pure Try.prog 77 [AI n, AI m] (AB (decide (0 ≤ n ∧ n ≤ m))) := by
  refine a_enter Try.func77 (by kernel_rfl) rfl Try.ntmps77 rfl (by simp) ?_
  repeat' (first | refine gA pk ?_ | (show AL _ _ _ _ _ _ _; first | (refine s_cmp rfl rfl rfl rfl rfl rfl rfl (fun hb => ?_) (fun hb => ?_) <;> simp only [cmpP] at hb)) | fail)
  all_goals first | ((refine finQ ?_); exact ⟨ABt (by omega), rfl⟩) | ((refine finQ ?_); exact ⟨ABf (by omega), rfl⟩)
theorem gfits_spec (a b c : Int) (n : Int) (hn : 0 ≤ n ∧ n ≤ 140737488355328) : Pure Try.prog 80 [.agg [AI a, AI b, AI c], AI n] (AB (decide ((0 ≤ a ∧ a ≤ 99) ∧ (0 ≤ b ∧ b < n) ∧ (0 ≤ c ∧ c < n)))) := by
  have s1 := within_spec a 99
  have s2 := within_spec b (n - 1)
  have s3 := within_spec c (n - 1)
  refine a_enter Try.func80 (by kernel_rfl) rfl Try.ntmps80 rfl (by simp) ?_; refine a_seq ?_; refine a_reg ?_; (repeat (first | refine gZ pk ?_ | (show AL _ _ _ _ _ _ _; first | refine jB (fun u => ?_)))); refine a_frzBox 0 2 rfl rfl ?_
  repeat' (first | refine gA pk ?_ | (show AL _ _ _ _ _ _ _; first | (refine s_callB rfl rfl rfl rfl rfl (s1) (SubL.of_eq rfl) (fun hb => ?_) (fun hb => ?_) <;> (first | replace hb := of_decide_eq_true hb | replace hb := of_decide_eq_false hb | skip)) | (refine s_callB rfl rfl rfl rfl rfl (s2) (SubL.of_eq rfl) (fun hb => ?_) (fun hb => ?_) <;> (first | replace hb := of_decide_eq_true hb | replace hb := of_decide_eq_false hb | skip)) | (refine s_callB rfl rfl rfl rfl rfl (s3) (SubL.of_eq rfl) (fun hb => ?_) (fun hb => ?_) <;> (first | replace hb := of_decide_eq_true hb | replace hb := of_decide_eq_false hb | skip)) | (refine s_cmp rfl rfl rfl rfl rfl rfl rfl (fun hb => ?_) (fun hb => ?_) <;> simp only [cmpP] at hb)) | fail)
  all_goals first | ((refine finQ ?_); exact ⟨ABt (by omega), rfl⟩) | ((refine finQ ?_); exact ⟨ABf (by omega), rfl⟩)
theorem gfits_spec' (e : Ed) (n : Nat) (hn : n ≤ 140737488355328) : Pure Try.prog 80 [.agg (cEd e), AI n] (AB (edB n e)) := by
  obtain ⟨a, b, c⟩ := e
  exact gfits_spec a b c n ⟨by omega, by omega⟩
theorem gv1_spec (x : Int) : Pure Try.prog 76 [AI x] (AB (!typB x)) := by
  have s1 := within_spec x 99
  unfold typB
  generalize decide (0 ≤ x ∧ x ≤ 99) = b at *
  cases b
  all_goals
    refine a_enter Try.func76 (by kernel_rfl) rfl Try.ntmps76 rfl (by simp) ?_
    repeat (first | refine gA pk ?_ | (show AL _ _ _ _ _ _ _; first | refine jP s1 ?_))
    refine finQ ?_
    exact ⟨rfl, rfl⟩
theorem gv2_spec (g : Gr) (hg : OkG g) (e : Ed) : Pure Try.prog 79 [.agg (cEd e), grP g] (AB (!edB g.nodes.length e)) := by
  have s1 := gfits_spec' e g.nodes.length (by have := hg.1; omega)
  have ll : (rowI g.nodes).length = g.nodes.length := by simp
  generalize edB g.nodes.length e = b at *
  rw [← ll] at s1
  cases b
  all_goals
    refine a_enter Try.func79 (by kernel_rfl) rfl Try.ntmps79 rfl (by simp) ?_; refine a_seq ?_; refine a_reg ?_; (repeat (first | refine gZ pk ?_ | (show AL _ _ _ _ _ _ _; first | refine jB (fun u => ?_)))); refine a_frzBox 0 2 rfl rfl ?_
    repeat (first | refine gA pk ?_ | (show AL _ _ _ _ _ _ _; first | refine jP s1 ?_))
    refine finQ ?_
    exact ⟨rfl, rfl⟩
theorem gvalid_spec (g : Gr) (hg : OkG g) : Pure Try.prog 62 [grA g] (AI (gvalid g)) := by
  have ln : (rowI g.nodes).length = g.nodes.length := by simp
  have le : (g.edges.map cEd).length = g.edges.length := by simp
  unfold gvalid
  by_cases hb : 40 < g.nodes.length ∨ 80 < g.edges.length
  · rw [if_pos hb]
    by_cases h1 : 40 < g.nodes.length
    all_goals
      refine a_enter Try.func62 (by kernel_rfl) rfl Try.ntmps62 rfl (by simp) ?_; refine a_seq ?_; refine a_reg ?_; (repeat (first | refine gZ pk ?_ | (show AL _ _ _ _ _ _ _; first | refine jB (fun u => ?_)))); refine a_frzBox 0 1 rfl rfl ?_
      repeat (first | refine gA pk ?_)
      refine finQ ?_
      exact ⟨rfl, rfl⟩
  · rw [if_neg hb]
    have s1 := ContainsFuncI_spec g.nodes (by omega) 76 [] (fun x => !typB x) (fun x _ => gv1_spec x)
    have s2 := ContainsFuncG_spec g.edges (by omega) 79 [grP g] (fun e => !edB g.nodes.length e) (fun e _ => gv2_spec g hg e)
    generalize (g.nodes.any fun x => !typB x) = p at *
    generalize (g.edges.any fun e => !edB g.nodes.length e) = q at *
    cases p
    · cases q
      all_goals
        simp only [Bool.false_eq_true, if_false, if_true]
        refine a_enter Try.func62 (by kernel_rfl) rfl Try.ntmps62 rfl (by simp) ?_; refine a_seq ?_; refine a_reg ?_; (repeat (first | refine gZ pk ?_ | (show AL _ _ _ _ _ _ _; first | refine jB (fun u => ?_)))); refine a_frzBox 0 1 rfl rfl ?_
        repeat (first | refine gA pk ?_ | (show AL _ _ _ _ _ _ _; first | refine jP s1 ?_ | refine jP s2 ?_))
        refine finQ ?_
        exact ⟨rfl, rfl⟩
    · rw [if_pos rfl]
      refine a_enter Try.func62 (by kernel_rfl) rfl Try.ntmps62 rfl (by simp) ?_; refine a_seq ?_; refine a_reg ?_; (repeat (first | refine gZ pk ?_ | (show AL _ _ _ _ _ _ _; first | refine jB (fun u => ?_)))); refine a_frzBox 0 1 rfl rfl ?_
      repeat (first | refine gA pk ?_ | (show AL _ _ _ _ _ _ _; first | refine jP s1 ?_))
      refine finQ ?_
      exact ⟨rfl, rfl⟩
theorem gkind_spec (x : Int) : Pure Try.prog 74 [AI x] (AB (typB x)) := by
  unfold typB
  refine a_enter Try.func74 (by kernel_rfl) rfl Try.ntmps74 rfl (by simp) ?_
  repeat' (first | refine gA pk ?_ | (show AL _ _ _ _ _ _ _; first | (refine s_cmp rfl rfl rfl rfl rfl rfl rfl (fun hb => ?_) (fun hb => ?_) <;> simp only [cmpP] at hb)) | fail)
  all_goals first | ((refine finQ ?_); exact ⟨ABt (by omega), rfl⟩) | ((refine finQ ?_); exact ⟨ABf (by omega), rfl⟩)
theorem gright_spec (a b c : Int) (n : Int) : Pure Try.prog 75 [.agg [AI a, AI b, AI c], AI n] (AB (decide ((0 ≤ a ∧ a ≤ 99) ∧ (0 ≤ b ∧ b < n) ∧ (0 ≤ c ∧ c < n)))) := by
  have s1 := gkind_spec a
  unfold typB at s1
  refine a_enter Try.func75 (by kernel_rfl) rfl Try.ntmps75 rfl (by simp) ?_; refine a_seq ?_; refine a_reg ?_; (repeat (first | refine gZ pk ?_ | (show AL _ _ _ _ _ _ _; first | refine jB (fun u => ?_)))); refine a_frzBox 0 2 rfl rfl ?_
  repeat' (first | refine gA pk ?_ | (show AL _ _ _ _ _ _ _; first | (refine s_callB rfl rfl rfl rfl rfl (s1) (SubL.of_eq rfl) (fun hb => ?_) (fun hb => ?_) <;> (first | replace hb := of_decide_eq_true hb | replace hb := of_decide_eq_false hb | skip)) | (refine s_cmp rfl rfl rfl rfl rfl rfl rfl (fun hb => ?_) (fun hb => ?_) <;> simp only [cmpP] at hb)) | fail)
  all_goals first | ((refine finQ ?_); exact ⟨ABt (by omega), rfl⟩) | ((refine finQ ?_); exact ⟨ABf (by omega), rfl⟩)
theorem gright_spec' (e : Ed) (n : Nat) : Pure Try.prog 75 [.agg (cEd e), AI n] (AB (edB n e)) := by
  obtain ⟨a, b, c⟩ := e
  exact gright_spec a b c n
theorem any_take_some {A : Type} {l : List A} {p : A → Bool} {k : Nat} {a : A} (ha : l[k]? = some a) (hp : p a = true) : l.any p = true := List.any_eq_true.2 ⟨a, List.mem_of_getElem? ha, hp⟩
theorem any_take_none {A : Type} {l : List A} {p : A → Bool} (h : ∀ x ∈ l, p x = false) : l.any p = false := Bool.eq_false_iff.2 fun h2 => by
  obtain ⟨x, hx, hp⟩ := List.any_eq_true.1 h2
  rw [h x hx] at hp; cases hp
theorem refgvalid_spec (g : Gr) (hg : OkG g) : Pure Try.prog 52 [grA g] (AI (gvalid g)) := by
  have ln : (rowI g.nodes).length = g.nodes.length := by simp
  have le : (g.edges.map cEd).length = g.edges.length := by simp
  have hg1 := hg.1
  unfold gvalid
  by_cases hb : 40 < g.nodes.length ∨ 80 < g.edges.length
  · rw [if_pos hb]
    by_cases h1 : 40 < g.nodes.length
    all_goals
      refine a_enter Try.func52 (by kernel_rfl) rfl Try.ntmps52 rfl (by simp) ?_; refine a_seq ?_; refine a_reg ?_; (repeat (first | refine gZ pk ?_ | (show AL _ _ _ _ _ _ _; first | refine jB (fun u => ?_)))); refine a_frzBox 0 1 rfl rfl ?_
      repeat (first | refine gA pk ?_)
      refine finQ ?_
      exact ⟨rfl, rfl⟩
  · rw [if_neg hb]
    obtain ⟨r, hr⟩ : ∃ r, (if (g.nodes.any fun x => !typB x) = true then (6 : Int) else if (g.edges.any fun e => !edB g.nodes.length e) = true then 6 else 0) = r := ⟨_, rfl⟩
    rw [hr]
    refine a_enter Try.func52 (by kernel_rfl) rfl Try.ntmps52 rfl (by simp) ?_; refine a_seq ?_; refine a_reg ?_; (repeat (first | refine gZ pk ?_ | (show AL _ _ _ _ _ _ _; first | refine jB (fun u => ?_)))); refine a_frzBox 0 1 rfl rfl ?_
    repeat (first | refine gA pk ?_)
    refine a_loopX (fun k : Nat => [(1, grP g), (3, AI k)]) (fun _ => []) (fun k => k ≤ g.nodes.length ∧ ∀ x ∈ g.nodes.take k, (!typB x) = false) (fun k => g.nodes.length - k) 0 ⟨Nat.zero_le _, by simp⟩ ?_ (OSub.none _) ?_
    · exact subQ
    · rintro k ⟨hk, hno⟩
      rcases Nat.lt_or_ge k g.nodes.length with h | h
      · have hx := List.getElem?_eq_getElem h
        generalize g.nodes[k] = y at hx
        have xk : (rowI g.nodes)[(k : Int).toNat]? = some [AI y] := map_get (f := cI) hx
        have s1 := gkind_spec y
        cases hy : typB y with
        | true =>
          rw [hy] at s1
          have hn := none_takeP (p := fun x => !typB x) hno hx (by simp [hy])
          repeat (first | refine gA pk ?_ | (show AL _ _ _ _ _ _ _; first | refine jX tok xk ?_ | refine jP s1 ?_))
          exact ⟨k + 1, ⟨by omega, hn⟩, by omega, by exact subQ, OSub.none _⟩
        | false =>
          rw [hy] at s1
          rw [any_take_some hx (by simp [hy]), if_pos rfl] at hr
          subst hr
          repeat (first | refine gA pk ?_ | (show AL _ _ _ _ _ _ _; first | refine jX tok xk ?_ | refine jP s1 ?_))
          refine finQ ?_
          exact ⟨rfl, rfl⟩
      · obtain rfl : k = g.nodes.length := by omega
        rw [List.take_length] at hno
        rw [any_take_none hno, if_neg (by decide)] at hr
        repeat (first | refine gA pk ?_)
        refine a_loopX (fun k : Nat => [(1, grP g), (4, AI k)]) (fun _ => []) (fun k => k ≤ g.edges.length ∧ ∀ x ∈ g.edges.take k, (!edB g.nodes.length x) = false) (fun k => g.edges.length - k) 0 ⟨Nat.zero_le _, by simp⟩ ?_ (OSub.none _) ?_
        · exact subQ
        · rintro k ⟨hk, hno⟩
          rcases Nat.lt_or_ge k g.edges.length with h | h
          · have hx := List.getElem?_eq_getElem h
            generalize g.edges[k] = y at hx
            have xk : (g.edges.map cEd)[(k : Int).toNat]? = some (cEd y) := map_get hx
            have s1 := gright_spec' y g.nodes.length
            rw [← ln] at s1
            cases hy : edB g.nodes.length y with
            | true =>
              rw [ln, hy, ← ln] at s1
              have hn := none_takeP (p := fun x => !edB g.nodes.length x) hno hx (by simp [hy])
              repeat (first | refine gA pk ?_ | (show AL _ _ _ _ _ _ _; first | refine jX tok xk ?_ | refine jP s1 ?_))
              exact ⟨k + 1, ⟨by omega, hn⟩, by omega, by exact subQ, OSub.none _⟩
            | false =>
              rw [ln, hy, ← ln] at s1
              rw [any_take_some hx (by simp [hy]), if_pos rfl] at hr
              subst hr
              repeat (first | refine gA pk ?_ | (show AL _ _ _ _ _ _ _; first | refine jX tok xk ?_ | refine jP s1 ?_))
              refine finQ ?_
              exact ⟨rfl, rfl⟩
          · obtain rfl : k = g.edges.length := by omega
            rw [List.take_length] at hno
            rw [any_take_none hno, if_neg (by decide)] at hr
            subst hr
            repeat (first | refine gA pk ?_)
            refine finQ ?_
            exact ⟨rfl, rfl⟩
theorem gfew_spec (g : Gr) : Pure Try.prog 37 [grA g] (AB (decide (g.nodes.length ≤ 45 ∧ g.edges.length ≤ 90))) := by
  have ln : (rowI g.nodes).length = g.nodes.length := by simp
  have le : (g.edges.map cEd).length = g.edges.length := by simp
  by_cases h1 : g.nodes.length ≤ 45
  · by_cases h2 : g.edges.length ≤ 90
    · rw [decide_eq_true ⟨h1, h2⟩]
      refine a_enter Try.func37 (by kernel_rfl) rfl Try.ntmps37 rfl (by simp) ?_; refine a_seq ?_; refine a_reg ?_; (repeat (first | refine gZ pk ?_ | (show AL _ _ _ _ _ _ _; first | refine jB (fun u => ?_)))); refine a_frzBox 0 1 rfl rfl ?_
      repeat (first | refine gA pk ?_)
      refine finQ ?_
      exact ⟨rfl, rfl⟩
    · rw [decide_eq_false (fun h => h2 h.2)]
      refine a_enter Try.func37 (by kernel_rfl) rfl Try.ntmps37 rfl (by simp) ?_; refine a_seq ?_; refine a_reg ?_; (repeat (first | refine gZ pk ?_ | (show AL _ _ _ _ _ _ _; first | refine jB (fun u => ?_)))); refine a_frzBox 0 1 rfl rfl ?_
      repeat (first | refine gA pk ?_)
      refine finQ ?_
      exact ⟨rfl, rfl⟩
  · rw [decide_eq_false (fun h => h1 h.1)]
    refine a_enter Try.func37 (by kernel_rfl) rfl Try.ntmps37 rfl (by simp) ?_; refine a_seq ?_; refine a_reg ?_; (repeat (first | refine gZ pk ?_ | (show AL _ _ _ _ _ _ _; first | refine jB (fun u => ?_)))); refine a_frzBox 0 1 rfl rfl ?_
    repeat (first | refine gA pk ?_)
    refine finQ ?_
    exact ⟨rfl, rfl⟩
end Go.Proofs.Ytoaenbfidlgjhaa

/-
  One more node, one more edge: the walks of what succeeds. Conditions: graphs whose lists fit into memory.
-/
namespace Go.Proofs.Ytoaenbfidlgjhaa
open Go.Sj Go.Sj.Typ Go.Sj.Sta
set_option linter.unusedVariables false
set_option linter.unusedSimpArgs false
set_option maxHeartbeats 8000000

theorem cI_cell (l : List Int) : (rowI l).all (fun e => e.all AV.cell) = true := List.all_eq_true.2 fun x hx => by
  obtain ⟨a, _, rfl⟩ := List.mem_map.1 hx; rfl
theorem cEd_cell (l : List Ed) : (l.map cEd).all (fun e => e.all AV.cell) = true := List.all_eq_true.2 fun x hx => by
  obtain ⟨a, _, rfl⟩ := List.mem_map.1 hx; rfl
theorem CloneN_spec (l : List Int) (hs : l.length ≤ 1099511627776) : Gives Try.prog 15 [ints l] 3 1 (rowI l) := by
  have ll : (rowI l).length = l.length := by simp
  refine a_enter Try.func15 (by kernel_rfl) rfl Try.ntmps15 rfl (by simp) ?_
  repeat (first | refine gA pk ?_)
  refine s_eqNil tok rfl rfl rfl rfl rfl rfl (fun h => ?_) ?_
  · repeat (first | refine gA pk ?_)
    refine fin (x := .lit _) (.inr rfl) rfl (Sub.refl _) ⟨_, rfl, rfl⟩ ?_
    rw [h]
    exact .free .nil
  · repeat (first | refine gA pk ?_ | (show AL _ _ _ _ _ _ _; first | refine s_build tok (parts := []) rfl rfl rfl rfl rfl rfl rfl rfl (by decide) (by decide) (fun v => ?_)))
    refine s_appendIm tok 0 rfl rfl rfl rfl rfl rfl (by decide) rfl rfl rfl rfl (cI_cell l) (by simp only [ll, List.length_nil]; omega) (by simp only [ll, List.length_nil]; omega) (fun v' => ?_)
    repeat (first | refine gA pk ?_)
    refine finR ?_
    exact ⟨_, rfl, rfl⟩
end Go.Proofs.Ytoaenbfidlgjhaa

/-
  Orders: numbers in a row, orders that numbers describe, the walks.
-/
namespace Go.Proofs.Ytoaenbfidlgjhaa
open Go.Sj Go.Sj.Typ Go.Sj.Sta
set_option linter.unusedVariables false
set_option linter.unusedSimpArgs false
set_option maxHeartbeats 8000000

theorem Numbers_spec (a : Int) (ha : 0 ≤ a ∧ a ≤ 1000000) (n : Nat) (hn : n ≤ 1000000) : Gives Try.prog 29 [AI a, AI n] 3 1 (rowI ((List.range n).map fun (i : Nat) => a + (i : Int))) := by
  refine a_enter Try.func29 (by kernel_rfl) rfl Try.ntmps29 rfl (by simp) ?_
  repeat (first | refine gA pk ?_)
  refine a_loop2 (fun (i : Nat) (v : Value) => [(0, AI a), (1, AI n), (5, .lit v), (6, AI i)]) (fun i v => [(v, .row 3 1 (rowI ((List.range i).map fun (i : Nat) => a + (i : Int))))]) (fun i v => i ≤ n) (fun i v => n - i) 0 (.slice none 0 0) (Nat.zero_le _) ?_ (.free (OSub.none _)) ?_
  · exact subQ
  · intro i v hi
    rcases Nat.lt_or_ge i n with h | h
    · have hs : rowI ((List.range (i + 1)).map fun (i : Nat) => a + (i : Int)) = rowI ((List.range i).map fun (i : Nat) => a + (i : Int)) ++ [[AI (a + i)]] := by
        rw [rngF_succ]
        show ((_ ++ [_]).map cI) = _
        rw [List.map_append]; rfl
      have hl : (rowI ((List.range i).map fun (i : Nat) => a + (i : Int))).length = i := by simp
      repeat (first | refine gA pk ?_)
      (first | refine s_build1 tok rfl rfl rfl rfl rfl rfl rfl rfl (fun u => ?_) | refine s_build1M tok rfl rfl rfl rfl rfl rfl rfl (fun u => ?_) | refine s_build1A tok rfl rfl rfl rfl rfl rfl rfl rfl (by decide) (fun u => ?_)); refine s_append1 tok 0 rfl rfl rfl rfl rfl rfl (by decide) rfl rfl rfl rfl (by omega) (by omega) (fun v => ?_)
      repeat (first | refine gA pk ?_)
      exact ⟨i + 1, v, by omega, by omega, by exact subQ, by rw [hs]; exact OSub.refl _⟩
    · obtain rfl : i = n := by omega
      repeat (first | refine gA pk ?_)
      refine finR ?_
      exact ⟨_, rfl, rfl⟩
theorem Shuffle_spec (n : Nat) (hn : n ≤ 1000) (cs : List Int) (hc : (∀ m ∈ cs, 0 ≤ m ∧ m ≤ 255) ∧ cs.length ≤ 140737488355328) : Pure Try.prog 28 [AI n, bytesA cs] (ints (shf n cs)) := by
  have s1 := Numbers_spec 0 (by omega) n (by omega)
  rw [rngF_zero] at s1
  have lc : (cs.map c8).length = cs.length := by simp
  refine a_enter Try.func28 (by kernel_rfl) rfl Try.ntmps28 rfl (by simp) ?_
  repeat (first | refine gA pk ?_ | (show AL _ _ _ _ _ _ _; first | refine s_callG rfl rfl rfl rfl rfl (s1) (SubL.of_eq rfl) (fun v => ?_)))
  refine a_loop2 (fun (i : Nat) (v : Value) => [(0, AI n), (1, bytesA cs), (5, .lit v), (6, AI i)]) (fun i v => [(v, .row 3 1 (rowI (shfK n cs i)))]) (fun i v => i ≤ min n cs.length) (fun i v => min n cs.length - i) 0 _ (Nat.zero_le _) ?_ (OSub.refl _) ?_
  · exact subQ
  · intro i v hi
    have hp := shfK_prm n cs i (by omega)
    have hpl := hp.len
    have lr : (rowI (shfK n cs i)).length = n := by rw [List.length_map, hpl]
    by_cases h : i < min n cs.length
    · have hx := List.getElem?_eq_getElem (l := cs) (i := i) (by omega)
      have hr := hc.1 _ (List.getElem_mem (l := cs) (n := i) (by omega))
      have hk : shfP n cs i = i + (cs[i] % ((n : Int) - i)).toNat := by
        unfold shfP
        rw [List.getD_eq_getElem?_getD, hx]; rfl
      have hkl := shfP_lt (cs := cs) (show i < n by omega)
      have hs : shfK n cs (i + 1) = ((shfK n cs i).set i ((shfK n cs i).getD (shfP n cs i) 0)).set (shfP n cs i) ((shfK n cs i).getD i 0) := rfl
      generalize cs[i] = x at *
      have xk : (cs.map c8)[(i : Int).toNat]? = some [A8 x] := map_get (f := c8) hx
      have m1 := Int.emod_nonneg x (b := (n : Int) - i) (by omega)
      have m2 := Int.emod_lt_of_pos x (b := (n : Int) - i) (by omega)
      have ek : (i : Int) + x % ((n : Int) - i) = (shfP n cs i : Int) := by rw [hk]; omega
      generalize shfP n cs i = k at *
      generalize shfK n cs i = r at *
      have g1 : r[(i : Int).toNat]? = some (r.getD i 0) := by
        rw [Int.toNat_natCast, List.getD_eq_getElem?_getD, List.getElem?_eq_getElem (by omega)]; rfl
      have g2 : r[(k : Int).toNat]? = some (r.getD k 0) := by
        rw [Int.toNat_natCast, List.getD_eq_getElem?_getD, List.getElem?_eq_getElem (by omega)]; rfl
      repeat (first | refine gN pk ?_ | (show AL _ _ _ _ _ _ _; first | refine jX tok xk ?_ | refine s_conv tok rfl rfl rfl rfl rfl rfl rfl (IntWalk.i64_in _ (by omega)) ?_ | refine s_rem rfl rfl rfl rfl rfl rfl (by omega) (by omega) ?_))
      rw [ek]
      refine a_regG ((List.range 16).map fun i => if inL [13, 15] i = true then .eff else if inL [6, 7, 10, 11, 12, 14] i = true then .read else .pure) [] [0, 1, 2, 3, 4, 5, 6, 7, 8, 9, 10, 11, 12, 13, 14, 15] .stop mixed rfl rfl (by decide +kernel) ?_
      repeat' (first | (with_reducible show AG _ _ _ _ _ _ _ _ _ _; first | exact ag_none | refine ag_stop ?_ | refine ag_nd ?_ ?_) | (show AMid _ _ _ _; first | refine amid_f ?_ | refine amid_g (by first | exact OSub.refl _ | exact .drop (OSub.refl _) | exact .drop (.drop (OSub.refl _))) ?_) | refine gY pk ?_ | (show AL _ _ _ _ _ _ _; first | refine s_ownIndex tok 0 rfl rfl rfl rfl (by decide) rfl rfl rfl rfl rfl rfl (by omega) (by first | omega | (simp only [List.length_map, List.length_set]; omega)) ?_ | refine s_loadI tok 0 rfl rfl rfl rfl (by decide) rfl rfl rfl rfl g1 ?_ | refine s_loadI tok 0 rfl rfl rfl rfl (by decide) rfl rfl rfl rfl g2 ?_ | refine s_storeI tok 0 rfl rfl rfl rfl rfl rfl rfl rfl (by first | omega | (simp only [List.length_set]; omega)) ?_) | fail)
      repeat (first | refine gA pk ?_)
      refine ⟨i + 1, v, by omega, by omega, by exact subQ, ?_⟩
      rw [hs]
      exact OSub.refl _
    · obtain rfl : i = min n cs.length := by omega
      by_cases h1 : min n cs.length < n
      all_goals
        repeat (first | refine gA pk ?_)
        refine finF 0 (.inr rfl) rfl rfl (y := ints (shf n cs)) FZ.here ⟨rfl, rfl⟩
end Go.Proofs.Ytoaenbfidlgjhaa
