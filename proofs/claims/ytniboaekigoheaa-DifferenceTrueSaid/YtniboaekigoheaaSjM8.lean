/-
  Difference constraints: tests, their arcs, their errors; tables of least sums: plain mathematics, no program.
-/
import Derived.Test.YtniboaekigoheaaSjM7
import Derived.Test.YtniboaekigoheaaSjL2
namespace Go.Sj
theorem AB_t {p : Prop} [Decidable p] (h : p) : AB true = AB (decide p) := by rw [decide_eq_true h]
theorem AB_f {p : Prop} [Decidable p] (h : ¬ p) : AB false = AB (decide p) := by rw [decide_eq_false h]
end Go.Sj
namespace Go.Sj.Dif
set_option linter.unusedVariables false
set_option linter.unusedSimpArgs false
set_option linter.unusedSectionVars false

structure Tst where
  k : Int
  lv : Int
  la : Int
  rv : Int
  ra : Int
def cT (x : Tst) : List AV := [AI x.k, AI x.lv, AI x.la, AI x.rv, AI x.ra]
abbrev testsA (l : List Tst) : AV := .im 5 (l.map cT)
def cA (a : Ar) : List AV := [AI a.u, AI a.s, AI a.f, AI a.t, AI a.c]
abbrev arcsA (l : List Ar) : AV := .im 5 (l.map cA)
theorem cA_cell (l : List Ar) : (l.map cA).all (fun e => e.all AV.cell) = true := by simp [cA, AV.cell, Value.oneCell']
theorem cT_cell (l : List Tst) : (l.map cT).all (fun e => e.all AV.cell) = true := by simp [cT, AV.cell, Value.oneCell']

def termB (n v a : Int) : Bool := decide (-1 ≤ v ∧ v < n ∧ -1000000 ≤ a ∧ a ≤ 1000000)
def termE (n v a : Int) : Int := if termB n v a then 0 else 6
def oneT (n : Int) (x : Tst) : Int := if x.k ≠ 1 ∧ x.k ≠ 2 then 1 else if termB n x.lv x.la then termE n x.rv x.ra else 6
def firstE (n : Int) : List Tst → Int
  | [] => 0
  | x :: l => if oneT n x ≠ 0 then oneT n x else firstE n l
def validT (n : Int) (l : List Tst) : Int := if n < 0 ∨ 12 < n then 6 else if 40 < l.length then 3 else firstE n l

theorem firstE_pre {n : Int} : ∀ {l m : List Tst}, (∀ x ∈ l, oneT n x = 0) → firstE n (l ++ m) = firstE n m
  | [], m, _ => rfl
  | x :: l, m, h => by
    simp only [List.cons_append, firstE]
    rw [if_neg (by simpa using h x (by simp)), firstE_pre fun y hy => h y (by simp [hy])]
theorem firstE_at {n : Int} {l : List Tst} {k : Nat} {x : Tst} (h : ∀ y ∈ l.take k, oneT n y = 0) (hx : l[k]? = some x) (he : oneT n x ≠ 0) : firstE n l = oneT n x := by
  obtain ⟨hk, rfl⟩ := List.getElem?_eq_some_iff.1 hx
  have e := List.take_append_drop k l
  rw [List.drop_eq_getElem_cons hk] at e
  have h2 : firstE n (l.take k ++ l[k] :: l.drop (k + 1)) = oneT n l[k] := by
    rw [firstE_pre h]; simp only [firstE, if_pos he]
  rw [e] at h2
  exact h2
theorem firstE_zero {n : Int} : ∀ {l : List Tst}, firstE n l = 0 ↔ ∀ x ∈ l, oneT n x = 0
  | [] => by simp [firstE]
  | x :: l => by
    simp only [firstE, List.mem_cons, forall_eq_or_imp]
    by_cases h : oneT n x = 0
    · rw [if_neg (by simpa using h), firstE_zero]
      exact ⟨fun k => ⟨h, k⟩, fun k => k.2⟩
    · rw [if_pos h]
      exact ⟨fun k => absurd k h, fun k => absurd k.1 h⟩

structure TOk (n : Int) (x : Tst) : Prop where
  k : x.k = 1 ∨ x.k = 2
  l : -1 ≤ x.lv ∧ x.lv < n ∧ -1000000 ≤ x.la ∧ x.la ≤ 1000000
  r : -1 ≤ x.rv ∧ x.rv < n ∧ -1000000 ≤ x.ra ∧ x.ra ≤ 1000000
theorem oneT_zero {n : Int} {x : Tst} : oneT n x = 0 ↔ TOk n x := by
  unfold oneT termE
  constructor
  · intro h
    split at h
    · cases h
    · rename_i h1
      split at h
      · rename_i h2
        split at h
        · rename_i h3
          exact ⟨by omega, of_decide_eq_true h2, of_decide_eq_true h3⟩
        · cases h
      · cases h
  · rintro ⟨h1, h2, h3⟩
    rw [if_neg (by omega), if_pos (show termB n x.lv x.la = true from decide_eq_true h2), if_pos (show termB n x.rv x.ra = true from decide_eq_true h3)]
theorem validT_zero {n : Int} {l : List Tst} : validT n l = 0 ↔ (0 ≤ n ∧ n ≤ 12) ∧ l.length ≤ 40 ∧ ∀ x ∈ l, TOk n x := by
  unfold validT
  constructor
  · intro h
    split at h
    · cases h
    · split at h
      · cases h
      · exact ⟨by omega, by omega, fun x hx => oneT_zero.1 (firstE_zero.1 h x hx)⟩
  · rintro ⟨h1, h2, h3⟩
    rw [if_neg (by omega), if_neg (by omega)]
    exact firstE_zero.2 fun x hx => oneT_zero.2 (h3 x hx)

/-! ### Arcs -/

def arcAt (i : Nat) (x : Tst) : Ar := ⟨i, 1, (x.lv + 1).toNat, (x.rv + 1).toNat, x.ra - x.la⟩
def opAt (i : Nat) (x : Tst) : Ar := ⟨i, -1, (x.rv + 1).toNat, (x.lv + 1).toNat, -(x.ra - x.la)⟩
def arcsAt (i : Nat) (x : Tst) : List Ar := arcAt i x :: if x.k = 2 then [opAt i x] else []
def arcsF : Nat → List Tst → List Ar
  | _, [] => []
  | i, x :: l => arcsAt i x ++ arcsF (i + 1) l
def arcsOf (l : List Tst) : List Ar := arcsF 0 l
theorem arcsF_snoc (x : Tst) : ∀ (i : Nat) (l : List Tst), arcsF i (l ++ [x]) = arcsF i l ++ arcsAt (i + l.length) x
  | i, [] => by simp [arcsF]
  | i, y :: l => by
    simp only [List.cons_append, arcsF, arcsF_snoc x (i + 1) l, List.append_assoc, List.length_cons]
    rw [show i + 1 + l.length = i + (l.length + 1) by omega]
theorem arcsOf_take {l : List Tst} {k : Nat} {x : Tst} (h : l[k]? = some x) : arcsOf (l.take (k + 1)) = arcsOf (l.take k) ++ arcsAt k x := by
  obtain ⟨hk, rfl⟩ := List.getElem?_eq_some_iff.1 h
  rw [List.take_succ_eq_append_getElem hk, arcsOf, arcsF_snoc, List.length_take, Nat.min_eq_left (by omega), Nat.zero_add]
  rfl
theorem arcsF_length : ∀ (i : Nat) (l : List Tst), (arcsF i l).length ≤ 2 * l.length
  | i, [] => by simp [arcsF]
  | i, x :: l => by
    have := arcsF_length (i + 1) l
    simp only [arcsF, arcsAt, List.length_append, List.length_cons]
    split <;> simp <;> omega
theorem arcsF_mem {a : Ar} : ∀ {i : Nat} {l : List Tst}, a ∈ arcsF i l ↔ ∃ k x, l[k]? = some x ∧ a ∈ arcsAt (i + k) x
  | i, [] => by simp [arcsF]
  | i, x :: l => by
    simp only [arcsF, List.mem_append, arcsF_mem (i := i + 1) (l := l)]
    constructor
    · rintro (h | ⟨k, y, h1, h2⟩)
      · exact ⟨0, x, rfl, h⟩
      · exact ⟨k + 1, y, by simpa using h1, by rw [show i + (k + 1) = i + 1 + k by omega]; exact h2⟩
    · rintro ⟨k, y, h1, h2⟩
      cases k with
      | zero => simp at h1; subst h1; exact .inl h2
      | succ k => exact .inr ⟨k, y, by simpa using h1, by rw [show i + 1 + k = i + (k + 1) by omega]; exact h2⟩
/-- What is known of an arc of right tests. -/
def AOk (n : Nat) (a : Ar) : Prop := a.f < n + 1 ∧ a.t < n + 1 ∧ -2000000 ≤ a.c ∧ a.c ≤ 2000000
theorem arcsAt_ok {n : Nat} {i : Nat} {x : Tst} (h : TOk n x) : ∀ a ∈ arcsAt i x, AOk n a := by
  obtain ⟨h1, h2, h3⟩ := h
  intro a ha
  simp only [arcsAt, List.mem_cons] at ha
  rcases ha with rfl | ha
  · simp only [AOk, arcAt]; omega
  · split at ha
    · simp at ha; subst ha; simp only [AOk, opAt]; omega
    · simp at ha
theorem arcsOf_ok {n : Nat} {l : List Tst} (h : ∀ x ∈ l, TOk n x) : ∀ a ∈ arcsOf l, AOk n a := fun a ha => by
  obtain ⟨k, x, h1, h2⟩ := arcsF_mem.1 ha
  exact arcsAt_ok (h x (List.mem_of_getElem? h1)) a h2
theorem aok_inr {n : Nat} {l : List Ar} (h : ∀ a ∈ l, AOk n a) : Inr (n + 1) l := fun a ha => ⟨(h a ha).1, (h a ha).2.1⟩

/-! ### Tables -/

def far : Int := 1125899906842624
def mkR (N : Nat) (r : Nat → Int) : List Int := (List.range N).map r
def mkM (N : Nat) (S : Nat → Nat → Int) : List (List Int) := (List.range N).map fun i => mkR N (S i)
theorem mkR_length (N : Nat) (r : Nat → Int) : (mkR N r).length = N := by simp [mkR]
theorem mkM_length (N : Nat) (S : Nat → Nat → Int) : (mkM N S).length = N := by simp [mkM]
theorem mkR_get {N i : Nat} (h : i < N) (r : Nat → Int) : (mkR N r)[i]? = some (r i) := by simp [mkR, h]
theorem mkM_get {N i : Nat} (h : i < N) (S : Nat → Nat → Int) : (mkM N S)[i]? = some (mkR N (S i)) := by simp [mkM, h]
def updF (O : Nat → Nat → Int) (i k : Nat) (x : Int) : Nat → Nat → Int := fun a b => if a = i ∧ b = k then x else O a b
theorem mkR_set {N k : Nat} {r : Nat → Int} {x : Int} : (mkR N r).set k x = mkR N (fun b => if b = k then x else r b) := by
  apply List.ext_getElem?
  intro b
  rw [List.getElem?_set]
  by_cases hb : b < N
  · rw [mkR_get hb, mkR_get hb, mkR_length]
    by_cases e : k = b
    · subst e; simp [hb]
    · rw [if_neg e, if_neg (fun h => e h.symm)]
  · rw [List.getElem?_eq_none (by rw [mkR_length]; omega), List.getElem?_eq_none (by rw [mkR_length]; omega), mkR_length]
    split
    · rw [if_neg (by omega)]
    · rfl
theorem mkM_set {N i k : Nat} {O : Nat → Nat → Int} {x : Int} : (mkM N O).set i ((mkR N (O i)).set k x) = mkM N (updF O i k x) := by
  apply List.ext_getElem?
  intro a
  rw [List.getElem?_set]
  by_cases ha : a < N
  · rw [mkM_get ha, mkM_get ha, mkM_length]
    by_cases e : i = a
    · subst e
      rw [if_pos rfl, if_pos ha, mkR_set]
      congr 2
      funext b
      simp only [updF, true_and]
    · rw [if_neg e]
      congr 2
      funext b
      simp only [updF]
      rw [if_neg (fun h => e h.1.symm)]
  · rw [List.getElem?_eq_none (by rw [mkM_length]; omega), List.getElem?_eq_none (by rw [mkM_length]; omega), mkM_length]
    split
    · rw [if_neg (by omega)]
    · rfl

def stC (S : Nat → Nat → Int) (a : Ar) (O : Nat → Nat → Int) (k : Nat) : Nat → Nat → Int := if S a.t k < far then updF O a.f k (min (O a.f k) (a.c + S a.t k)) else O
def stTo (S : Nat → Nat → Int) (a : Ar) (O : Nat → Nat → Int) : Nat → Nat → Nat → Int
  | 0 => O
  | k + 1 => stC S a (stTo S a O k) k
def stL (S : Nat → Nat → Int) (N : Nat) : List Ar → (Nat → Nat → Int) → (Nat → Nat → Int)
  | [], O => O
  | a :: l, O => stL S N l (stTo S a O N)
def stM (S : Nat → Nat → Int) (N : Nat) (l : List Ar) : Nat → Nat → Int := stL S N l (fun _ _ => far)
theorem stL_snoc (S : Nat → Nat → Int) (N : Nat) (a : Ar) : ∀ (l : List Ar) (O : Nat → Nat → Int), stL S N (l ++ [a]) O = stTo S a (stL S N l O) N
  | [], O => rfl
  | b :: l, O => by simp only [List.cons_append, stL, stL_snoc S N a l]
def unit0 : Nat → Nat → Int := fun i k => if i = k then 0 else far
def tab (N : Nat) (l : List Ar) : Nat → Nat → Nat → Int
  | 0 => unit0
  | m + 1 => stM (tab N l m) N l
theorem stTo_get (S : Nat → Nat → Int) (a : Ar) (O : Nat → Nat → Int) : ∀ (k i j : Nat), stTo S a O k i j = if i = a.f ∧ j < k ∧ S a.t j < far then min (O i j) (a.c + S a.t j) else O i j
  | 0, i, j => by simp [stTo]
  | k + 1, i, j => by
    have ih := stTo_get S a O k
    simp only [stTo, stC]
    by_cases hk : S a.t k < far
    · rw [if_pos hk]
      simp only [updF]
      by_cases e : i = a.f ∧ j = k
      · obtain ⟨rfl, rfl⟩ := e
        rw [if_pos ⟨rfl, rfl⟩, ih, if_neg (by omega), if_pos ⟨rfl, by omega, hk⟩]
      · rw [if_neg e, ih]
        by_cases e2 : i = a.f ∧ j < k ∧ S a.t j < far
        · rw [if_pos e2, if_pos ⟨e2.1, by omega, e2.2.2⟩]
        · rw [if_neg e2, if_neg]
          intro h
          rcases Nat.lt_or_ge j k with h1 | h1
          · exact e2 ⟨h.1, h1, h.2.2⟩
          · exact e ⟨h.1, by omega⟩
    · rw [if_neg hk, ih]
      by_cases e2 : i = a.f ∧ j < k ∧ S a.t j < far
      · rw [if_pos e2, if_pos ⟨e2.1, by omega, e2.2.2⟩]
      · rw [if_neg e2, if_neg]
        intro h
        rcases Nat.lt_or_ge j k with h1 | h1
        · exact e2 ⟨h.1, h1, h.2.2⟩
        · obtain rfl : j = k := by omega
          exact hk h.2.2
/-- What a step knows: it is the least of what arcs lead to. -/
theorem stL_facts {S : Nat → Nat → Int} {N : Nat} {j : Nat} (hj : j < N) : ∀ (l : List Ar) (O : Nat → Nat → Int) (i : Nat),
    stL S N l O i j ≤ O i j ∧ (stL S N l O i j = O i j ∨ ∃ a ∈ l, a.f = i ∧ S a.t j < far ∧ stL S N l O i j = a.c + S a.t j) ∧ ∀ a ∈ l, a.f = i → S a.t j < far → stL S N l O i j ≤ a.c + S a.t j
  | [], O, i => ⟨Int.le_refl _, .inl rfl, fun a h => by simp at h⟩
  | a :: l, O, i => by
    obtain ⟨h1, h2, h3⟩ := stL_facts hj l (stTo S a O N) i
    have hg := stTo_get S a O N i j
    simp only [stL]
    generalize hx : stL S N l (stTo S a O N) i j = x at *
    by_cases e : i = a.f ∧ j < N ∧ S a.t j < far
    · rw [if_pos e] at hg
      refine ⟨by omega, ?_, fun b hb h4 h5 => ?_⟩
      · rcases h2 with h2 | ⟨b, h4, h5, h6, h7⟩
        · rcases Int.le_total (O i j) (a.c + S a.t j) with h8 | h8
          · exact .inl (by omega)
          · exact .inr ⟨a, by simp, e.1.symm, e.2.2, by omega⟩
        · exact .inr ⟨b, by simp [h4], h5, h6, h7⟩
      · rcases List.mem_cons.1 hb with rfl | hb
        · omega
        · exact h3 b hb h4 h5
    · rw [if_neg e] at hg
      refine ⟨by omega, ?_, fun b hb h4 h5 => ?_⟩
      · rcases h2 with h2 | ⟨b, h4, h5, h6, h7⟩
        · exact .inl (by omega)
        · exact .inr ⟨b, by simp [h4], h5, h6, h7⟩
      · rcases List.mem_cons.1 hb with rfl | hb
        · exact absurd ⟨h4.symm, hj, h5⟩ e
        · exact h3 b hb h4 h5
theorem wt_bound {n : Nat} {l : List Ar} (hl : ∀ a ∈ l, AOk n a) : ∀ {w : List Ar} {i j : Nat}, Wk l i w j → -2000000 * (w.length : Int) ≤ wt w ∧ wt w ≤ 2000000 * (w.length : Int)
  | [], i, j, h => by simp [wt]
  | a :: w, i, j, ⟨h1, h2, h3⟩ => by
    have := wt_bound hl h3
    have h4 := hl a h1
    simp only [AOk] at h4
    simp only [wt, List.length_cons]
    omega
section
variable {n : Nat} {l : List Ar} (hl : ∀ a ∈ l, AOk n a)
include hl
/-- Exactly m arcs. -/
theorem tab_spec : ∀ (m : Nat), m ≤ 1000 → ∀ i j, i < n + 1 → j < n + 1 → tab (n + 1) l m i j ≤ far ∧ (tab (n + 1) l m i j < far → ∃ w, Wk l i w j ∧ w.length = m ∧ wt w = tab (n + 1) l m i j) ∧ ∀ w, Wk l i w j → w.length = m → tab (n + 1) l m i j ≤ wt w
  | 0, _, i, j, hi, hj => by
    simp only [tab, unit0]
    by_cases e : i = j
    · rw [if_pos e]
      refine ⟨by decide, fun _ => ⟨[], e, rfl, rfl⟩, fun w hw h0 => ?_⟩
      obtain rfl : w = [] := List.length_eq_zero_iff.1 h0
      simp [wt]
    · rw [if_neg e]
      refine ⟨Int.le_refl _, fun h => by omega, fun w hw h0 => ?_⟩
      obtain rfl : w = [] := List.length_eq_zero_iff.1 h0
      exact absurd hw e
  | m + 1, hm, i, j, hi, hj => by
    have ih := tab_spec m (by omega)
    obtain ⟨h1, h2, h3⟩ := stL_facts (S := tab (n + 1) l m) (N := n + 1) hj l (fun _ _ => far) i
    simp only [tab, stM]
    refine ⟨h1, fun hlt => ?_, fun w hw hlen => ?_⟩
    · rcases h2 with h2 | ⟨a, h4, h5, h6, h7⟩
      · omega
      · obtain ⟨w, k1, k2, k3⟩ := (ih a.t j (hl a h4).2.1 hj).2.1 h6
        exact ⟨a :: w, ⟨h4, h5, k1⟩, by simp [k2], by simp only [wt]; omega⟩
    · cases w with
      | nil => simp at hlen
      | cons a w =>
        obtain ⟨e1, e2, e3⟩ := hw
        have k1 := (ih a.t j (hl a e1).2.1 hj).2.2 w e3 (by simpa using hlen)
        have k2 := wt_bound hl e3
        have k3 : (w.length : Int) ≤ 1000 := by simp at hlen; omega
        have k4 := h3 a e1 e2 (by unfold far; omega)
        simp only [wt]; omega
theorem tab_low (m : Nat) (hm : m ≤ 1000) (i j : Nat) (hi : i < n + 1) (hj : j < n + 1) : -2000000000 ≤ tab (n + 1) l m i j ∧ tab (n + 1) l m i j ≤ far := by
  obtain ⟨h1, h2, h3⟩ := tab_spec hl m hm i j hi hj
  refine ⟨?_, h1⟩
  by_cases h : tab (n + 1) l m i j < far
  · obtain ⟨w, k1, k2, k3⟩ := h2 h
    have := wt_bound hl k1
    omega
  · unfold far at h; omega
end
/-- At most m arcs. -/
def bst (N : Nat) (l : List Ar) : Nat → Nat → Nat → Int
  | 0 => unit0
  | m + 1 => fun i j => min (bst N l m i j) (tab N l (m + 1) i j)
section
variable {n : Nat} {l : List Ar} (hl : ∀ a ∈ l, AOk n a)
include hl
theorem bst_spec : ∀ (m : Nat), m ≤ 1000 → ∀ i j, i < n + 1 → j < n + 1 → bst (n + 1) l m i j ≤ far ∧ -2000000000 ≤ bst (n + 1) l m i j ∧ (bst (n + 1) l m i j < far → ∃ w, Wk l i w j ∧ w.length ≤ m ∧ wt w = bst (n + 1) l m i j) ∧ ∀ w, Wk l i w j → w.length ≤ m → bst (n + 1) l m i j ≤ wt w
  | 0, hm, i, j, hi, hj => by
    obtain ⟨h1, h2, h3⟩ := tab_spec hl 0 hm i j hi hj
    obtain ⟨h4, _⟩ := tab_low hl 0 hm i j hi hj
    refine ⟨h1, h4, fun h => ?_, fun w hw h0 => h3 w hw (by omega)⟩
    obtain ⟨w, k1, k2, k3⟩ := h2 h
    exact ⟨w, k1, by omega, k3⟩
  | m + 1, hm, i, j, hi, hj => by
    obtain ⟨h1, h2, h3⟩ := tab_spec hl (m + 1) hm i j hi hj
    obtain ⟨h4, _⟩ := tab_low hl (m + 1) hm i j hi hj
    obtain ⟨k1, k2, k3, k4⟩ := bst_spec m (by omega) i j hi hj
    simp only [bst]
    refine ⟨by omega, by omega, fun h => ?_, fun w hw h0 => ?_⟩
    · rcases Int.le_total (bst (n + 1) l m i j) (tab (n + 1) l (m + 1) i j) with e | e
      · obtain ⟨w, e1, e2, e3⟩ := k3 (by omega)
        exact ⟨w, e1, by omega, by omega⟩
      · obtain ⟨w, e1, e2, e3⟩ := h2 (by omega)
        exact ⟨w, e1, by omega, by omega⟩
    · by_cases e : w.length ≤ m
      · have := k4 w hw e; omega
      · have := h3 w hw (by omega); omega
end
def diagB (N : Nat) (S : Nat → Nat → Int) : Bool := (List.range N).all fun i => decide (0 ≤ S i i)
section
variable {n : Nat} {l : List Ar} (hl : ∀ a ∈ l, AOk n a) (hn : n ≤ 100)
include hl hn
theorem diag_iff : diagB (n + 1) (bst (n + 1) l (n + 2)) = true ↔ Sat l := by
  have hi := aok_inr hl
  constructor
  · intro h
    simp only [diagB, List.all_eq_true, List.mem_range, decide_eq_true_eq] at h
    refine sat_of_nonneg hi fun k w hk hw hlen => ?_
    have h1 := h k hk
    have h2 := (bst_spec hl (n + 2) (by omega) k k hk hk).2.2.2 w hw (by omega)
    omega
  · intro h
    simp only [diagB, List.all_eq_true, List.mem_range, decide_eq_true_eq]
    intro k hk
    obtain ⟨h1, h2, h3, h4⟩ := bst_spec hl (n + 2) (by omega) k k hk hk
    by_cases e : bst (n + 1) l (n + 2) k k < far
    · obtain ⟨w, k1, k2, k3⟩ := h3 e
      have := sat_closed h k1
      omega
    · unfold far at e; omega
/-- The least weight from place to place. -/
theorem bst_le (hs : Sat l) {i j : Nat} (hi : i < n + 1) (hj : j < n + 1) {w : List Ar} (hw : Wk l i w j) : bst (n + 1) l (n + 2) i j ≤ wt w := by
  have hr := aok_inr hl
  obtain ⟨w', h1, h2, h3⟩ := shorten hr ((nonneg_iff hr).2 hs) w.length w (Nat.le_refl _) hi hw
  have := (bst_spec hl (n + 2) (by omega) i j hi hj).2.2.2 w' h1 (by omega)
  omega
end
/-- The least of a row and of 0. -/
def minTo (r : Nat → Int) : Nat → Int
  | 0 => 0
  | k + 1 => min (minTo r k) (r k)
theorem minTo_le (r : Nat → Int) : ∀ (k : Nat), minTo r k ≤ 0 ∧ ∀ j, j < k → minTo r k ≤ r j
  | 0 => ⟨Int.le_refl _, fun j h => by omega⟩
  | k + 1 => by
    obtain ⟨h1, h2⟩ := minTo_le r k
    simp only [minTo]
    refine ⟨by omega, fun j hj => ?_⟩
    by_cases e : j < k
    · have := h2 j e; omega
    · obtain rfl : j = k := by omega
      omega
theorem minTo_is (r : Nat → Int) : ∀ (k : Nat), minTo r k = 0 ∨ ∃ j, j < k ∧ minTo r k = r j
  | 0 => .inl rfl
  | k + 1 => by
    simp only [minTo]
    rcases Int.le_total (minTo r k) (r k) with e | e
    · rcases minTo_is r k with h | ⟨j, h1, h2⟩
      · exact .inl (by omega)
      · exact .inr ⟨j, by omega, by omega⟩
    · exact .inr ⟨k, by omega, by omega⟩
theorem bst_min {n : Nat} {l : List Ar} (hl : ∀ a ∈ l, AOk n a) (hn : n ≤ 100) (hs : Sat l) : IsMin (n + 1) l (fun i => minTo (bst (n + 1) l (n + 2) i) (n + 1)) := fun i hi => by
  obtain ⟨h1, h2⟩ := minTo_le (bst (n + 1) l (n + 2) i) (n + 1)
  refine ⟨?_, fun w j hw => ?_⟩
  · rcases minTo_is (bst (n + 1) l (n + 2) i) (n + 1) with h | ⟨j, h3, h4⟩
    · exact ⟨[], i, rfl, by show wt [] = minTo _ _; rw [h]; rfl⟩
    · obtain ⟨w, k1, k2, k3⟩ := (bst_spec hl (n + 2) (by omega) i j hi h3).2.2.1 (by unfold far; omega)
      exact ⟨w, j, k1, by simp only; omega⟩
  · have hj : j < n + 1 := by
      cases w with
      | nil => simp only [Wk] at hw; omega
      | cons a w => exact (show ∀ (w : List Ar) (i : Nat), i < n + 1 → Wk l i w j → j < n + 1 from fun w => by
          induction w with
          | nil => intro i hi h; simp only [Wk] at h; omega
          | cons b w ih => intro i hi h; exact ih b.t (hl b h.1).2.1 h.2.2) _ i hi hw
    have := h2 j hj
    have := bst_le hl hn hs hi hj hw
    simp only at *
    omega

/-! ### Distances as the program has them -/

def Bd (B : Int) (d : List Int) : Prop := ∀ i, -B ≤ gd d i ∧ gd d i ≤ 0
theorem bd_mono {B C : Int} {d : List Int} (h : Bd B d) (k : B ≤ C) : Bd C d := fun i => by have := h i; omega
theorem bd_rel {B : Int} {d : List Int} {a : Ar} (h : Bd B d) (ha : a.f < d.length) (hc : -2000001 ≤ a.c ∧ a.c ≤ 2000001) : Bd (B + 2000001) (rel1 d a) := fun i => by
  have h1 := h i
  have h2 := h a.t
  have h3 := h a.f
  rw [rel1_get ha]
  split <;> omega
theorem gd_get {d : List Int} {i : Nat} (h : i < d.length) : d[((i : Nat) : Int).toNat]? = some (gd d i) := by
  rw [Int.toNat_natCast, List.getElem?_eq_getElem h]
  simp [gd, List.getD_eq_getElem?_getD, h]
/-- Arcs whose numbers are small. -/
def ASm (n : Nat) (l : List Ar) : Prop := ∀ a ∈ l, a.f < n + 1 ∧ a.t < n + 1 ∧ -2000001 ≤ a.c ∧ a.c ≤ 2000001
def distR (n : Nat) (l : List Ar) : List Int × Bool := match bf l (n + 2) (List.replicate (n + 1) 0) with
  | some d => (d, true)
  | none => ([], false)
theorem aok_asm {n : Nat} {l : List Ar} (h : ∀ a ∈ l, AOk n a) : ASm n l := fun a ha => by
  have := h a ha
  simp only [AOk] at this
  omega
end Go.Sj.Dif
