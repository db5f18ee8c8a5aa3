/-
  General parts: M19, M20, M21, M22, M23, M24, M25. No condition; nothing here names a program.
-/
import Derived.Test.YtoaenbfidlgjhaaSjQM
set_option linter.unusedVariables false
set_option linter.unusedSimpArgs false
set_option linter.unusedSectionVars false
/-
  Graphs and counts of their elements: plain mathematics.
-/
namespace Go.Sj.Sta
open Go.Sj Go.Sj.Typ
set_option linter.unusedVariables false

structure Ed where
  ty : Int
  fr : Int
  to : Int
deriving DecidableEq
structure Gr where
  nodes : List Int
  edges : List Ed
def cEd (e : Ed) : List AV := [AI e.ty, AI e.fr, AI e.to]
abbrev edsA (l : List Ed) : AV := .im 3 (l.map cEd)
abbrev grA (g : Gr) : AV := .agg [ints g.nodes, edsA g.edges]
abbrev grP (g : Gr) : AV := .ip [ints g.nodes, edsA g.edges]

structure Cnt where
  ty : Int
  fr : Int
  to : Int
  nu : Int
deriving DecidableEq
def cCnt (c : Cnt) : List AV := [AI c.ty, AI c.fr, AI c.to, AI c.nu]
abbrev cntsA (l : List Cnt) : AV := .im 4 (l.map cCnt)
structure Sta where
  nodes : List Cnt
  edges : List Cnt
abbrev staA (s : Sta) : AV := .agg [cntsA s.nodes, cntsA s.edges]
abbrev staP (s : Sta) : AV := .ip [cntsA s.nodes, cntsA s.edges]

/-! Keys. -/
def klt (a b : Cnt) : Prop := a.ty < b.ty ∨ a.ty = b.ty ∧ (a.fr < b.fr ∨ a.fr = b.fr ∧ a.to < b.to)
def keq (a b : Cnt) : Prop := a.ty = b.ty ∧ a.fr = b.fr ∧ a.to = b.to
instance (a b : Cnt) : Decidable (klt a b) := inferInstanceAs (Decidable (_ ∨ _))
instance (a b : Cnt) : Decidable (keq a b) := inferInstanceAs (Decidable (_ ∧ _))
/-- The comparison of two keys, as a number. -/
def cmp3 (a b : Cnt) : Int := if a.ty - b.ty ≠ 0 then a.ty - b.ty else if a.fr - b.fr ≠ 0 then a.fr - b.fr else a.to - b.to
theorem cmp3_lt (a b : Cnt) : cmp3 a b < 0 ↔ klt a b := by
  unfold cmp3 klt
  repeat' split
  all_goals omega
theorem cmp3_eq (a b : Cnt) : cmp3 a b = 0 ↔ keq a b := by
  unfold cmp3 keq
  repeat' split
  all_goals omega
theorem klt_trans {a b c : Cnt} (h : klt a b) (k : klt b c) : klt a c := by unfold klt at *; omega
theorem klt_irr {a b : Cnt} (h : klt a b) : ¬ keq a b := by unfold klt keq at *; omega
theorem klt_asym {a b : Cnt} (h : klt a b) : ¬ klt b a := by unfold klt at *; omega
theorem klt_tri (a b : Cnt) : klt a b ∨ keq a b ∨ klt b a := by unfold klt keq; omega
theorem klt_keq {a b c : Cnt} (h : klt a b) (k : keq b c) : klt a c := by unfold klt keq at *; omega
theorem keq_klt {a b c : Cnt} (h : keq a b) (k : klt b c) : klt a c := by unfold klt keq at *; omega
theorem keq_symm {a b : Cnt} (h : keq a b) : keq b a := by unfold keq at *; omega
theorem keq_trans {a b c : Cnt} (h : keq a b) (k : keq b c) : keq a c := by unfold keq at *; omega
theorem keq_refl (a : Cnt) : keq a a := ⟨rfl, rfl, rfl⟩
theorem keq_eq {a b : Cnt} (h : keq a b) (k : a.nu = b.nu) : a = b := by
  cases a; cases b; simp only [keq] at *; obtain ⟨rfl, rfl, rfl⟩ := h; subst k; rfl
abbrev Srt (l : List Cnt) : Prop := l.Pairwise klt

/-! A number added to a count. -/
def addN (c x : Cnt) : Cnt := ⟨c.ty, c.fr, c.to, c.nu + x.nu⟩
def addC : List Cnt → Cnt → List Cnt
  | [], x => [x]
  | c :: l, x => if klt c x then c :: addC l x else if keq c x then (if c.nu + x.nu = 0 then l else addN c x :: l) else x :: c :: l
theorem addC_all {a : List Cnt} {x : Cnt} (h : ∀ c ∈ a, klt c x) (b : List Cnt) : addC (a ++ b) x = a ++ addC b x := by
  induction a with
  | nil => rfl
  | cons c a ih =>
    rw [List.cons_append, addC, if_pos (h c (by simp)), ih (fun d hd => h d (List.mem_cons_of_mem _ hd)), List.cons_append]
theorem addC_some {a : List Cnt} {x : Cnt} (h : ∃ c ∈ a, ¬ klt c x) (b : List Cnt) : addC (a ++ b) x = addC a x ++ b := by
  induction a with
  | nil => obtain ⟨c, hc, _⟩ := h; cases hc
  | cons c a ih =>
    rw [List.cons_append, addC, addC]
    by_cases h1 : klt c x
    · rw [if_pos h1, if_pos h1, ih ?_, List.cons_append]
      obtain ⟨d, hd, hx⟩ := h
      rcases List.mem_cons.1 hd with rfl | hd
      · exact absurd h1 hx
      · exact ⟨d, hd, hx⟩
    · rw [if_neg h1, if_neg h1]
      by_cases h2 : keq c x
      · rw [if_pos h2, if_pos h2]
        by_cases h3 : c.nu + x.nu = 0
        · rw [if_pos h3, if_pos h3]
        · rw [if_neg h3, if_neg h3, List.cons_append]
      · rw [if_neg h2, if_neg h2, List.cons_append, List.cons_append]
theorem addC_nil (x : Cnt) : addC [] x = [x] := rfl
theorem addC_len (l : List Cnt) (x : Cnt) : (addC l x).length ≤ l.length + 1 := by
  induction l with
  | nil => simp [addC]
  | cons c l ih =>
    rw [addC]
    split
    · simp; omega
    · split
      · split <;> simp
        omega
      · simp
/-- What is in the list then. -/
theorem addC_mem {l : List Cnt} {x c : Cnt} (h : c ∈ addC l x) : c ∈ l ∨ c = x ∨ ∃ d ∈ l, keq d x ∧ c = addN d x ∧ c.nu ≠ 0 := by
  induction l with
  | nil => simp [addC] at h; exact .inr (.inl h)
  | cons d l ih =>
    rw [addC] at h
    split at h
    · rcases List.mem_cons.1 h with rfl | h
      · exact .inl (by simp)
      · rcases ih h with h | h | ⟨e, he, k⟩
        · exact .inl (by simp [h])
        · exact .inr (.inl h)
        · exact .inr (.inr ⟨e, by simp [he], k⟩)
    · split at h
      · rename_i hk
        split at h
        · exact .inl (by simp [h])
        · rename_i hz
          rcases List.mem_cons.1 h with rfl | h
          · exact .inr (.inr ⟨d, by simp, hk, rfl, hz⟩)
          · exact .inl (by simp [h])
      · rcases List.mem_cons.1 h with rfl | h
        · exact .inr (.inl rfl)
        · exact .inl h
theorem addC_srt {l : List Cnt} {x : Cnt} (h : Srt l) : Srt (addC l x) := by
  induction l with
  | nil => simp [addC]
  | cons d l ih =>
    obtain ⟨h1, h2⟩ := List.pairwise_cons.1 h
    rw [addC]
    split
    · rename_i hk
      refine List.pairwise_cons.2 ⟨fun c hc => ?_, ih h2⟩
      rcases addC_mem hc with hc | rfl | ⟨e, he, hq, rfl, _⟩
      · exact h1 c hc
      · exact hk
      · exact h1 e he
    · split
      · split
        · exact h2
        · exact List.pairwise_cons.2 ⟨fun c hc => h1 c hc, h2⟩
      · rename_i hk hq
        refine List.pairwise_cons.2 ⟨fun c hc => ?_, h⟩
        have hd : klt x d := by rcases klt_tri d x with a | a | a; exact absurd a hk; exact absurd a hq; exact a
        rcases List.mem_cons.1 hc with rfl | hc
        · exact hd
        · exact klt_trans hd (h1 c hc)
theorem addC_nz {l : List Cnt} {x : Cnt} (h : ∀ c ∈ l, c.nu ≠ 0) (hx : x.nu ≠ 0) : ∀ c ∈ addC l x, c.nu ≠ 0 := fun c hc => by
  rcases addC_mem hc with hc | rfl | ⟨e, he, hq, rfl, hz⟩
  · exact h c hc
  · exact hx
  · exact hz

/-! Sums. -/
def KP (p : Cnt → Bool) : Prop := ∀ a b, keq a b → p a = p b
def sumP (p : Cnt → Bool) : List Cnt → Int
  | [] => 0
  | c :: l => (if p c = true then c.nu else 0) + sumP p l
theorem sumP_append (p : Cnt → Bool) (a b : List Cnt) : sumP p (a ++ b) = sumP p a + sumP p b := by
  induction a with
  | nil => simp [sumP]
  | cons c a ih => rw [List.cons_append, sumP, sumP, ih]; omega
theorem sumP_addC {p : Cnt → Bool} (hp : KP p) (l : List Cnt) (x : Cnt) : sumP p (addC l x) = sumP p l + if p x = true then x.nu else 0 := by
  induction l with
  | nil => simp [addC, sumP]
  | cons c l ih =>
    rw [addC]
    split
    · rw [sumP, sumP, ih]; omega
    · split
      · rename_i hq
        have := hp c x hq
        split
        · rename_i hz
          rw [sumP, this]
          split <;> omega
        · rw [sumP, sumP, show p (addN c x) = p x from (hp (addN c x) x (keq_trans ⟨rfl, rfl, rfl⟩ hq)), this]
          split
          · simp only [addN]; omega
          · omega
      · rw [sumP, sumP]; omega
def kq (k : Cnt) (c : Cnt) : Bool := decide (keq c k)
theorem kq_kp (k : Cnt) : KP (kq k) := fun a b h => by
  simp only [kq, decide_eq_decide]
  exact ⟨fun x => keq_trans (keq_symm h) x, fun x => keq_trans h x⟩
theorem sumP_zero {k : Cnt} {l : List Cnt} (h : ∀ c ∈ l, ¬ keq c k) : sumP (kq k) l = 0 := by
  induction l with
  | nil => rfl
  | cons c l ih =>
    rw [sumP, ih (fun d hd => h d (by simp [hd])), kq, decide_eq_false (h c (by simp))]
    rfl
/-- Sorted counts are known by their numbers. -/
theorem srt_ext {a b : List Cnt} (ha : Srt a) (hb : Srt b) (na : ∀ c ∈ a, c.nu ≠ 0) (nb : ∀ c ∈ b, c.nu ≠ 0) (h : ∀ k, sumP (kq k) a = sumP (kq k) b) : a = b := by
  have only : ∀ (c : Cnt) (l : List Cnt), Srt (c :: l) → sumP (kq c) (c :: l) = c.nu := fun c l hs => by
    rw [sumP, sumP_zero (fun d hd he => klt_irr ((List.pairwise_cons.1 hs).1 d hd) (keq_symm he)), kq, decide_eq_true (keq_refl c)]
    simp
  induction a generalizing b with
  | nil =>
    cases b with
    | nil => rfl
    | cons d b =>
      have := h d
      rw [only d b hb] at this
      exact absurd this.symm (nb d (by simp))
  | cons c a ih =>
    cases b with
    | nil =>
      have := h c
      rw [only c a ha] at this
      exact absurd this (na c (by simp))
    | cons d b =>
      obtain ⟨a1, a2⟩ := List.pairwise_cons.1 ha
      obtain ⟨b1, b2⟩ := List.pairwise_cons.1 hb
      have hcd : keq c d := by
        rcases klt_tri c d with hk | hk | hk
        · have := h c
          rw [only c a ha, sumP_zero] at this
          · exact absurd this (na c (by simp))
          · intro e he
            rcases List.mem_cons.1 he with rfl | he
            · exact fun x => klt_irr hk (keq_symm x)
            · exact fun x => klt_irr (klt_trans hk (b1 e he)) (keq_symm x)
        · exact hk
        · have := h d
          rw [only d b hb, sumP_zero] at this
          · exact absurd this.symm (nb d (by simp))
          · intro e he
            rcases List.mem_cons.1 he with rfl | he
            · exact fun x => klt_irr hk (keq_symm x)
            · exact fun x => klt_irr (klt_trans hk (a1 e he)) (keq_symm x)
      have hnu : c.nu = d.nu := by
        have h1 := h c
        rw [only c a ha, sumP, sumP_zero (fun e he x => klt_irr (keq_klt hcd (b1 e he)) (keq_symm x)), kq, decide_eq_true (keq_symm hcd)] at h1
        simpa using h1
      have hc := keq_eq hcd hnu
      subst hc
      rw [ih a2 b2 (fun e he => na e (by simp [he])) (fun e he => nb e (by simp [he])) (fun k => ?_)]
      have := h k
      rw [sumP, sumP] at this
      omega
/-- Back again. -/
theorem addC_back {l : List Cnt} {x y : Cnt} (hs : Srt l) (hn : ∀ c ∈ l, c.nu ≠ 0) (hx : x.nu ≠ 0) (hxy : keq x y) (hy : x.nu + y.nu = 0) : addC (addC l x) y = l := by
  refine srt_ext (addC_srt (addC_srt hs)) hs (addC_nz (addC_nz hn hx) (by omega)) hn (fun k => ?_)
  rw [sumP_addC (kq_kp k), sumP_addC (kq_kp k), kq_kp k x y hxy]
  split <;> omega
def addAll (l : List Cnt) (xs : List Cnt) : List Cnt := xs.foldl addC l
theorem addAll_srt {l : List Cnt} (hs : Srt l) (xs : List Cnt) : Srt (addAll l xs) := by
  induction xs generalizing l with
  | nil => exact hs
  | cons x xs ih => exact ih (addC_srt hs)
theorem addAll_nz {l : List Cnt} (hn : ∀ c ∈ l, c.nu ≠ 0) {xs : List Cnt} (hx : ∀ x ∈ xs, x.nu ≠ 0) : ∀ c ∈ addAll l xs, c.nu ≠ 0 := by
  induction xs generalizing l with
  | nil => exact hn
  | cons x xs ih => exact ih (addC_nz hn (hx x (by simp))) (fun y hy => hx y (by simp [hy]))
theorem addAll_sum {p : Cnt → Bool} (hp : KP p) (l xs : List Cnt) : sumP p (addAll l xs) = sumP p l + sumP p xs := by
  induction xs generalizing l with
  | nil => simp [addAll, sumP]
  | cons x xs ih =>
    show sumP p (addAll (addC l x) xs) = _
    rw [ih, sumP_addC hp, sumP]; omega
theorem sumP_perm {p : Cnt → Bool} {a b : List Cnt} (h : a.Perm b) : sumP p a = sumP p b := by
  induction h with
  | nil => rfl
  | cons x _ ih => rw [sumP, sumP, ih]
  | swap x y l => rw [sumP, sumP, sumP, sumP]; omega
  | trans _ _ h1 h2 => rw [h1, h2]
/-- The order makes no difference. -/
theorem addAll_perm {a b : List Cnt} (h : a.Perm b) (ha : ∀ x ∈ a, x.nu ≠ 0) : addAll [] a = addAll [] b :=
  srt_ext (addAll_srt .nil a) (addAll_srt .nil b) (addAll_nz (by simp) ha) (addAll_nz (by simp) (fun x hx => ha x (h.mem_iff.2 hx))) (fun k => by
    rw [addAll_sum (kq_kp k), addAll_sum (kq_kp k), sumP_perm h])
theorem addAll_snoc (l xs : List Cnt) (x : Cnt) : addAll l (xs ++ [x]) = addC (addAll l xs) x := by simp [addAll]
abbrev tot (l : List Cnt) : Int := sumP (fun _ => true) l
theorem tot_kp : KP (fun _ => true) := fun _ _ _ => rfl
/-- The number of a key. -/
def numK (l : List Cnt) (k : Cnt) : Int := match l.find? (fun c => decide (keq c k)) with
  | some c => c.nu
  | none => 0
theorem numK_sum {l : List Cnt} (hs : Srt l) (k : Cnt) : numK l k = sumP (kq k) l := by
  induction l with
  | nil => rfl
  | cons c l ih =>
    obtain ⟨h1, h2⟩ := List.pairwise_cons.1 hs
    unfold numK at ih ⊢
    rw [List.find?_cons, sumP, kq]
    by_cases hk : keq c k
    · rw [decide_eq_true hk, sumP_zero (fun d hd he => klt_irr (h1 d hd) (keq_trans hk (keq_symm he)))]
      simp
    · rw [decide_eq_false hk, ih h2]
      simp
/-- The place of a key in sorted counts. -/
def plc (l : List Cnt) (k : Cnt) : Nat := (l.takeWhile fun c => decide (klt c k)).length
theorem plc_le (l : List Cnt) (k : Cnt) : plc l k ≤ l.length := by
  induction l with
  | nil => simp [plc]
  | cons c l ih => simp only [plc, List.takeWhile_cons] at *; split <;> simp; omega
theorem plc_lt {l : List Cnt} {k : Cnt} {i : Nat} {c : Cnt} (hi : i < plc l k) (hc : l[i]? = some c) : klt c k := by
  induction l generalizing i with
  | nil => cases hc
  | cons d l ih =>
    simp only [plc, List.takeWhile_cons] at *
    split at hi
    · rename_i hd
      cases i with
      | zero => simp at hc; subst hc; exact of_decide_eq_true hd
      | succ i => exact ih (by simpa using hi) (by simpa using hc)
    · simp at hi
theorem plc_at {l : List Cnt} {k : Cnt} {c : Cnt} (hc : l[plc l k]? = some c) : ¬ klt c k := by
  induction l with
  | nil => cases hc
  | cons d l ih =>
    simp only [plc, List.takeWhile_cons] at *
    split at hc
    · simp at hc; exact ih hc
    · rename_i hd
      simp at hc; subst hc; simpa using hd
theorem plc_ge {l : List Cnt} (hs : Srt l) {k : Cnt} {i : Nat} {c : Cnt} (hi : plc l k ≤ i) (hc : l[i]? = some c) : ¬ klt c k := by
  have hlt : plc l k < l.length := Nat.lt_of_le_of_lt hi (List.getElem?_eq_some_iff.1 hc).1
  have h0 := plc_at (List.getElem?_eq_getElem hlt)
  rcases Nat.lt_or_ge (plc l k) i with h | h
  · intro hk
    obtain ⟨h3, rfl⟩ := List.getElem?_eq_some_iff.1 hc
    exact h0 (klt_trans (List.pairwise_iff_getElem.1 hs _ _ hlt h3 h) hk)
  · have : i = plc l k := by omega
    subst this
    rw [List.getElem?_eq_getElem hlt] at hc
    cases hc
    exact h0
theorem plc_uniq {l : List Cnt} {k : Cnt} {i : Nat} (hi : i ≤ l.length) (h1 : ∀ (j : Nat) c, j < i → l[j]? = some c → klt c k) (h2 : ∀ c, l[i]? = some c → ¬ klt c k) : i = plc l k := by
  rcases Nat.lt_trichotomy i (plc l k) with h | h | h
  · have hl : i < l.length := Nat.lt_of_lt_of_le h (plc_le l k)
    exact absurd (plc_lt h (List.getElem?_eq_getElem hl)) (h2 _ (List.getElem?_eq_getElem hl))
  · exact h
  · have hl : plc l k < l.length := by omega
    exact absurd (h1 _ _ h (List.getElem?_eq_getElem hl)) (plc_at (List.getElem?_eq_getElem hl))
theorem plc_take {l : List Cnt} {k c : Cnt} (h : c ∈ l.take (plc l k)) : klt c k := by
  obtain ⟨i, hi, rfl⟩ := List.mem_iff_getElem.1 h
  have : i < plc l k := by simp at hi; omega
  refine plc_lt (i := i) this ?_
  rw [List.getElem_take]
  exact List.getElem?_eq_getElem _
/-- In terms of the place. -/
theorem addC_plc (l : List Cnt) (x : Cnt) : addC l x = l.take (plc l x) ++ addC (l.drop (plc l x)) x := by
  have h := addC_all (a := l.take (plc l x)) (x := x) (fun c hc => plc_take hc) (l.drop (plc l x))
  rwa [List.take_append_drop] at h
theorem addC_new {l : List Cnt} {x : Cnt} (h : ∀ c, l[plc l x]? = some c → ¬ keq c x) : addC l x = l.take (plc l x) ++ x :: l.drop (plc l x) := by
  rw [addC_plc l x]
  congr 1
  rcases Nat.lt_or_ge (plc l x) l.length with hl | hl
  · have hx := List.getElem?_eq_getElem hl
    rw [List.drop_eq_getElem_cons hl, addC, if_neg (plc_at hx), if_neg (h _ hx)]
  · rw [List.drop_eq_nil_of_le hl]; rfl
theorem addC_old {l : List Cnt} {x c : Cnt} (hc : l[plc l x]? = some c) (hk : keq c x) : addC l x = l.take (plc l x) ++ ((if c.nu + x.nu = 0 then [] else [addN c x]) ++ l.drop (plc l x + 1)) := by
  rw [addC_plc l x]
  congr 1
  obtain ⟨hl, rfl⟩ := List.getElem?_eq_some_iff.1 hc
  rw [List.drop_eq_getElem_cons hl, addC, if_neg (plc_at hc), if_pos hk]
  split <;> rfl
theorem numK_plc {l : List Cnt} (hs : Srt l) {k c : Cnt} (hc : l[plc l k]? = some c) (hk : keq c k) : numK l k = c.nu := by
  rw [numK_sum hs, ← List.take_append_drop (plc l k) l, sumP_append, sumP_zero (fun d hd => klt_irr (plc_take hd))]
  obtain ⟨hl, rfl⟩ := List.getElem?_eq_some_iff.1 hc
  rw [List.drop_eq_getElem_cons hl, sumP, kq, decide_eq_true hk, sumP_zero]
  · simp
  · intro d hd he
    obtain ⟨i, hi, rfl⟩ := List.mem_iff_getElem.1 hd
    rw [List.getElem_drop] at he
    exact klt_irr (List.pairwise_iff_getElem.1 hs (plc l k) (plc l k + 1 + i) hl (by simp at hi; omega) (by omega)) (keq_trans hk (keq_symm he))
theorem numK_none {l : List Cnt} (hs : Srt l) {k : Cnt} (h : ∀ c, l[plc l k]? = some c → ¬ keq c k) : numK l k = 0 := by
  rw [numK_sum hs, sumP_zero]
  intro d hd he
  obtain ⟨i, hi, rfl⟩ := List.mem_iff_getElem.1 hd
  have hx := List.getElem?_eq_getElem hi
  rcases Nat.lt_trichotomy i (plc l k) with hk | hk | hk
  · exact klt_irr (plc_lt hk hx) he
  · subst hk; exact h _ hx he
  · have hl : plc l k < l.length := by omega
    have h1 := List.pairwise_iff_getElem.1 hs _ _ hl hi hk
    exact plc_at (List.getElem?_eq_getElem hl) (klt_keq h1 he)
end Go.Sj.Sta

/-
  Statistics: what the functions return, as plain mathematics.
-/
namespace Go.Sj.Sta
open Go.Sj Go.Sj.Typ
set_option linter.unusedVariables false

/-! Graphs. -/
def typB (x : Int) : Bool := decide (0 ≤ x ∧ x ≤ 99)
def edB (n : Nat) (e : Ed) : Bool := decide ((0 ≤ e.ty ∧ e.ty ≤ 99) ∧ (0 ≤ e.fr ∧ e.fr < n) ∧ (0 ≤ e.to ∧ e.to < n))
def gvalid (g : Gr) : Int := if 40 < g.nodes.length ∨ 80 < g.edges.length then 3 else if (g.nodes.any fun x => !typB x) = true then 6 else if (g.edges.any fun e => !edB g.nodes.length e) = true then 6 else 0
structure GV (g : Gr) : Prop where
  nl : g.nodes.length ≤ 40
  el : g.edges.length ≤ 80
  nodes : ∀ x ∈ g.nodes, 0 ≤ x ∧ x ≤ 99
  edges : ∀ e ∈ g.edges, (0 ≤ e.ty ∧ e.ty ≤ 99) ∧ (0 ≤ e.fr ∧ e.fr < g.nodes.length) ∧ (0 ≤ e.to ∧ e.to < g.nodes.length)
theorem gvalid_zero {g : Gr} : gvalid g = 0 ↔ GV g := by
  unfold gvalid
  constructor
  · intro h
    split at h
    · cases h
    · rename_i h1
      split at h
      · cases h
      · rename_i h2
        split at h
        · cases h
        · rename_i h3
          simp only [List.any_eq_true, not_exists, not_and, Bool.not_eq_true', Bool.not_eq_false, typB, edB, decide_eq_true_eq] at h2 h3
          exact ⟨by omega, by omega, h2, h3⟩
  · intro h
    rw [if_neg (by have := h.nl; have := h.el; omega), if_neg, if_neg]
    · simp only [List.any_eq_true, not_exists, not_and, Bool.not_eq_true', Bool.not_eq_false, edB, decide_eq_true_eq]
      exact h.edges
    · simp only [List.any_eq_true, not_exists, not_and, Bool.not_eq_true', Bool.not_eq_false, typB, decide_eq_true_eq]
      exact h.nodes
def nodeAt (g : Gr) (i : Int) : Int := g.nodes.getD i.toNat 0
theorem nodeAt_get {g : Gr} {i : Int} (h0 : 0 ≤ i) (h1 : i < g.nodes.length) : g.nodes[i.toNat]? = some (nodeAt g i) := by
  unfold nodeAt
  rw [List.getD_eq_getElem?_getD, List.getElem?_eq_getElem (by omega)]
  rfl
theorem nodeAt_mem {g : Gr} {i : Int} (h0 : 0 ≤ i) (h1 : i < g.nodes.length) : nodeAt g i ∈ g.nodes := List.mem_of_getElem? (nodeAt_get h0 h1)
def tyEd (t : Tys) (g : Gr) (e : Ed) : Int := if (t.edges.length : Int) ≤ e.ty then 6 else if fitsR t e.ty (nodeAt g e.fr) (nodeAt g e.to) = false then 13 else 0
def tyE (t : Tys) (g : Gr) (i : Nat) : Int := match g.edges[i]? with
  | some e => tyEd t g e
  | none => 0
def typedE (t : Tys) (g : Gr) : Int := if (validR t).2 ≠ 0 then (validR t).2 else if gvalid g ≠ 0 then gvalid g else if (g.nodes.any fun n => decide ((t.nodes.length : Int) ≤ n)) = true then 6 else firstN (tyE t g) g.edges.length
structure TV (t : Tys) (g : Gr) : Prop where
  types : (validR t).2 = 0
  graph : GV g
  nodes : ∀ x ∈ g.nodes, 0 ≤ x ∧ x < t.nodes.length
  edges : ∀ e ∈ g.edges, (0 ≤ e.ty ∧ e.ty < t.edges.length) ∧ fitsR t e.ty (nodeAt g e.fr) (nodeAt g e.to) = true
theorem typedE_zero {t : Tys} {g : Gr} : typedE t g = 0 ↔ TV t g := by
  unfold typedE
  constructor
  · intro h
    split at h
    · rename_i h1; exact absurd h h1
    · rename_i h1
      split at h
      · rename_i h2; exact absurd h h2
      · rename_i h2
        have hg := gvalid_zero.1 (Decidable.not_not.1 h2)
        split at h
        · cases h
        · rename_i h3
          simp only [List.any_eq_true, not_exists, not_and, decide_eq_true_eq, Int.not_le] at h3
          refine ⟨Decidable.not_not.1 h1, hg, fun x hx => ⟨(hg.nodes x hx).1, h3 x hx⟩, fun e he => ?_⟩
          obtain ⟨i, hi, rfl⟩ := List.mem_iff_getElem.1 he
          have := firstN_zero.1 h i hi
          have h5 := hg.edges _ he
          simp only [tyE, List.getElem?_eq_getElem hi, tyEd] at this
          split at this
          · cases this
          · split at this
            · cases this
            · rename_i a b
              exact ⟨⟨h5.1.1, by omega⟩, by simpa using b⟩
  · intro h
    rw [if_neg (by rw [h.types]; decide), if_neg (by rw [gvalid_zero.2 h.graph]; decide), if_neg]
    · refine firstN_none fun i hi => ?_
      have := h.edges _ (List.getElem_mem hi)
      simp only [tyE, List.getElem?_eq_getElem hi, tyEd]
      rw [if_neg (by omega), if_neg (by rw [this.2]; decide)]
    · simp only [List.any_eq_true, not_exists, not_and, decide_eq_true_eq, Int.not_le]
      exact fun x hx => (h.nodes x hx).2
def nodeC (n : Int) : Cnt := ⟨n, 0, 0, 1⟩
def edgeC (g : Gr) (e : Ed) : Cnt := ⟨e.ty, nodeAt g e.fr, nodeAt g e.to, 1⟩
def ofN (g : Gr) (l : List Int) : List Cnt := addAll [] (l.map nodeC)
def ofE (g : Gr) (l : List Ed) : List Cnt := addAll [] (l.map (edgeC g))
def ofS (g : Gr) : Sta := ⟨ofN g g.nodes, ofE g g.edges⟩
def ofR (t : Tys) (g : Gr) : Sta × Int := if typedE t g ≠ 0 then (⟨[], []⟩, typedE t g) else (ofS g, 0)

/-! Statistics. -/
def prevB (l : List Cnt) (i : Nat) (c : Cnt) : Bool := decide (0 < i) && (match l[i - 1]? with
  | some d => !decide (klt d c)
  | none => false)
def nodeOk (n : Nat) (c : Cnt) : Prop := (0 ≤ c.ty ∧ c.ty < n) ∧ c.fr = 0 ∧ c.to = 0 ∧ 1 ≤ c.nu ∧ c.nu ≤ 40
instance (n : Nat) (c : Cnt) : Decidable (nodeOk n c) := inferInstanceAs (Decidable (_ ∧ _))
def edgeOk (n m : Nat) (c : Cnt) : Prop := (0 ≤ c.ty ∧ c.ty < m) ∧ (0 ≤ c.fr ∧ c.fr < n) ∧ (0 ≤ c.to ∧ c.to < n) ∧ 1 ≤ c.nu ∧ c.nu ≤ 80
instance (n m : Nat) (c : Cnt) : Decidable (edgeOk n m c) := inferInstanceAs (Decidable (_ ∧ _))
def hasB (l : List Cnt) (k : Int) : Bool := l.any fun c => decide (c.ty = k)
def vN1 (n : Nat) (l : List Cnt) (i : Nat) (c : Cnt) : Int := if ¬ nodeOk n c then 6 else if prevB l i c = true then 12 else 0
def vN (n : Nat) (l : List Cnt) (i : Nat) : Int := match l[i]? with
  | some c => vN1 n l i c
  | none => 0
def vE1 (t : Tys) (s : Sta) (i : Nat) (c : Cnt) : Int := if ¬ edgeOk t.nodes.length t.edges.length c then 6 else if fitsR t c.ty c.fr c.to = false then 13 else if hasB s.nodes c.fr = false ∨ hasB s.nodes c.to = false then 10 else if prevB s.edges i c = true then 12 else 0
def vE (t : Tys) (s : Sta) (i : Nat) : Int := match s.edges[i]? with
  | some c => vE1 t s i c
  | none => 0
def sValid (t : Tys) (s : Sta) : Int := if (validR t).2 ≠ 0 then (validR t).2 else if firstN (vN t.nodes.length s.nodes) s.nodes.length ≠ 0 then firstN (vN t.nodes.length s.nodes) s.nodes.length else if 40 < tot s.nodes then 3
  else if firstN (vE t s) s.edges.length ≠ 0 then firstN (vE t s) s.edges.length else if 80 < tot s.edges then 3 else 0
structure SN (n : Nat) (l : List Cnt) : Prop where
  ok : ∀ c ∈ l, nodeOk n c
  srt : Srt l
structure SE' (t : Tys) (s : Sta) : Prop where
  ok : ∀ c ∈ s.edges, edgeOk t.nodes.length t.edges.length c
  fits : ∀ c ∈ s.edges, fitsR t c.ty c.fr c.to = true
  has : ∀ c ∈ s.edges, hasB s.nodes c.fr = true ∧ hasB s.nodes c.to = true
  srt : Srt s.edges
structure SV (t : Tys) (s : Sta) : Prop where
  types : (validR t).2 = 0
  nodes : SN t.nodes.length s.nodes
  ntot : tot s.nodes ≤ 40
  edges : SE' t s
  etot : tot s.edges ≤ 80
theorem srt_of_prev {l : List Cnt} : ∀ {k : Nat}, k ≤ l.length → (∀ i c, i < k → l[i]? = some c → prevB l i c = false) → Srt (l.take k)
  | 0, _, _ => by simp
  | k + 1, hk, h => by
    have ih := srt_of_prev (k := k) (by omega) (fun i c hi => h i c (by omega))
    rw [List.take_succ_eq_append_getElem (by omega)]
    refine List.pairwise_append.2 ⟨ih, by simp, fun a ha b hb => ?_⟩
    simp only [List.mem_singleton] at hb
    subst hb
    have hp := h k _ (by omega) (List.getElem?_eq_getElem (by omega))
    obtain ⟨i, hi, rfl⟩ := List.mem_iff_getElem.1 ha
    simp only [List.length_take] at hi
    have hlast : klt l[k - 1] l[k] := by
      rw [prevB, decide_eq_true (by omega), List.getElem?_eq_getElem (by omega)] at hp
      simpa using hp
    rw [List.getElem_take]
    rcases Nat.lt_or_ge i (k - 1) with h1 | h1
    · have := List.pairwise_iff_getElem.1 ih i (k - 1) (by simp; omega) (by simp; omega) h1
      rw [List.getElem_take, List.getElem_take] at this
      exact klt_trans this hlast
    · have : i = k - 1 := by omega
      subst this
      exact hlast
theorem prev_of_srt {l : List Cnt} (h : Srt l) {i : Nat} {c : Cnt} (hc : l[i]? = some c) : prevB l i c = false := by
  unfold prevB
  by_cases h0 : 0 < i
  · obtain ⟨hi, rfl⟩ := List.getElem?_eq_some_iff.1 hc
    rw [decide_eq_true h0, List.getElem?_eq_getElem (by omega)]
    have := List.pairwise_iff_getElem.1 h (i - 1) i (by omega) hi (by omega)
    simpa using this
  · rw [decide_eq_false h0]; rfl
theorem vN_zero {n : Nat} {l : List Cnt} : firstN (vN n l) l.length = 0 ↔ SN n l := by
  rw [firstN_zero]
  constructor
  · intro h
    have h1 : ∀ (i : Nat) (c : Cnt), l[i]? = some c → nodeOk n c ∧ prevB l i c = false := fun i c hc => by
      have := h i (List.getElem?_eq_some_iff.1 hc).1
      simp only [vN, hc, vN1] at this
      split at this
      · cases this
      · split at this
        · cases this
        · rename_i a b; exact ⟨Decidable.not_not.1 a, by simpa using b⟩
    refine ⟨fun c hc => ?_, ?_⟩
    · obtain ⟨i, hi, rfl⟩ := List.mem_iff_getElem.1 hc
      exact (h1 i _ (List.getElem?_eq_getElem hi)).1
    · have := srt_of_prev (l := l) (k := l.length) (Nat.le_refl _) (fun i c _ hc => (h1 i c hc).2)
      rwa [List.take_length] at this
  · intro h i hi
    have hx := List.getElem?_eq_getElem hi
    simp only [vN, hx, vN1]
    rw [if_neg (Decidable.not_not.2 (h.ok _ (List.getElem_mem hi))), if_neg (by rw [prev_of_srt h.srt hx]; decide)]
theorem vE_zero {t : Tys} {s : Sta} : firstN (vE t s) s.edges.length = 0 ↔ SE' t s := by
  rw [firstN_zero]
  constructor
  · intro h
    have h1 : ∀ (i : Nat) (c : Cnt), s.edges[i]? = some c → edgeOk t.nodes.length t.edges.length c ∧ fitsR t c.ty c.fr c.to = true ∧ (hasB s.nodes c.fr = true ∧ hasB s.nodes c.to = true) ∧ prevB s.edges i c = false := fun i c hc => by
      have := h i (List.getElem?_eq_some_iff.1 hc).1
      simp only [vE, hc, vE1] at this
      split at this
      · cases this
      · split at this
        · cases this
        · split at this
          · cases this
          · split at this
            · cases this
            · rename_i a b d e
              exact ⟨Decidable.not_not.1 a, by simpa using b, by simpa [not_or] using d, by simpa using e⟩
    refine ⟨fun c hc => ?_, fun c hc => ?_, fun c hc => ?_, ?_⟩
    · obtain ⟨i, hi, rfl⟩ := List.mem_iff_getElem.1 hc
      exact (h1 i _ (List.getElem?_eq_getElem hi)).1
    · obtain ⟨i, hi, rfl⟩ := List.mem_iff_getElem.1 hc
      exact (h1 i _ (List.getElem?_eq_getElem hi)).2.1
    · obtain ⟨i, hi, rfl⟩ := List.mem_iff_getElem.1 hc
      exact (h1 i _ (List.getElem?_eq_getElem hi)).2.2.1
    · have := srt_of_prev (l := s.edges) (k := s.edges.length) (Nat.le_refl _) (fun i c _ hc => (h1 i c hc).2.2.2)
      rwa [List.take_length] at this
  · intro h i hi
    have hx := List.getElem?_eq_getElem hi
    have hm := List.getElem_mem hi
    have h2 := h.has _ hm
    simp only [vE, hx, vE1]
    rw [if_neg (Decidable.not_not.2 (h.ok _ hm)), if_neg (by rw [h.fits _ hm]; decide), if_neg (by rw [h2.1, h2.2]; decide), if_neg (by rw [prev_of_srt h.srt hx]; decide)]
theorem sValid_zero {t : Tys} {s : Sta} : sValid t s = 0 ↔ SV t s := by
  unfold sValid
  constructor
  · intro h
    split at h
    · rename_i h1; exact absurd h h1
    · rename_i h1
      split at h
      · rename_i h2; exact absurd h h2
      · rename_i h2
        split at h
        · cases h
        · rename_i h3
          split at h
          · rename_i h4; exact absurd h h4
          · rename_i h4
            split at h
            · cases h
            · rename_i h5
              exact ⟨Decidable.not_not.1 h1, vN_zero.1 (Decidable.not_not.1 h2), by omega, vE_zero.1 (Decidable.not_not.1 h4), by omega⟩
  · intro h
    rw [if_neg (Decidable.not_not.2 h.types), if_neg (Decidable.not_not.2 (vN_zero.2 h.nodes)), if_neg (by have := h.ntot; omega), if_neg (Decidable.not_not.2 (vE_zero.2 h.edges)), if_neg (by have := h.etot; omega)]
/-- In nodes' counts: a type occurs exactly if its number is not 0. -/
theorem has_num {n : Nat} {l : List Cnt} (h : ∀ c ∈ l, nodeOk n c) (k : Int) (z : Int) : hasB l k = !decide (numK l ⟨k, 0, 0, z⟩ = 0) := by
  unfold hasB numK
  cases hf : l.find? (fun c => decide (keq c ⟨k, 0, 0, z⟩)) with
  | some c =>
    have h1 := List.mem_of_find?_eq_some hf
    have h2 := List.find?_some hf
    have h3 := h c h1
    have h4 : c.ty = k := (of_decide_eq_true h2).1
    have h5 : ¬ c.nu = 0 := by have := h3.2.2.2.1; omega
    show _ = !decide (c.nu = 0)
    rw [decide_eq_false h5]
    exact List.any_eq_true.2 ⟨c, h1, by simpa using h4⟩
  | none =>
    have h2 := List.find?_eq_none.1 hf
    show _ = !decide ((0 : Int) = 0)
    rw [decide_eq_true rfl]
    refine Bool.eq_false_iff.2 fun h3 => ?_
    obtain ⟨c, hc, hk⟩ := List.any_eq_true.1 h3
    have h4 := h c hc
    exact h2 c hc (decide_eq_true ⟨by simpa using hk, h4.2.1, h4.2.2.1⟩)
def nodesR (t : Tys) (s : Sta) (k : Int) : Int × Int := if sValid t s ≠ 0 then (0, sValid t s) else if ¬ (0 ≤ k ∧ k < t.nodes.length) then (0, 6) else (sumP (fun c => isR t c.ty k) s.nodes, 0)
def edgesR (t : Tys) (s : Sta) (e a b : Int) : Int × Int := if sValid t s ≠ 0 then (0, sValid t s) else if ¬ ((0 ≤ e ∧ e < t.edges.length) ∧ (0 ≤ a ∧ a < t.nodes.length) ∧ (0 ≤ b ∧ b < t.nodes.length)) then (0, 6) else (sumP (fun c => decide (c.ty = e) && isR t c.fr a && isR t c.to b) s.edges, 0)
def touchB (l : List Cnt) (k : Int) : Bool := l.any fun c => decide (c.fr = k ∨ c.to = k)
def nodeE' (t : Tys) (s : Sta) (k z : Int) : Int := if sValid t s ≠ 0 then sValid t s else if ¬ (0 ≤ k ∧ k < t.nodes.length) ∨ (z ≠ 1 ∧ z ≠ -1) then 6 else if z = 1 ∧ tot s.nodes = 40 then 3 else if z = -1 ∧ numK s.nodes ⟨k, 0, 0, z⟩ = 0 then 10
  else if z = -1 ∧ numK s.nodes ⟨k, 0, 0, z⟩ = 1 ∧ touchB s.edges k = true then 14 else 0
def nodeR (t : Tys) (s : Sta) (k z : Int) : Sta × Int := if nodeE' t s k z ≠ 0 then (⟨[], []⟩, nodeE' t s k z) else (⟨addC s.nodes ⟨k, 0, 0, z⟩, s.edges⟩, 0)
def edgeE' (t : Tys) (s : Sta) (e a b z : Int) : Int := if sValid t s ≠ 0 then sValid t s else if ¬ ((0 ≤ e ∧ e < t.edges.length) ∧ (0 ≤ a ∧ a < t.nodes.length) ∧ (0 ≤ b ∧ b < t.nodes.length)) ∨ (z ≠ 1 ∧ z ≠ -1) then 6
  else if fitsR t e a b = false then 13 else if (z = 1 ∧ (hasB s.nodes a = false ∨ hasB s.nodes b = false)) ∨ (z = -1 ∧ numK s.edges ⟨e, a, b, z⟩ = 0) then 10 else if z = 1 ∧ tot s.edges = 80 then 3 else 0
def edgeR (t : Tys) (s : Sta) (e a b z : Int) : Sta × Int := if edgeE' t s e a b z ≠ 0 then (⟨[], []⟩, edgeE' t s e a b z) else (⟨s.nodes, addC s.edges ⟨e, a, b, z⟩⟩, 0)
end Go.Sj.Sta

/-
  Statistics: what is valid, and ways back: plain mathematics.
-/
namespace Go.Sj.Sta
open Go.Sj Go.Sj.Typ
set_option linter.unusedVariables false

theorem keq_addN (d x : Cnt) : keq (addN d x) d := ⟨rfl, rfl, rfl⟩
/-- Properties of keys. -/
def QP (q : Cnt → Prop) : Prop := ∀ a b, keq a b → q a → q b
theorem addC_key {q : Cnt → Prop} (hq : QP q) {l : List Cnt} {x : Cnt} (h : ∀ c ∈ l, q c) (hx : q x) : ∀ c ∈ addC l x, q c := fun c hc => by
  rcases addC_mem hc with hc | rfl | ⟨d, hd, _, rfl, _⟩
  · exact h c hc
  · exact hx
  · exact hq _ _ (keq_symm (keq_addN d x)) (h d hd)
theorem addC_pos {l : List Cnt} {x : Cnt} (h : ∀ c ∈ l, 1 ≤ c.nu) (hx : 1 ≤ x.nu) : ∀ c ∈ addC l x, 1 ≤ c.nu := fun c hc => by
  rcases addC_mem hc with hc | rfl | ⟨d, hd, _, rfl, _⟩
  · exact h c hc
  · exact hx
  · have := h d hd; simp only [addN]; omega
theorem addAll_key {q : Cnt → Prop} (hq : QP q) {l xs : List Cnt} (h : ∀ c ∈ l, q c) (hx : ∀ c ∈ xs, q c) : ∀ c ∈ addAll l xs, q c := by
  induction xs generalizing l with
  | nil => exact h
  | cons x xs ih => exact ih (addC_key hq h (hx x (by simp))) (fun c hc => hx c (by simp [hc]))
theorem addAll_pos {l xs : List Cnt} (h : ∀ c ∈ l, 1 ≤ c.nu) (hx : ∀ c ∈ xs, 1 ≤ c.nu) : ∀ c ∈ addAll l xs, 1 ≤ c.nu := by
  induction xs generalizing l with
  | nil => exact h
  | cons x xs ih => exact ih (addC_pos h (hx x (by simp))) (fun c hc => hx c (by simp [hc]))
theorem sumP_nn {p : Cnt → Bool} {l : List Cnt} (h : ∀ c ∈ l, 0 ≤ c.nu) : 0 ≤ sumP p l := by
  induction l with
  | nil => exact Int.le_refl 0
  | cons c l ih =>
    have := ih (fun d hd => h d (by simp [hd]))
    have := h c (by simp)
    rw [sumP]; split <;> omega
theorem nu_tot {l : List Cnt} (h : ∀ c ∈ l, 1 ≤ c.nu) : ∀ c ∈ l, c.nu ≤ tot l := by
  induction l with
  | nil => intro c hc; cases hc
  | cons d l ih =>
    intro c hc
    have h1 := h d (by simp)
    have h2 : 0 ≤ tot l := sumP_nn (fun c hc => by have := h c (by simp [hc]); omega)
    have e : tot (d :: l) = d.nu + tot l := by simp [sumP]
    rcases List.mem_cons.1 hc with rfl | hc
    · omega
    · have := ih (fun c hc => h c (by simp [hc])) c hc; omega
theorem sumP_le {p q : Cnt → Bool} {l : List Cnt} (h : ∀ c ∈ l, 0 ≤ c.nu) (hpq : ∀ c ∈ l, p c = true → q c = true) : sumP p l ≤ sumP q l := by
  induction l with
  | nil => exact Int.le_refl 0
  | cons c l ih =>
    have := ih (fun d hd => h d (by simp [hd])) (fun d hd => hpq d (by simp [hd]))
    have h1 := h c (by simp)
    have h2 := hpq c (by simp)
    rw [sumP, sumP]
    cases hp : p c with
    | true => rw [h2 hp]; simp only [if_true]; omega
    | false => simp only [Bool.false_eq_true, if_false]; split <;> omega
/-- What was there, is there, where nothing is taken. -/
theorem addC_has {l : List Cnt} {x : Cnt} (h : ∀ c ∈ l, 1 ≤ c.nu) (hx : 1 ≤ x.nu) (k : Int) : hasB (addC l x) k = (hasB l k || decide (x.ty = k)) := by
  induction l with
  | nil => simp [addC, hasB]
  | cons c l ih =>
    have ih := ih (fun d hd => h d (by simp [hd]))
    have h1 := h c (by simp)
    rw [addC]
    split
    · simp only [hasB, List.any_cons] at ih ⊢; rw [ih, Bool.or_assoc]
    · split
      · rename_i hq
        rw [if_neg (by omega)]
        have e : c.ty = x.ty := hq.1
        simp only [hasB, List.any_cons, addN, e]
        cases decide (x.ty = k) <;> simp
      · simp only [hasB, List.any_cons]
        rw [Bool.or_comm]
theorem addAll_has {l xs : List Cnt} (h : ∀ c ∈ l, 1 ≤ c.nu) (hx : ∀ c ∈ xs, 1 ≤ c.nu) (k : Int) : hasB (addAll l xs) k = (hasB l k || xs.any fun c => decide (c.ty = k)) := by
  induction xs generalizing l with
  | nil => simp [addAll]
  | cons x xs ih =>
    show hasB (addAll (addC l x) xs) k = _
    rw [ih (addC_pos h (hx x (by simp))) (fun c hc => hx c (by simp [hc])), addC_has h (hx x (by simp)), List.any_cons, Bool.or_assoc]
theorem sumP_ones {A : Type} (f : A → Cnt) (hf : ∀ a, (f a).nu = 1) (p : Cnt → Bool) (l : List A) : sumP p (l.map f) = ((l.filter fun a => p (f a)).length : Int) := by
  induction l with
  | nil => rfl
  | cons a l ih =>
    rw [List.map_cons, sumP, ih, List.filter_cons, hf]
    split <;> simp <;> omega
theorem tot_ofN (g : Gr) (l : List Int) : tot (ofN g l) = l.length := by
  rw [ofN, tot, addAll_sum tot_kp, sumP_ones nodeC (fun _ => rfl), List.filter_eq_self.2 (fun _ _ => rfl)]; simp [sumP]
theorem tot_ofE (g : Gr) (l : List Ed) : tot (ofE g l) = l.length := by
  rw [ofE, tot, addAll_sum tot_kp, sumP_ones (edgeC g) (fun _ => rfl), List.filter_eq_self.2 (fun _ _ => rfl)]; simp [sumP]
theorem ofN_pos (g : Gr) (l : List Int) : ∀ c ∈ ofN g l, 1 ≤ c.nu := addAll_pos (by simp) (by simp [nodeC])
theorem ofE_pos (g : Gr) (l : List Ed) : ∀ c ∈ ofE g l, 1 ≤ c.nu := addAll_pos (by simp) (by simp [edgeC])
theorem ofN_srt (g : Gr) (l : List Int) : Srt (ofN g l) := addAll_srt .nil _
theorem ofE_srt (g : Gr) (l : List Ed) : Srt (ofE g l) := addAll_srt .nil _
theorem ofN_has (g : Gr) (l : List Int) (k : Int) : hasB (ofN g l) k = l.any fun n => decide (n = k) := by
  rw [ofN, addAll_has (by simp) (by simp [nodeC]), List.any_map]
  rfl
theorem ofN_key {q : Cnt → Prop} (hq : QP q) (g : Gr) {l : List Int} (h : ∀ n ∈ l, q (nodeC n)) : ∀ c ∈ ofN g l, q c :=
  addAll_key hq (by simp) (fun c hc => by obtain ⟨n, hn, rfl⟩ := List.mem_map.1 hc; exact h n hn)
theorem ofE_key {q : Cnt → Prop} (hq : QP q) (g : Gr) {l : List Ed} (h : ∀ n ∈ l, q (edgeC g n)) : ∀ c ∈ ofE g l, q c :=
  addAll_key hq (by simp) (fun c hc => by obtain ⟨n, hn, rfl⟩ := List.mem_map.1 hc; exact h n hn)
/-- The statistic of a typed graph is valid. -/
theorem ofS_valid {t : Tys} {g : Gr} (h : TV t g) : SV t (ofS g) := by
  have k1 := ofN_key (q := fun c => (0 ≤ c.ty ∧ c.ty < t.nodes.length) ∧ c.fr = 0 ∧ c.to = 0) (fun a b ⟨h1, h2, h3⟩ => by intro hh; simp only [h1, h2, h3] at hh ⊢; exact hh) g (l := g.nodes) (fun n hn => ⟨h.nodes n hn, rfl, rfl⟩)
  have k2 := ofE_key (q := fun c => ((0 ≤ c.ty ∧ c.ty < t.edges.length) ∧ (0 ≤ c.fr ∧ c.fr < t.nodes.length) ∧ (0 ≤ c.to ∧ c.to < t.nodes.length)) ∧ fitsR t c.ty c.fr c.to = true ∧ hasB (ofN g g.nodes) c.fr = true ∧ hasB (ofN g g.nodes) c.to = true)
    (fun a b ⟨h1, h2, h3⟩ => by intro hh; simp only [h1, h2, h3] at hh ⊢; exact hh) g (l := g.edges) (fun e he => by
      have g1 := h.graph.edges e he
      have m1 := nodeAt_mem (g := g) g1.2.1.1 g1.2.1.2
      have m2 := nodeAt_mem (g := g) g1.2.2.1 g1.2.2.2
      have e1 := h.edges e he
      refine ⟨⟨e1.1, h.nodes _ m1, h.nodes _ m2⟩, e1.2, ?_, ?_⟩
      · rw [ofN_has]; exact List.any_eq_true.2 ⟨_, m1, decide_eq_true rfl⟩
      · rw [ofN_has]; exact List.any_eq_true.2 ⟨_, m2, decide_eq_true rfl⟩)
  have t1 := tot_ofN g g.nodes
  have t2 := tot_ofE g g.edges
  have g1 := h.graph.nl
  have g2 := h.graph.el
  refine ⟨h.types, ⟨fun c hc => ?_, ofN_srt g _⟩, by rw [show (ofS g).nodes = ofN g g.nodes from rfl]; omega, ⟨fun c hc => ?_, fun c hc => (k2 c hc).2.1, fun c hc => (k2 c hc).2.2, ofE_srt g _⟩, by rw [show (ofS g).edges = ofE g g.edges from rfl]; omega⟩
  · have := k1 c hc
    have := ofN_pos g g.nodes c hc
    have := nu_tot (ofN_pos g g.nodes) c hc
    unfold nodeOk; omega
  · have := (k2 c hc).1
    have := ofE_pos g g.edges c hc
    have := nu_tot (ofE_pos g g.edges) c hc
    unfold edgeOk; omega

/-! A node or an edge more or less. -/
theorem numK_addC {l : List Cnt} {x : Cnt} (h : Srt l) (k : Cnt) : numK (addC l x) k = numK l k + if keq x k then x.nu else 0 := by
  rw [numK_sum (addC_srt h), numK_sum h, sumP_addC (kq_kp k)]
  simp only [kq, decide_eq_true_eq]
theorem numK_mem {l : List Cnt} {k : Cnt} (h : numK l k ≠ 0) : ∃ d ∈ l, keq d k ∧ numK l k = d.nu := by
  unfold numK at *
  cases hf : l.find? (fun c => decide (keq c k)) with
  | some c =>
    have h2 := List.find?_some hf
    exact ⟨c, List.mem_of_find?_eq_some hf, of_decide_eq_true h2, rfl⟩
  | none => rw [hf] at h; exact absurd rfl h
theorem addC_less {l : List Cnt} {x c : Cnt} (hs : Srt l) (h : ∃ d ∈ l, keq d x) (hc : c ∈ addC l x) : c ∈ l ∨ ∃ d ∈ l, keq d x ∧ c = addN d x ∧ c.nu ≠ 0 := by
  induction l with
  | nil => obtain ⟨d, hd, _⟩ := h; cases hd
  | cons d l ih =>
    obtain ⟨h1, h2⟩ := List.pairwise_cons.1 hs
    rw [addC] at hc
    split at hc
    · rename_i hk
      have h' : ∃ d ∈ l, keq d x := by
        obtain ⟨e, he, hq⟩ := h
        rcases List.mem_cons.1 he with rfl | he
        · exact absurd hq (klt_irr hk)
        · exact ⟨e, he, hq⟩
      rcases List.mem_cons.1 hc with rfl | hc
      · exact .inl (by simp)
      · rcases ih h2 h' hc with hc | ⟨e, he, k⟩
        · exact .inl (by simp [hc])
        · exact .inr ⟨e, by simp [he], k⟩
    · rename_i hk
      split at hc
      · rename_i hq
        split at hc
        · exact .inl (by simp [hc])
        · rename_i hz
          rcases List.mem_cons.1 hc with rfl | hc
          · exact .inr ⟨d, by simp, hq, rfl, hz⟩
          · exact .inl (by simp [hc])
      · rename_i hq
        exfalso
        have hd : klt x d := by rcases klt_tri d x with a | a | a; exact absurd a hk; exact absurd a hq; exact a
        obtain ⟨e, he, hq2⟩ := h
        rcases List.mem_cons.1 he with rfl | he
        · exact hq hq2
        · exact klt_irr (klt_trans hd (h1 e he)) (keq_symm hq2)
theorem addC_pos' {l : List Cnt} {x : Cnt} (hs : Srt l) (h : ∀ c ∈ l, 1 ≤ c.nu) (hx : x.nu = 1 ∨ x.nu = -1 ∧ numK l x ≠ 0) : ∀ c ∈ addC l x, 1 ≤ c.nu := fun c hc => by
  rcases hx with hx | ⟨hx, hn⟩
  · exact addC_pos h (by omega) c hc
  · obtain ⟨d, hd, hk, _⟩ := numK_mem hn
    rcases addC_less hs ⟨d, hd, hk⟩ hc with hc | ⟨e, he, _, rfl, hz⟩
    · exact h c hc
    · have := h e he; simp only [addN] at *; omega
theorem tot_addC (l : List Cnt) (x : Cnt) : tot (addC l x) = tot l + x.nu := by rw [tot, sumP_addC tot_kp]; simp
theorem SN.pos {n : Nat} {l : List Cnt} (h : SN n l) : ∀ c ∈ l, 1 ≤ c.nu := fun c hc => (h.ok c hc).2.2.2.1
theorem SE'.pos {t : Tys} {s : Sta} (h : SE' t s) : ∀ c ∈ s.edges, 1 ≤ c.nu := fun c hc => (h.ok c hc).2.2.2.1
theorem keq_z (a b c z y : Int) : keq ⟨a, b, c, z⟩ ⟨a, b, c, y⟩ := ⟨rfl, rfl, rfl⟩
theorem numK_z (l : List Cnt) (a b c z y : Int) : numK l ⟨a, b, c, z⟩ = numK l ⟨a, b, c, y⟩ := by unfold numK keq; rfl
structure NodeOK (t : Tys) (s : Sta) (k z : Int) : Prop where
  sv : SV t s
  rng : 0 ≤ k ∧ k < t.nodes.length
  sg : z = 1 ∨ z = -1
  full : ¬ (z = 1 ∧ tot s.nodes = 40)
  some : ¬ (z = -1 ∧ numK s.nodes ⟨k, 0, 0, z⟩ = 0)
  dang : ¬ (z = -1 ∧ numK s.nodes ⟨k, 0, 0, z⟩ = 1 ∧ touchB s.edges k = true)
theorem nodeE_zero' {t : Tys} {s : Sta} {k z : Int} : nodeE' t s k z = 0 ↔ NodeOK t s k z := by
  unfold nodeE'
  constructor
  · intro h
    split at h
    · rename_i h1; exact absurd h h1
    · rename_i h1
      split at h
      · cases h
      · rename_i h2
        split at h
        · cases h
        · rename_i h3
          split at h
          · cases h
          · rename_i h4
            split at h
            · cases h
            · rename_i h5
              exact ⟨sValid_zero.1 (Decidable.not_not.1 h1), by omega, by omega, h3, h4, h5⟩
  · intro h
    rw [if_neg (Decidable.not_not.2 (sValid_zero.2 h.sv)), if_neg (by have := h.rng; have := h.sg; omega), if_neg h.full, if_neg h.some, if_neg h.dang]
theorem node_next {t : Tys} {s : Sta} {k z : Int} (h : NodeOK t s k z) : SV t ⟨addC s.nodes ⟨k, 0, 0, z⟩, s.edges⟩ := by
  have hn := h.sv.nodes
  have hs : ∀ c ∈ addC s.nodes ⟨k, 0, 0, z⟩, 1 ≤ c.nu := addC_pos' hn.srt hn.pos (by have := h.sg; have := h.some; simp only; omega)
  have ht := tot_addC s.nodes ⟨k, 0, 0, z⟩
  simp only at ht
  have htot : tot (addC s.nodes ⟨k, 0, 0, z⟩) ≤ 40 := by have := h.sg; have := h.full; have := h.sv.ntot; omega
  have hk := addC_key (q := fun c => (0 ≤ c.ty ∧ c.ty < t.nodes.length) ∧ c.fr = 0 ∧ c.to = 0) (fun a b ⟨h1, h2, h3⟩ => by intro hh; simp only [h1, h2, h3] at hh ⊢; exact hh) (l := s.nodes) (x := ⟨k, 0, 0, z⟩) (fun c hc => by have := hn.ok c hc; unfold nodeOk at this; omega) ⟨h.rng, rfl, rfl⟩
  have hok : ∀ c ∈ addC s.nodes ⟨k, 0, 0, z⟩, nodeOk t.nodes.length c := fun c hc => by
    have := hk c hc
    have := hs c hc
    have := nu_tot hs c hc
    unfold nodeOk; omega
  have hhas : ∀ j, hasB s.nodes j = true → (touchB s.edges k = true ∨ j ≠ k ∨ True) → (j ≠ k ∨ touchB s.edges k = true) → hasB (addC s.nodes ⟨k, 0, 0, z⟩) j = true := fun j hj _ hjk => by
    rw [has_num hn.ok j z] at hj
    rw [has_num hok j z, numK_addC hn.srt]
    simp only [Bool.not_eq_true', decide_eq_false_iff_not] at hj ⊢
    have := h.sg
    have h4 := h.some
    have h5 := h.dang
    by_cases e : j = k
    · subst e
      rw [if_pos (keq_refl _)]
      obtain ⟨d, hd, _, hdn⟩ := numK_mem hj
      have := hn.pos d hd
      have hto : touchB s.edges j = true := by rcases hjk with h | h; exact absurd rfl h; exact h
      intro h0
      rcases h.sg with rfl | rfl
      · omega
      · exact h5 ⟨rfl, by omega, hto⟩
    · rw [if_neg (fun x => e x.1.symm)]; omega
  have htouch : ∀ c ∈ s.edges, (c.fr = k ∨ c.to = k) → touchB s.edges k = true := fun c hc hx => List.any_eq_true.2 ⟨c, hc, decide_eq_true hx⟩
  refine ⟨h.sv.types, ⟨hok, addC_srt hn.srt⟩, htot, ⟨h.sv.edges.ok, h.sv.edges.fits, fun c hc => ?_, h.sv.edges.srt⟩, h.sv.etot⟩
  have hh := h.sv.edges.has c hc
  refine ⟨hhas _ hh.1 (.inr (.inr trivial)) ?_, hhas _ hh.2 (.inr (.inr trivial)) ?_⟩
  · by_cases e : c.fr = k
    · exact .inr (htouch c hc (.inl e))
    · exact .inl e
  · by_cases e : c.to = k
    · exact .inr (htouch c hc (.inr e))
    · exact .inl e
theorem node_back {t : Tys} {s : Sta} {k z : Int} (h : NodeOK t s k z) : nodeR t ⟨addC s.nodes ⟨k, 0, 0, z⟩, s.edges⟩ k (-z) = (s, 0) := by
  have hn := h.sv.nodes
  have h1 := node_next h
  have ht := tot_addC s.nodes ⟨k, 0, 0, z⟩
  simp only at ht
  have hnum : numK (addC s.nodes ⟨k, 0, 0, z⟩) ⟨k, 0, 0, -z⟩ = numK s.nodes ⟨k, 0, 0, z⟩ + z := by
    rw [numK_addC hn.srt, if_pos (keq_z _ _ _ _ _), numK_z _ _ _ _ (-z) z]
  have hnn : 0 ≤ numK s.nodes ⟨k, 0, 0, z⟩ := by
    rw [numK_sum hn.srt]; exact sumP_nn (fun c hc => by have := hn.pos c hc; omega)
  have hok : NodeOK t ⟨addC s.nodes ⟨k, 0, 0, z⟩, s.edges⟩ k (-z) := by
    have hsg := h.sg
    refine ⟨h1, h.rng, by omega, ?_, ?_, ?_⟩
    · simp only
      have := h.sv.ntot
      omega
    · simp only [hnum]; omega
    · simp only [hnum]
      rintro ⟨a, b, c⟩
      have h0 : numK s.nodes ⟨k, 0, 0, z⟩ = 0 := by omega
      obtain ⟨e, he, hk⟩ := List.any_eq_true.1 c
      have hk := of_decide_eq_true hk
      have hh := h.sv.edges.has e he
      rw [has_num hn.ok _ z, has_num hn.ok _ z] at hh
      rcases hk with hk | hk
      · rw [hk, h0] at hh; exact absurd hh.1 (by decide)
      · rw [hk, h0] at hh; exact absurd hh.2 (by decide)
  unfold nodeR
  rw [if_neg (Decidable.not_not.2 (nodeE_zero'.2 hok)), addC_back hn.srt (fun c hc => by have := hn.pos c hc; omega) (by have := h.sg; simp only; omega) (keq_z _ _ _ _ _) (by simp only; omega)]
structure EdgeOK (t : Tys) (s : Sta) (e a b z : Int) : Prop where
  sv : SV t s
  rng : (0 ≤ e ∧ e < t.edges.length) ∧ (0 ≤ a ∧ a < t.nodes.length) ∧ (0 ≤ b ∧ b < t.nodes.length)
  sg : z = 1 ∨ z = -1
  fits : fitsR t e a b = true
  some : ¬ ((z = 1 ∧ (hasB s.nodes a = false ∨ hasB s.nodes b = false)) ∨ (z = -1 ∧ numK s.edges ⟨e, a, b, z⟩ = 0))
  full : ¬ (z = 1 ∧ tot s.edges = 80)
theorem edgeE_zero' {t : Tys} {s : Sta} {e a b z : Int} : edgeE' t s e a b z = 0 ↔ EdgeOK t s e a b z := by
  unfold edgeE'
  constructor
  · intro h
    split at h
    · rename_i h1; exact absurd h h1
    · rename_i h1
      split at h
      · cases h
      · rename_i h2
        split at h
        · cases h
        · rename_i h3
          split at h
          · cases h
          · rename_i h4
            split at h
            · cases h
            · rename_i h5
              exact ⟨sValid_zero.1 (Decidable.not_not.1 h1), by omega, by omega, by simpa using h3, h4, h5⟩
  · intro h
    rw [if_neg (Decidable.not_not.2 (sValid_zero.2 h.sv)), if_neg (by have := h.rng; have := h.sg; omega), if_neg (by rw [h.fits]; decide), if_neg h.some, if_neg h.full]
theorem edge_next {t : Tys} {s : Sta} {e a b z : Int} (h : EdgeOK t s e a b z) : SV t ⟨s.nodes, addC s.edges ⟨e, a, b, z⟩⟩ := by
  have hn := h.sv.edges
  have hs : ∀ c ∈ addC s.edges ⟨e, a, b, z⟩, 1 ≤ c.nu := addC_pos' hn.srt hn.pos (by
    have := h.sg
    have := h.some
    simp only
    rcases h.sg with hz | hz
    · exact .inl hz
    · exact .inr ⟨hz, fun x => h.some (.inr ⟨hz, x⟩)⟩)
  have ht := tot_addC s.edges ⟨e, a, b, z⟩
  simp only at ht
  have htot : tot (addC s.edges ⟨e, a, b, z⟩) ≤ 80 := by have := h.sg; have := h.full; have := h.sv.etot; omega
  have hab : hasB s.nodes a = true ∧ hasB s.nodes b = true := by
    rcases h.sg with hz | hz
    · have := h.some
      constructor
      · cases hx : hasB s.nodes a with
        | true => rfl
        | false => exact absurd (.inl ⟨hz, .inl hx⟩) this
      · cases hx : hasB s.nodes b with
        | true => rfl
        | false => exact absurd (.inl ⟨hz, .inr hx⟩) this
    · obtain ⟨d, hd, hk, _⟩ := numK_mem (fun x => h.some (.inr ⟨hz, x⟩))
      have := hn.has d hd
      rw [hk.2.1, hk.2.2] at this
      exact this
  have hk := addC_key (q := fun c => ((0 ≤ c.ty ∧ c.ty < t.edges.length) ∧ (0 ≤ c.fr ∧ c.fr < t.nodes.length) ∧ (0 ≤ c.to ∧ c.to < t.nodes.length)) ∧ fitsR t c.ty c.fr c.to = true ∧ hasB s.nodes c.fr = true ∧ hasB s.nodes c.to = true)
    (fun a b ⟨h1, h2, h3⟩ => by intro hh; simp only [h1, h2, h3] at hh ⊢; exact hh) (l := s.edges) (x := ⟨e, a, b, z⟩) (fun c hc => ⟨by have := hn.ok c hc; unfold edgeOk at this; omega, hn.fits c hc, hn.has c hc⟩) ⟨h.rng, h.fits, hab⟩
  refine ⟨h.sv.types, h.sv.nodes, h.sv.ntot, ⟨fun c hc => ?_, fun c hc => (hk c hc).2.1, fun c hc => (hk c hc).2.2, addC_srt hn.srt⟩, htot⟩
  have := (hk c hc).1
  have := hs c hc
  have := nu_tot hs c hc
  unfold edgeOk; omega
theorem edge_back {t : Tys} {s : Sta} {e a b z : Int} (h : EdgeOK t s e a b z) : edgeR t ⟨s.nodes, addC s.edges ⟨e, a, b, z⟩⟩ e a b (-z) = (s, 0) := by
  have hn := h.sv.edges
  have h1 := edge_next h
  have ht := tot_addC s.edges ⟨e, a, b, z⟩
  simp only at ht
  have hnum : numK (addC s.edges ⟨e, a, b, z⟩) ⟨e, a, b, -z⟩ = numK s.edges ⟨e, a, b, z⟩ + z := by
    rw [numK_addC hn.srt, if_pos (keq_z _ _ _ _ _), numK_z _ _ _ _ (-z) z]
  have hnn : 0 ≤ numK s.edges ⟨e, a, b, z⟩ := by
    rw [numK_sum hn.srt]; exact sumP_nn (fun c hc => by have := hn.pos c hc; omega)
  have hab : z = -1 → hasB s.nodes a = true ∧ hasB s.nodes b = true := fun hz => by
    obtain ⟨d, hd, hk, _⟩ := numK_mem (fun x => h.some (.inr ⟨hz, x⟩))
    have := hn.has d hd
    rw [hk.2.1, hk.2.2] at this
    exact this
  have hok : EdgeOK t ⟨s.nodes, addC s.edges ⟨e, a, b, z⟩⟩ e a b (-z) := by
    have hsg := h.sg
    refine ⟨h1, h.rng, by omega, h.fits, ?_, ?_⟩
    · simp only [hnum]
      rintro (⟨hz, hx⟩ | ⟨hz, hx⟩)
      · have := hab (by omega)
        rw [this.1, this.2] at hx
        exact absurd hx (by decide)
      · omega
    · simp only
      have := h.sv.etot
      omega
  unfold edgeR
  rw [if_neg (Decidable.not_not.2 (edgeE_zero'.2 hok)), addC_back hn.srt (fun c hc => by have := hn.pos c hc; omega) (by have := h.sg; simp only; omega) (keq_z _ _ _ _ _) (by simp only; omega)]
end Go.Sj.Sta

/-
  Statistics of the graphs that numbers describe: sums over the types.
-/
namespace Go.Sj.Sta
open Go.Sj Go.Sj.Typ
set_option linter.unusedVariables false

def sumR : Nat → (Nat → Int) → Int
  | 0, _ => 0
  | n + 1, f => sumR n f + f n
theorem sumR_congr {n : Nat} {f g : Nat → Int} (h : ∀ i, i < n → f i = g i) : sumR n f = sumR n g := by
  induction n with
  | zero => rfl
  | succ n ih => rw [sumR, sumR, ih (fun i hi => h i (by omega)), h n (by omega)]
theorem sumR_add (n : Nat) (f g : Nat → Int) : sumR n (fun i => f i + g i) = sumR n f + sumR n g := by
  induction n with
  | zero => rfl
  | succ n ih => rw [sumR, sumR, sumR, ih]; omega
theorem sumR_zero {n : Nat} {f : Nat → Int} (h : ∀ i, i < n → f i = 0) : sumR n f = 0 := by
  induction n with
  | zero => rfl
  | succ n ih => rw [sumR, ih (fun i hi => h i (by omega)), h n (by omega)]; rfl
theorem sumR_one {n v : Nat} {f : Nat → Int} (hv : v < n) (h : ∀ i, i < n → i ≠ v → f i = 0) : sumR n f = f v := by
  induction n with
  | zero => omega
  | succ n ih =>
    rw [sumR]
    by_cases e : v = n
    · subst e
      rw [sumR_zero (fun i hi => h i (by omega) (by omega))]; omega
    · rw [ih (by omega) (fun i hi hn => h i (by omega) hn), h n (by omega) (by omega)]; omega
section
variable {ns : List Nod} (hp : PR ns ns.length)
def parAt (ns : List Nod) (k : Nat) : Int := (ns[k]?.map (·.par)).getD (-1)
def uI (ns : List Nod) (v i : Int) : Int := if i ∈ up ns v then 1 else 0
theorem parAt_get {ns : List Nod} {k : Nat} {n : Nod} (h : ns[k]? = some n) : parAt ns k = n.par := by simp [parAt, h]
include hp
theorem parAt_lt {k : Nat} (hk : k < ns.length) : -1 ≤ parAt ns k ∧ parAt ns k < k := by
  have hx := List.getElem?_eq_getElem hk
  rw [parAt_get hx]
  exact hp k _ hk hx
theorem uI_step {v : Nat} (hv : v < ns.length) (k : Int) : uI ns v k = (if k = v then 1 else 0) + uI ns (parAt ns v) k := by
  have hx := List.getElem?_eq_getElem hv
  have hpar := parAt_lt hp hv
  unfold uI
  rw [up_step hp (a := (v : Int)) (by omega) (by omega) (by rw [Int.toNat_natCast]; exact hx), ← parAt_get hx]
  by_cases e : k = v
  · subst e
    rw [if_pos (by simp), if_pos rfl, if_neg]
    · rfl
    · intro hm
      have := (up_mem hp (Nat.le_refl _) (parAt ns v + 1).toNat (parAt ns v) (by omega) (by omega) _ hm).2
      omega
  · simp only [List.mem_cons, e, false_or, if_false]
    omega
theorem uI_neg {v k : Int} (hv : v < 0) : uI ns v k = 0 := by unfold uI; rw [up_neg hv]; simp
theorem uI_kids : ∀ (m : Nat) (v i : Int), v < m → -1 ≤ v → v < ns.length → 0 ≤ i → i < ns.length → sumR ns.length (fun k => if parAt ns k = i then uI ns v k else 0) = uI ns v i - (if v = i then 1 else 0)
  | 0, v, i, h1, h2, h3, h4, h5 => by
    rw [sumR_zero (fun k hk => by rw [uI_neg hp (by omega)]; simp), uI_neg hp (by omega), if_neg (by omega)]; rfl
  | m + 1, v, i, h1, h2, h3, h4, h5 => by
    by_cases h0 : v < 0
    · rw [sumR_zero (fun k hk => by rw [uI_neg hp (by omega)]; simp), uI_neg hp (by omega), if_neg (by omega)]; rfl
    · obtain ⟨w, rfl⟩ : ∃ w : Nat, v = w := ⟨v.toNat, by omega⟩
      have hpar := parAt_lt hp (k := w) (by omega)
      have ih := uI_kids m (parAt ns w) i (by omega) (by omega) (by omega) h4 h5
      rw [sumR_congr (g := fun k => (if k = w then (if parAt ns w = i then 1 else 0) else 0) + if parAt ns k = i then uI ns (parAt ns w) k else 0) (fun k hk => ?_), sumR_add, ih, sumR_one (v := w) (by omega) (fun k _ hk => by rw [if_neg hk]), if_pos rfl, uI_step hp (v := w) (by omega) i]
      · by_cases e : i = w
        · subst e; simp; omega
        · have : ¬ (w : Int) = i := fun h => e h.symm
          simp only [e, this, if_false]; split <;> omega
      · rw [uI_step hp (v := w) (by omega) k]
        by_cases e : k = w
        · subst e; simp; split <;> simp
        · have : ¬ (k : Int) = w := by omega
          simp only [e, this, if_false]; split <;> omega
theorem uI_roots : ∀ (m : Nat) (v : Int), v < m → 0 ≤ v → v < ns.length → sumR ns.length (fun k => if parAt ns k < 0 then uI ns v k else 0) = 1
  | 0, v, h1, h2, h3 => by omega
  | m + 1, v, h1, h2, h3 => by
    obtain ⟨w, rfl⟩ : ∃ w : Nat, v = w := ⟨v.toNat, by omega⟩
    have hpar := parAt_lt hp (k := w) (by omega)
    rw [sumR_congr (g := fun k => (if k = w then (if parAt ns w < 0 then 1 else 0) else 0) + if parAt ns k < 0 then uI ns (parAt ns w) k else 0) (fun k hk => ?_), sumR_add, sumR_one (v := w) (by omega) (fun k _ hk => by rw [if_neg hk]), if_pos rfl]
    · by_cases h0 : parAt ns w < 0
      · rw [if_pos h0, sumR_zero (fun k hk => by rw [uI_neg hp h0]; simp)]; rfl
      · rw [if_neg h0, uI_roots m (parAt ns w) (by omega) (by omega) (by omega)]; rfl
    · rw [uI_step hp (v := w) (by omega) k]
      by_cases e : k = w
      · subst e; simp; split <;> simp
      · have : ¬ (k : Int) = w := by omega
        simp only [e, this, if_false]; split <;> omega
/-- How many of a list have the type i among their supertypes. -/
def cU (ns : List Nod) (l : List Int) (i : Int) : Int := ((l.filter fun v => decide (i ∈ up ns v)).length : Int)
def cE (l : List Int) (i : Int) : Int := ((l.filter fun v => decide (v = i)).length : Int)
omit hp in
theorem cU_cons (v : Int) (l : List Int) (i : Int) : cU ns (v :: l) i = uI ns v i + cU ns l i := by
  unfold cU uI
  rw [List.filter_cons]
  by_cases h : i ∈ up ns v
  · simp only [h, decide_true, if_true, List.length_cons]; omega
  · simp only [h, decide_false, if_false, Bool.false_eq_true]; omega
omit hp in
theorem cE_cons (v : Int) (l : List Int) (i : Int) : cE (v :: l) i = (if v = i then 1 else 0) + cE l i := by
  unfold cE
  rw [List.filter_cons]
  by_cases h : v = i
  · simp only [h, decide_true, if_true, List.length_cons]; omega
  · simp only [h, decide_false, if_false, Bool.false_eq_true]; omega
theorem cU_kids {l : List Int} (hl : ∀ v ∈ l, 0 ≤ v ∧ v < ns.length) {i : Int} (h0 : 0 ≤ i) (h1 : i < ns.length) : cU ns l i = cE l i + sumR ns.length (fun k => if parAt ns k = i then cU ns l k else 0) := by
  induction l with
  | nil => rw [sumR_zero (fun k _ => by simp [cU])]; rfl
  | cons v l ih =>
    have hv := hl v (by simp)
    have ih := ih (fun w hw => hl w (by simp [hw]))
    have hk := uI_kids hp (v + 1).toNat v i (by omega) (by omega) hv.2 h0 h1
    rw [sumR_congr (g := fun k => (if parAt ns k = i then uI ns v k else 0) + if parAt ns k = i then cU ns l k else 0) (fun k _ => by rw [cU_cons]; split <;> omega), sumR_add, hk, cU_cons, cE_cons]
    omega
theorem cU_roots {l : List Int} (hl : ∀ v ∈ l, 0 ≤ v ∧ v < ns.length) : sumR ns.length (fun k => if parAt ns k < 0 then cU ns l k else 0) = l.length := by
  induction l with
  | nil => rw [sumR_zero (fun k _ => by simp [cU])]; rfl
  | cons v l ih =>
    have hv := hl v (by simp)
    have ih := ih (fun w hw => hl w (by simp [hw]))
    have hk := uI_roots hp (v + 1).toNat v (by omega) hv.1 hv.2
    rw [sumR_congr (g := fun k => (if parAt ns k < 0 then uI ns v k else 0) + if parAt ns k < 0 then cU ns l k else 0) (fun k _ => by rw [cU_cons]; split <;> omega), sumR_add, hk, ih]
    simp; omega
end
theorem isR_kp (t : Tys) (k : Int) : KP (fun c => isR t c.ty k) := fun a b h => by simp only [h.1]
/-- The nodes of a type, in a graph's statistic. -/
theorem nodes_ofS {t : Tys} {g : Gr} (h : TV t g) {k : Int} (hk : 0 ≤ k ∧ k < t.nodes.length) : nodesR t (ofS g) k = (cU t.nodes g.nodes k, 0) := by
  unfold nodesR
  rw [if_neg (Decidable.not_not.2 (sValid_zero.2 (ofS_valid h))), if_neg (Decidable.not_not.2 hk)]
  congr 1
  show sumP _ (ofN g g.nodes) = _
  rw [ofN, addAll_sum (isR_kp t k), sumP_ones nodeC (fun _ => rfl)]
  simp only [sumP, Int.zero_add, cU]
  congr 2
  refine List.filter_congr fun v hv => ?_
  have hv' := h.nodes v hv
  show isR t v k = _
  unfold isR
  rw [decide_eq_true, Bool.true_and]
  unfold givenR
  rw [if_neg (Decidable.not_not.2 h.types), if_neg]
  simp only [List.any_cons, List.any_nil, Bool.or_false, outB, Bool.or_eq_true, decide_eq_true_eq]
  omega
theorem isR_in {t : Tys} (h : (validR t).2 = 0) {a b : Int} (ha : 0 ≤ a ∧ a < t.nodes.length) (hb : 0 ≤ b ∧ b < t.nodes.length) : isR t a b = decide (b ∈ up t.nodes a) := by
  unfold isR
  rw [decide_eq_true, Bool.true_and]
  unfold givenR
  rw [if_neg (Decidable.not_not.2 h), if_neg]
  simp only [List.any_cons, List.any_nil, Bool.or_false, outB, Bool.or_eq_true, decide_eq_true_eq]
  omega
theorem pr_valid {t : Tys} (h : (validR t).2 = 0) : PR t.nodes t.nodes.length := pr_of (validR_zero.1 h).2.2.2.1
/-- Subtypes have no more edges. -/
theorem edges_le {t : Tys} {s : Sta} (h : SV t s) {i : Nat} {n : Nod} (hi : t.nodes[i]? = some n) (hp : 0 ≤ n.par) {e y : Int} (he : 0 ≤ e ∧ e < t.edges.length) (hy : 0 ≤ y ∧ y < t.nodes.length) :
    ∃ a b, edgesR t s e i y = (a, 0) ∧ edgesR t s e n.par y = (b, 0) ∧ a ≤ b := by
  have hil := (List.getElem?_eq_some_iff.1 hi).1
  have hpr := pr_valid h.types
  have hpar := hpr i n hil hi
  refine ⟨_, _, by unfold edgesR; rw [if_neg (Decidable.not_not.2 (sValid_zero.2 h)), if_neg (Decidable.not_not.2 ⟨he, by omega, hy⟩)], by unfold edgesR; rw [if_neg (Decidable.not_not.2 (sValid_zero.2 h)), if_neg (Decidable.not_not.2 ⟨he, by omega, hy⟩)], sumP_le (fun c hc => by have := h.edges.pos c hc; omega) (fun c hc hx => ?_)⟩
  have hc := h.edges.ok c hc
  simp only [Bool.and_eq_true] at hx ⊢
  refine ⟨⟨hx.1.1, ?_⟩, hx.2⟩
  have h1 := hx.1.2
  rw [isR_in h.types hc.2.1 (by omega)] at h1 ⊢
  have h2 := of_decide_eq_true h1
  refine decide_eq_true (up_trans hpr (by have := hc.2.1; omega) h2 ?_)
  rw [up_step hpr (a := (i : Int)) (n := n) (by omega) (by omega) (by rw [Int.toNat_natCast]; exact hi)]
  exact List.mem_cons_of_mem _ (up_self hpr (Nat.le_refl _) hp (by omega))

/-! Graphs that numbers describe. -/
def inE (n m : Nat) (c : Int × Int × Int) : Ed := ⟨c.1 % (m : Int), c.2.1 % (n : Int), c.2.2 % (n : Int)⟩
def madeGN (t : Tys) (l : List Int) : List Int := (l.take 8).map fun x => x % (t.nodes.length : Int)
def edFits (t : Tys) (ns : List Int) (e : Ed) : Bool := fitsR t e.ty (ns.getD e.fr.toNat 0) (ns.getD e.to.toNat 0)
def madeGE (t : Tys) (ns : List Int) (l : List (Int × Int × Int)) : List Ed := (l.map (inE ns.length t.edges.length)).filter (edFits t ns)
def madeGM (t : Tys) (ns : List Int) (l : List (Int × Int × Int)) : List (Int × Int × Int) := if ns.length = 0 ∨ t.edges.length = 0 then [] else l.take 12
def madeG (t : Tys) (l : List Int) (es : List (Int × Int × Int)) : Gr := ⟨madeGN t l, madeGE t (madeGN t l) (madeGM t (madeGN t l) es)⟩
theorem madeG_tv {t : Tys} (h : (validR t).2 = 0) (l : List Int) (es : List (Int × Int × Int)) : TV t (madeG t l es) := by
  have hv := validR_zero.1 h
  have hn : ∀ x ∈ (madeG t l es).nodes, 0 ≤ x ∧ x < t.nodes.length := fun x hx => by
    obtain ⟨y, _, rfl⟩ := List.mem_map.1 hx
    exact ⟨Int.emod_nonneg _ (by omega), Int.emod_lt_of_pos _ (by omega)⟩
  have hlen : (madeG t l es).nodes.length ≤ 8 := by simp [madeG, madeGN]; omega
  have he : ∀ e ∈ (madeG t l es).edges, (0 ≤ e.ty ∧ e.ty < t.edges.length) ∧ (0 ≤ e.fr ∧ e.fr < (madeG t l es).nodes.length) ∧ (0 ≤ e.to ∧ e.to < (madeG t l es).nodes.length) ∧ edFits t (madeG t l es).nodes e = true := fun e he => by
    obtain ⟨h1, h2⟩ := List.mem_filter.1 he
    obtain ⟨c, hc, rfl⟩ := List.mem_map.1 h1
    unfold madeGM at hc
    split at hc
    · cases hc
    · rename_i hx
      have hx1 : (0 : Int) < ((madeGN t l).length : Int) := by omega
      have hx2 : (0 : Int) < (t.edges.length : Int) := by omega
      exact ⟨⟨Int.emod_nonneg _ (by omega), Int.emod_lt_of_pos _ hx2⟩, ⟨Int.emod_nonneg _ (by omega), Int.emod_lt_of_pos _ hx1⟩, ⟨Int.emod_nonneg _ (by omega), Int.emod_lt_of_pos _ hx1⟩, h2⟩
  have hel : (madeG t l es).edges.length ≤ 12 := by
    refine Nat.le_trans (List.length_filter_le _ _) ?_
    rw [List.length_map]
    unfold madeGM
    split <;> simp
    omega
  refine ⟨h, ⟨by omega, by omega, fun x hx => ?_, fun e hx => ?_⟩, hn, fun e hx => ⟨(he e hx).1, (he e hx).2.2.2⟩⟩
  · have := hn x hx; omega
  · have := he e hx; omega
end Go.Sj.Sta

/-
  Statistics: other orders of a graph, further elements: plain mathematics.
-/
namespace Go.Sj.Sta
open Go.Sj Go.Sj.Typ
set_option linter.unusedVariables false

/-! Orders. -/
abbrev rngI (n : Nat) : List Int := (List.range n).map fun (i : Nat) => (i : Int)
theorem swap_perm {l : List Int} {i k : Nat} {a b : Int} (ha : l[i]? = some a) (hb : l[k]? = some b) : ((l.set i b).set k a).Perm l := by
  obtain ⟨hi, rfl⟩ := List.getElem?_eq_some_iff.1 ha
  obtain ⟨hk, rfl⟩ := List.getElem?_eq_some_iff.1 hb
  by_cases e : i = k
  · subst e
    rw [List.set_set, List.set_getElem_self]
  · refine List.perm_iff_count.2 fun c => ?_
    have h1 : ((l.set i l[k]).set k l[i]).count c + (if (l.set i l[k])[k]'(by simpa using hk) == c then 1 else 0) = (l.set i l[k]).count c + if l[i] == c then 1 else 0 := by
      rw [List.count_set (by simpa using hk)]
      have : (if (l.set i l[k])[k]'(by simpa using hk) == c then 1 else 0) ≤ (l.set i l[k]).count c := by
        split
        · rename_i h
          exact List.count_pos_iff.2 (by rw [← beq_iff_eq.1 h]; exact List.getElem_mem _)
        · omega
      omega
    have h2 : (l.set i l[k]).count c + (if l[i] == c then 1 else 0) = l.count c + if l[k] == c then 1 else 0 := by
      rw [List.count_set hi]
      have : (if l[i] == c then 1 else 0) ≤ l.count c := by
        split
        · rename_i h
          exact List.count_pos_iff.2 (by rw [← beq_iff_eq.1 h]; exact List.getElem_mem _)
        · omega
      omega
    rw [List.getElem_set_ne e] at h1
    omega
structure Prm (p : List Int) (n : Nat) : Prop where
  perm : p.Perm (rngI n)
theorem Prm.len {p : List Int} {n : Nat} (h : Prm p n) : p.length = n := by rw [h.perm.length_eq]; simp
theorem Prm.rng {p : List Int} {n : Nat} (h : Prm p n) : ∀ x ∈ p, 0 ≤ x ∧ x < n := fun x hx => by
  obtain ⟨i, hi, rfl⟩ := List.mem_map.1 (h.perm.mem_iff.1 hx)
  have := List.mem_range.1 hi
  omega
theorem rngI_nodup (n : Nat) : (rngI n).Nodup := by
  rw [List.nodup_iff_pairwise_ne, List.pairwise_map]
  exact (List.nodup_iff_pairwise_ne.1 List.nodup_range).imp fun h x => h (by omega)
theorem Prm.nodup {p : List Int} {n : Nat} (h : Prm p n) : p.Nodup := h.perm.nodup_iff.2 (rngI_nodup n)
theorem Prm.get {p : List Int} {n i : Nat} (h : Prm p n) (hi : i < n) : ∃ x : Nat, p[i]? = some (x : Int) ∧ x < n := by
  have hl := h.len
  have hx := List.getElem?_eq_getElem (l := p) (i := i) (by omega)
  have := h.rng _ (List.getElem_mem (l := p) (n := i) (by omega))
  exact ⟨p[i].toNat, by rw [hx]; congr 1; omega, by omega⟩
theorem Prm.inj {p : List Int} {n i j : Nat} (h : Prm p n) {x : Int} (hi : p[i]? = some x) (hj : p[j]? = some x) : i = j := by
  obtain ⟨h1, e1⟩ := List.getElem?_eq_some_iff.1 hi
  obtain ⟨h2, e2⟩ := List.getElem?_eq_some_iff.1 hj
  have hn := List.pairwise_iff_getElem.1 (List.nodup_iff_pairwise_ne.1 h.nodup)
  rcases Nat.lt_trichotomy i j with hij | hij | hij
  · exact absurd (e1.trans e2.symm) (hn i j h1 h2 hij)
  · exact hij
  · exact absurd (e2.trans e1.symm) (hn j i h2 h1 hij)
def reK {A : Type} (p : List Int) (l z : List A) : Nat → List A
  | 0 => z
  | k + 1 => match l[k]?, p[k]? with
    | some a, some x => (reK p l z k).set x.toNat a
    | _, _ => reK p l z k
theorem reK_succ {A : Type} {p : List Int} {l z : List A} {k : Nat} {a : A} {x : Int} (ha : l[k]? = some a) (hx : p[k]? = some x) : reK p l z (k + 1) = (reK p l z k).set x.toNat a := by simp only [reK, ha, hx]
theorem reK_len {A : Type} (p : List Int) (l z : List A) : ∀ k, (reK p l z k).length = z.length
  | 0 => rfl
  | k + 1 => by
    rw [reK]
    split
    · rw [List.length_set]; exact reK_len p l z k
    · exact reK_len p l z k
theorem reK_get {A : Type} {p : List Int} {l z : List A} {n : Nat} (hp : Prm p n) (hl : l.length = n) (hz : z.length = n) : ∀ (k : Nat), k ≤ n → ∀ (j : Nat) (x : Int), j < k → p[j]? = some x → (reK p l z k)[x.toNat]? = l[j]?
  | 0, _, j, x, hj, _ => by omega
  | k + 1, hk, j, x, hj, hx => by
    obtain ⟨y, hy, hyn⟩ := hp.get (i := k) (by omega)
    have ha := List.getElem?_eq_getElem (l := l) (i := k) (by omega)
    rw [reK_succ ha hy]
    have hxr := hp.rng x (List.mem_of_getElem? hx)
    by_cases e : j = k
    · subst e
      rw [hy] at hx
      cases hx
      rw [List.getElem?_set_self (by rw [reK_len]; omega), ha]
    · rw [List.getElem?_set_ne (fun h => e (hp.inj hx (by rw [hy]; congr 1; omega)))]
      exact reK_get hp hl hz k (by omega) j x (by omega) hx
theorem reK_perm {A : Type} [Inhabited A] {p : List Int} {l z : List A} {n : Nat} (hp : Prm p n) (hl : l.length = n) (hz : z.length = n) : (reK p l z n).Perm l := by
  have hlen := reK_len p l z n
  have h1 : (rngI n).map (fun x => (reK p l z n).getD x.toNat default) = reK p l z n := by
    refine List.ext_getElem? fun i => ?_
    rcases Nat.lt_or_ge i n with hi | hi
    · rw [List.getElem?_map, List.getElem?_map, List.getElem?_range hi]
      simp only [Option.map_some, Int.toNat_natCast, List.getD_eq_getElem?_getD]
      rw [List.getElem?_eq_getElem (by omega)]
      rfl
    · rw [List.getElem?_eq_none (by simp; omega), List.getElem?_eq_none (by omega)]
  have h2 : p.map (fun x => (reK p l z n).getD x.toNat default) = l := by
    refine List.ext_getElem? fun i => ?_
    have hpl := hp.len
    rcases Nat.lt_or_ge i n with hi | hi
    · have hx := List.getElem?_eq_getElem (l := p) (i := i) (by omega)
      have := reK_get hp hl hz n (Nat.le_refl _) i _ hi hx
      rw [List.getElem?_map, hx, Option.map_some, List.getD_eq_getElem?_getD, this, List.getElem?_eq_getElem (by omega)]
      rfl
    · rw [List.getElem?_eq_none (by simp; omega), List.getElem?_eq_none (by omega)]
  have h3 := hp.perm.map (fun x => (reK p l z n).getD x.toNat default)
  rw [h1, h2] at h3
  exact h3.symm
instance : Inhabited Ed := ⟨⟨0, 0, 0⟩⟩
def mvE (p : List Int) (e : Ed) : Ed := ⟨e.ty, p.getD e.fr.toNat 0, p.getD e.to.toNat 0⟩
def zN (n : Nat) : List Int := List.replicate n 0
def zE (n : Nat) : List Ed := List.replicate n ⟨0, 0, 0⟩
def reG (g : Gr) (p q : List Int) : Gr := ⟨reK p g.nodes (zN g.nodes.length) g.nodes.length, reK q (g.edges.map (mvE p)) (zE g.edges.length) g.edges.length⟩
section
variable {t : Tys} {g : Gr} {p q : List Int} (h : TV t g) (hp : Prm p g.nodes.length) (hq : Prm q g.edges.length)
include h hp hq
theorem reG_nodes : (reG g p q).nodes.Perm g.nodes := reK_perm hp rfl (by simp [zN])
theorem reG_edges : (reG g p q).edges.Perm (g.edges.map (mvE p)) := reK_perm hq (by simp) (by simp [zE])
theorem reG_at {i : Int} (h0 : 0 ≤ i) (h1 : i < g.nodes.length) : (0 ≤ p.getD i.toNat 0 ∧ p.getD i.toNat 0 < (reG g p q).nodes.length) ∧ nodeAt (reG g p q) (p.getD i.toNat 0) = nodeAt g i := by
  have hl := hp.len
  have hx := List.getElem?_eq_getElem (l := p) (i := i.toNat) (by omega)
  have hr := hp.rng _ (List.getElem_mem (l := p) (n := i.toNat) (by omega))
  have e : p.getD i.toNat 0 = p[i.toNat]'(by omega) := by rw [List.getD_eq_getElem?_getD, hx]; rfl
  have := reK_get hp rfl (z := zN g.nodes.length) (by simp [zN]) _ (Nat.le_refl _) i.toNat _ (by omega) hx
  refine ⟨?_, ?_⟩
  · rw [e]
    rw [show (reG g p q).nodes.length = g.nodes.length from (reG_nodes h hp hq).length_eq]
    exact hr
  · rw [e]
    unfold nodeAt
    rw [List.getD_eq_getElem?_getD, List.getD_eq_getElem?_getD]
    show ((reK p g.nodes _ _)[_]?).getD 0 = _
    rw [this]
theorem reG_tv : TV t (reG g p q) := by
  have n1 := reG_nodes h hp hq
  have e1 := reG_edges h hp hq
  have hl := n1.length_eq
  have hel := e1.length_eq
  rw [List.length_map] at hel
  refine ⟨h.types, ⟨by rw [hl]; exact h.graph.nl, by rw [hel]; exact h.graph.el, fun x hx => h.graph.nodes x (n1.mem_iff.1 hx), fun e he => ?_⟩, fun x hx => h.nodes x (n1.mem_iff.1 hx), fun e he => ?_⟩
  · obtain ⟨d, hd, rfl⟩ := List.mem_map.1 (e1.mem_iff.1 he)
    have hg := h.graph.edges d hd
    exact ⟨hg.1, (reG_at h hp hq hg.2.1.1 hg.2.1.2).1, (reG_at h hp hq hg.2.2.1 hg.2.2.2).1⟩
  · obtain ⟨d, hd, rfl⟩ := List.mem_map.1 (e1.mem_iff.1 he)
    have hg := h.graph.edges d hd
    have ht := h.edges d hd
    refine ⟨ht.1, ?_⟩
    show fitsR t d.ty (nodeAt _ (p.getD d.fr.toNat 0)) (nodeAt _ (p.getD d.to.toNat 0)) = true
    rw [(reG_at h hp hq hg.2.1.1 hg.2.1.2).2, (reG_at h hp hq hg.2.2.1 hg.2.2.2).2]
    exact ht.2
/-- The order makes no difference to the statistic. -/
theorem reG_of : ofS (reG g p q) = ofS g := by
  have n1 := reG_nodes h hp hq
  have e1 := reG_edges h hp hq
  have hN : ofN (reG g p q) (reG g p q).nodes = ofN g g.nodes := addAll_perm (n1.map nodeC) (by simp [nodeC])
  have hE : ofE (reG g p q) (reG g p q).edges = ofE g g.edges := by
    have h1 : addAll [] ((reG g p q).edges.map (edgeC (reG g p q))) = addAll [] ((g.edges.map (mvE p)).map (edgeC (reG g p q))) := addAll_perm (e1.map (edgeC (reG g p q))) (by simp [edgeC])
    show addAll [] _ = addAll [] _
    rw [h1, List.map_map]
    congr 1
    refine List.map_congr_left fun d hd => ?_
    have hg := h.graph.edges d hd
    show (⟨d.ty, nodeAt _ (p.getD d.fr.toNat 0), nodeAt _ (p.getD d.to.toNat 0), 1⟩ : Cnt) = _
    rw [(reG_at h hp hq hg.2.1.1 hg.2.1.2).2, (reG_at h hp hq hg.2.2.1 hg.2.2.2).2]
    rfl
  show (⟨_, _⟩ : Sta) = ⟨_, _⟩
  rw [hN, hE]
end

/-! Further elements. -/
def addNd (g : Gr) (k : Int) : Gr := ⟨g.nodes ++ [k], g.edges⟩
def addEd (g : Gr) (e : Ed) : Gr := ⟨g.nodes, g.edges ++ [e]⟩
theorem addNd_at {g : Gr} {k i : Int} (h0 : 0 ≤ i) (h1 : i < g.nodes.length) : nodeAt (addNd g k) i = nodeAt g i := by
  unfold nodeAt addNd
  rw [List.getD_eq_getElem?_getD, List.getD_eq_getElem?_getD, List.getElem?_append_left (by omega)]
section
variable {t : Tys} {g : Gr} (h : TV t g)
include h
theorem addNd_tv {k : Int} (hk : 0 ≤ k ∧ k < t.nodes.length) (hl : g.nodes.length < 40) : TV t (addNd g k) := by
  have ht := (validR_zero.1 h.types).2.1
  have hlen : (addNd g k).nodes.length = g.nodes.length + 1 := by simp [addNd]
  have hm : ∀ x ∈ (addNd g k).nodes, 0 ≤ x ∧ x < t.nodes.length := fun x hx => by
    rcases List.mem_append.1 hx with hx | hx
    · exact h.nodes x hx
    · simp only [List.mem_singleton] at hx; subst hx; exact hk
  refine ⟨h.types, ⟨by omega, h.graph.el, fun x hx => by have := hm x hx; omega, fun e he => ?_⟩, hm, fun e he => ?_⟩
  · have := h.graph.edges e he; omega
  · have hg := h.graph.edges e he
    rw [addNd_at hg.2.1.1 hg.2.1.2, addNd_at hg.2.2.1 hg.2.2.2]
    exact h.edges e he
theorem addNd_of (k : Int) : ofS (addNd g k) = ⟨addC (ofS g).nodes ⟨k, 0, 0, 1⟩, (ofS g).edges⟩ := by
  have hN : ofN (addNd g k) (g.nodes ++ [k]) = addC (ofN g g.nodes) ⟨k, 0, 0, 1⟩ := by
    unfold ofN
    rw [List.map_append, List.map_cons, List.map_nil, addAll_snoc]; rfl
  have hE : ofE (addNd g k) g.edges = ofE g g.edges := by
    unfold ofE
    congr 1
    refine List.map_congr_left fun e he => ?_
    have hg := h.graph.edges e he
    unfold edgeC
    rw [addNd_at hg.2.1.1 hg.2.1.2, addNd_at hg.2.2.1 hg.2.2.2]
  show (⟨ofN (addNd g k) (g.nodes ++ [k]), ofE (addNd g k) g.edges⟩ : Sta) = _
  rw [hN, hE]; rfl
theorem nodeR_of {k : Int} (hk : 0 ≤ k ∧ k < t.nodes.length) (hl : g.nodes.length < 40) : nodeR t (ofS g) k 1 = (ofS (addNd g k), 0) := by
  have ht := tot_ofN g g.nodes
  have hok : NodeOK t (ofS g) k 1 := ⟨ofS_valid h, hk, .inl rfl, by rw [show (ofS g).nodes = ofN g g.nodes from rfl]; omega, by omega, by omega⟩
  unfold nodeR
  rw [if_neg (Decidable.not_not.2 (nodeE_zero'.2 hok)), addNd_of h]
theorem edgeR_of {e : Ed} (he : 0 ≤ e.ty ∧ e.ty < t.edges.length) (hf : 0 ≤ e.fr ∧ e.fr < g.nodes.length) (hto : 0 ≤ e.to ∧ e.to < g.nodes.length) (hl : g.edges.length < 80) :
    gvalid (addEd g e) = 0 ∧ ((edgeR t (ofS g) e.ty (nodeAt g e.fr) (nodeAt g e.to) 1 = (ofS (addEd g e), 0) ∧ ofR t (addEd g e) = (ofS (addEd g e), 0)) ∨
      (edgeR t (ofS g) e.ty (nodeAt g e.fr) (nodeAt g e.to) 1 = (⟨[], []⟩, 13) ∧ ofR t (addEd g e) = (⟨[], []⟩, 13))) := by
  have hv := validR_zero.1 h.types
  have hlen : (addEd g e).edges.length = g.edges.length + 1 := by simp [addEd]
  have hgv : GV (addEd g e) := ⟨h.graph.nl, by omega, h.graph.nodes, fun d hd => by
    rcases List.mem_append.1 hd with hd | hd
    · exact h.graph.edges d hd
    · simp only [List.mem_singleton] at hd; subst hd; exact ⟨by omega, hf, hto⟩⟩
  refine ⟨gvalid_zero.2 hgv, ?_⟩
  have hSV := ofS_valid h
  have hr : (0 ≤ e.ty ∧ e.ty < t.edges.length) ∧ (0 ≤ nodeAt g e.fr ∧ nodeAt g e.fr < t.nodes.length) ∧ (0 ≤ nodeAt g e.to ∧ nodeAt g e.to < t.nodes.length) := ⟨he, h.nodes _ (nodeAt_mem hf.1 hf.2), h.nodes _ (nodeAt_mem hto.1 hto.2)⟩
  have htot := tot_ofE g g.edges
  cases hfit : fitsR t e.ty (nodeAt g e.fr) (nodeAt g e.to) with
  | true =>
    left
    have hh : hasB (ofS g).nodes (nodeAt g e.fr) = true ∧ hasB (ofS g).nodes (nodeAt g e.to) = true := by
      show hasB (ofN g g.nodes) _ = true ∧ hasB (ofN g g.nodes) _ = true
      rw [ofN_has, ofN_has]
      exact ⟨List.any_eq_true.2 ⟨_, nodeAt_mem hf.1 hf.2, decide_eq_true rfl⟩, List.any_eq_true.2 ⟨_, nodeAt_mem hto.1 hto.2, decide_eq_true rfl⟩⟩
    have hok : EdgeOK t (ofS g) e.ty (nodeAt g e.fr) (nodeAt g e.to) 1 := ⟨hSV, hr, .inl rfl, hfit, by rw [hh.1, hh.2]; simp, by rw [show (ofS g).edges = ofE g g.edges from rfl]; omega⟩
    have hof : ofS (addEd g e) = ⟨(ofS g).nodes, addC (ofS g).edges ⟨e.ty, nodeAt g e.fr, nodeAt g e.to, 1⟩⟩ := by
      show (⟨ofN (addEd g e) g.nodes, ofE (addEd g e) (g.edges ++ [e])⟩ : Sta) = _
      have hE : ofE (addEd g e) (g.edges ++ [e]) = addC (ofE g g.edges) ⟨e.ty, nodeAt g e.fr, nodeAt g e.to, 1⟩ := by
        unfold ofE
        rw [List.map_append, List.map_cons, List.map_nil, addAll_snoc]; rfl
      rw [hE]; rfl
    have htv : TV t (addEd g e) := ⟨h.types, hgv, h.nodes, fun d hd => by
      rcases List.mem_append.1 hd with hd | hd
      · exact h.edges d hd
      · simp only [List.mem_singleton] at hd; subst hd; exact ⟨he, hfit⟩⟩
    refine ⟨?_, ?_⟩
    · unfold edgeR
      rw [if_neg (Decidable.not_not.2 (edgeE_zero'.2 hok)), hof]
    · unfold ofR
      rw [if_neg (Decidable.not_not.2 (typedE_zero.2 htv))]
  | false =>
    right
    have h1 : edgeE' t (ofS g) e.ty (nodeAt g e.fr) (nodeAt g e.to) 1 = 13 := by
      unfold edgeE'
      rw [if_neg (Decidable.not_not.2 (sValid_zero.2 hSV)), if_neg (by omega), if_pos hfit]
    have h2 : typedE t (addEd g e) = 13 := by
      unfold typedE
      rw [if_neg (Decidable.not_not.2 h.types), if_neg (Decidable.not_not.2 (gvalid_zero.2 hgv)), if_neg]
      · have hlast : tyE t (addEd g e) g.edges.length = 13 := by
          simp only [tyE, addEd, List.getElem?_concat_length, tyEd]
          rw [if_neg (by omega)]
          exact if_pos hfit
        rw [hlen, firstN_at (i := g.edges.length) ?_ (by omega) (by rw [hlast]; decide)]
        · exact hlast
        · intro j hj
          have hx := List.getElem?_eq_getElem (l := g.edges) (i := j) hj
          have hd := h.edges _ (List.getElem_mem hj)
          simp only [tyE, addEd, List.getElem?_append_left hj, hx, tyEd]
          rw [if_neg (by omega)]
          exact if_neg (by rw [show fitsR t g.edges[j].ty (nodeAt ⟨g.nodes, g.edges ++ [e]⟩ g.edges[j].fr) (nodeAt ⟨g.nodes, g.edges ++ [e]⟩ g.edges[j].to) = true from hd.2]; decide)
      · simp only [List.any_eq_true, not_exists, not_and, decide_eq_true_eq, Int.not_le]
        exact fun x hx => (h.nodes x hx).2
    refine ⟨?_, ?_⟩
    · unfold edgeR; rw [h1, if_pos (by decide)]
    · unfold ofR; rw [h2, if_pos (by decide)]
end
end Go.Sj.Sta

/-
  Graphs, statistics and what describes them, among the arguments of a call.
-/
namespace Go.Sj.Sta
open Go.Sj Go.Sj.Typ
set_option linter.unusedVariables false

abbrev REd := Int × Int × Int × Unit
abbrev RGr := List Int × List REd × Unit
def toEd (x : REd) : Ed := ⟨x.1, x.2.1, x.2.2.1⟩
def toGr (x : RGr) : Gr := ⟨x.1, x.2.1.map toEd⟩
def gREd (x : REd) : List AV := [.lit (.int .i64 x.1)] ++ ([.lit (.int .i64 x.2.1)] ++ ([.lit (.int .i64 x.2.2.1)] ++ []))
def gGr (x : RGr) : List AV := [.im 1 (x.1.map fun n => [.lit (.int .i64 n)])] ++ ([.im 3 (x.2.1.map gREd)] ++ [])
theorem gREd_eq : gREd = fun x => cEd (toEd x) := rfl
theorem gGr_eq (x : RGr) : gGr x = [ints (toGr x).nodes, edsA (toGr x).edges] := by
  show [AV.im 1 (x.1.map fun n => [.lit (.int .i64 n)]), AV.im 3 (x.2.1.map gREd)] = [AV.im 1 (x.1.map cI), AV.im 3 ((x.2.1.map toEd).map cEd)]
  rw [gREd_eq, List.map_map]; rfl
theorem gr_vr {σ : Hp} {v : Value} {x : RGr} (h : VR σ (.agg (gGr x)) v) : VR σ (grA (toGr x)) v := by rw [gGr_eq] at h; exact h
/-- No list of a graph is longer than memory. -/
def OkG (g : Gr) : Prop := g.nodes.length ≤ 140737488355328 ∧ g.edges.length ≤ 140737488355328
theorem gr_ok {x : RGr} {a b : Prop} {q : Prop} (h : (a ∧ x.1.length ≤ reachBytes) ∧ (b ∧ x.2.1.length ≤ reachBytes) ∧ q) : OkG (toGr x) := by
  have h1 := h.1.2
  have h2 := h.2.1.2
  unfold reachBytes at h1 h2
  refine ⟨by show x.1.length ≤ _; omega, ?_⟩
  show (x.2.1.map toEd).length ≤ _
  rw [List.length_map]; omega

abbrev RCnt := Int × Int × Int × Int × Unit
abbrev RSta := List RCnt × List RCnt × Unit
def toCnt (x : RCnt) : Cnt := ⟨x.1, x.2.1, x.2.2.1, x.2.2.2.1⟩
def toSta (x : RSta) : Sta := ⟨x.1.map toCnt, x.2.1.map toCnt⟩
def gRCnt (x : RCnt) : List AV := [.lit (.int .i64 x.1)] ++ ([.lit (.int .i64 x.2.1)] ++ ([.lit (.int .i64 x.2.2.1)] ++ ([.lit (.int .i64 x.2.2.2.1)] ++ [])))
def gSta (x : RSta) : List AV := [.im 4 (x.1.map gRCnt)] ++ ([.im 4 (x.2.1.map gRCnt)] ++ [])
theorem gRCnt_eq : gRCnt = fun x => cCnt (toCnt x) := rfl
theorem gSta_eq (x : RSta) : gSta x = [cntsA (toSta x).nodes, cntsA (toSta x).edges] := by
  show [AV.im 4 (x.1.map gRCnt), AV.im 4 (x.2.1.map gRCnt)] = [AV.im 4 ((x.1.map toCnt).map cCnt), AV.im 4 ((x.2.1.map toCnt).map cCnt)]
  rw [gRCnt_eq, List.map_map, List.map_map]; rfl
theorem sta_vr {σ : Hp} {v : Value} {x : RSta} (h : VR σ (.agg (gSta x)) v) : VR σ (staA (toSta x)) v := by rw [gSta_eq] at h; exact h
def OkS (s : Sta) : Prop := s.nodes.length ≤ 140737488355328 ∧ s.edges.length ≤ 140737488355328
theorem sta_ok {x : RSta} {a b : Prop} {q : Prop} (h : (a ∧ x.1.length ≤ reachBytes) ∧ (b ∧ x.2.1.length ≤ reachBytes) ∧ q) : OkS (toSta x) := by
  have h1 := h.1.2
  have h2 := h.2.1.2
  unfold reachBytes at h1 h2
  refine ⟨?_, ?_⟩
  · show (x.1.map toCnt).length ≤ _
    rw [List.length_map]; omega
  · show (x.2.1.map toCnt).length ≤ _
    rw [List.length_map]; omega

/-! Descriptions. -/
def c83 (c : Int × Int × Int) : List AV := [A8 c.1, A8 c.2.1, A8 c.2.2]
def toC3 : List Int → Int × Int × Int
  | [a, b, c] => (a, b, c)
  | _ => (0, 0, 0)
def In3 (c : Int × Int × Int) : Prop := (0 ≤ c.1 ∧ c.1 ≤ 255) ∧ (0 ≤ c.2.1 ∧ c.2.1 ≤ 255) ∧ (0 ≤ c.2.2 ∧ c.2.2 ≤ 255)
theorem toC3_c {l : List Int} (h : l.length = 3) : (l.map fun m => AV.lit (.int .u8 m)) = c83 (toC3 l) := by
  match l, h with
  | [a, b, c], _ => rfl
theorem toC3_ok {l : List Int} (h : Okn 3 l) : In3 (toC3 l) := by
  obtain ⟨h1, h2⟩ := h
  match l, h1, h2 with
  | [a, b, c], _, h2 => exact ⟨wf_n8 (h2 a (by simp)), wf_n8 (h2 b (by simp)), wf_n8 (h2 c (by simp))⟩
structure Drf where
  types : List (Int × Int)
  ends : List (Int × Int)
  nodes : List Int
  edges : List (Int × Int × Int)
abbrev RDrf := List (List Int) × List (List Int) × List Int × List (List Int) × Unit
def toDrf (x : RDrf) : Drf := ⟨x.1.map toC2, x.2.1.map toC2, x.2.2.1, x.2.2.2.1.map toC3⟩
abbrev c8 (n : Int) : List AV := [A8 n]
abbrev bytesA (l : List Int) : AV := .im 1 (l.map c8)
abbrev drfL (d : Drf) : List AV := [.im 2 (d.types.map c82), .im 2 (d.ends.map c82), bytesA d.nodes, .im 3 (d.edges.map c83)]
abbrev drfA (d : Drf) : AV := .agg (drfL d)
def g8s (l : List Int) : List AV := l.map fun m => .lit (.int .u8 m)
def gDrf (x : RDrf) : List AV := [.im 2 (x.1.map g8s)] ++ ([.im 2 (x.2.1.map g8s)] ++ ([.im 1 (x.2.2.1.map fun n => [.lit (.int .u8 n)])] ++ ([.im 3 (x.2.2.2.1.map g8s)] ++ [])))
structure OkD (d : Drf) : Prop where
  types : Cd d.types
  ends : Cd d.ends
  nodes : ∀ n ∈ d.nodes, 0 ≤ n ∧ n ≤ 255
  edges : ∀ c ∈ d.edges, In3 c
  tl : d.types.length ≤ 140737488355328
  el : d.ends.length ≤ 140737488355328
  nl : d.nodes.length ≤ 140737488355328
  gl : d.edges.length ≤ 140737488355328
abbrev okRD (x : RDrf) : Prop := ((∀ a ∈ x.1, a.length = 2 ∧ ∀ m ∈ a, (Lit.int .u8 m).wf = true) ∧ x.1.length ≤ reachBytes) ∧ ((∀ a ∈ x.2.1, a.length = 2 ∧ ∀ m ∈ a, (Lit.int .u8 m).wf = true) ∧ x.2.1.length ≤ reachBytes) ∧
  ((∀ m ∈ x.2.2.1, (Lit.int .u8 m).wf = true) ∧ x.2.2.1.length ≤ reachBytes) ∧ ((∀ a ∈ x.2.2.2.1, a.length = 3 ∧ ∀ m ∈ a, (Lit.int .u8 m).wf = true) ∧ x.2.2.2.1.length ≤ reachBytes) ∧ True
theorem drf_vr {σ : Hp} {v : Value} {x : RDrf} (hx : okRD x) (h : VR σ (.agg (gDrf x)) v) : VR σ (drfA (toDrf x)) v := by
  have e1 : x.1.map g8s = (x.1.map toC2).map c82 := by rw [List.map_map]; exact List.map_congr_left fun a ha => toC2_c (hx.1.1 a ha).1
  have e2 : x.2.1.map g8s = (x.2.1.map toC2).map c82 := by rw [List.map_map]; exact List.map_congr_left fun a ha => toC2_c (hx.2.1.1 a ha).1
  have e3 : x.2.2.2.1.map g8s = (x.2.2.2.1.map toC3).map c83 := by rw [List.map_map]; exact List.map_congr_left fun a ha => toC3_c (hx.2.2.2.1.1 a ha).1
  have e : gDrf x = drfL (toDrf x) := by
    show [AV.im 2 (x.1.map g8s), AV.im 2 (x.2.1.map g8s), AV.im 1 (x.2.2.1.map fun n => [.lit (.int .u8 n)]), AV.im 3 (x.2.2.2.1.map g8s)] = _
    rw [e1, e2, e3]; rfl
  rw [e] at h
  exact h
theorem drf_ok {x : RDrf} (hx : okRD x) : OkD (toDrf x) := by
  have r1 := hx.1.2
  have r2 := hx.2.1.2
  have r3 := hx.2.2.1.2
  have r4 := hx.2.2.2.1.2
  unfold reachBytes at r1 r2 r3 r4
  refine ⟨fun c hc => ?_, fun c hc => ?_, fun n hn => wf_n8 (hx.2.2.1.1 n hn), fun c hc => ?_, ?_, ?_, ?_, ?_⟩
  · obtain ⟨a, ha, rfl⟩ := List.mem_map.1 hc
    exact toC2_ok (hx.1.1 a ha)
  · obtain ⟨a, ha, rfl⟩ := List.mem_map.1 hc
    exact toC2_ok (hx.2.1.1 a ha)
  · obtain ⟨a, ha, rfl⟩ := List.mem_map.1 hc
    exact toC3_ok (hx.2.2.2.1.1 a ha)
  · show (x.1.map toC2).length ≤ _
    rw [List.length_map]; omega
  · show (x.2.1.map toC2).length ≤ _
    rw [List.length_map]; omega
  · show x.2.2.1.length ≤ _
    omega
  · show (x.2.2.2.1.map toC3).length ≤ _
    rw [List.length_map]; omega
theorem u8s_ok {x : List Int} (h : (∀ m ∈ x, (Lit.int .u8 m).wf = true) ∧ x.length ≤ reachBytes) : (∀ m ∈ x, 0 ≤ m ∧ m ≤ 255) ∧ x.length ≤ 140737488355328 := by
  have h2 := h.2
  unfold reachBytes at h2
  exact ⟨fun m hm => wf_n8 (h.1 m hm), by omega⟩
end Go.Sj.Sta

/-
  The counts of a graph are few and small: plain mathematics.
-/
namespace Go.Sj.Sta
open Go.Sj Go.Sj.Typ
set_option linter.unusedVariables false
theorem addAll_len (l xs : List Cnt) : (addAll l xs).length ≤ l.length + xs.length := by
  induction xs generalizing l with
  | nil => exact Nat.le_refl _
  | cons x xs ih =>
    have h1 := ih (addC l x)
    have h2 := addC_len l x
    simp only [List.length_cons]
    have e : addAll l (x :: xs) = addAll (addC l x) xs := rfl
    rw [e]; omega
theorem ofN_len (g : Gr) (l : List Int) : (ofN g l).length ≤ l.length := by
  have := addAll_len [] (l.map nodeC)
  rw [List.length_map] at this
  simpa [ofN] using this
theorem ofE_len (g : Gr) (l : List Ed) : (ofE g l).length ≤ l.length := by
  have := addAll_len [] (l.map (edgeC g))
  rw [List.length_map] at this
  simpa [ofE] using this
def smN (c : Cnt) : Prop := (0 ≤ c.ty ∧ c.ty ≤ 99) ∧ (0 ≤ c.fr ∧ c.fr ≤ 99) ∧ (0 ≤ c.to ∧ c.to ≤ 99)
theorem smN_q : QP smN := fun a b h hh => by
  obtain ⟨h1, h2, h3⟩ := h
  unfold smN at hh ⊢
  rw [← h1, ← h2, ← h3]; exact hh
theorem ofN_small (g : Gr) {l : List Int} (h : ∀ n ∈ l, 0 ≤ n ∧ n ≤ 99) (hl : l.length ≤ 100) : ∀ c ∈ ofN g l, smN c ∧ 1 ≤ c.nu ∧ c.nu ≤ 1000 := fun c hc => by
  have k := ofN_key smN_q g (l := l) (fun n hn => by have := h n hn; unfold smN nodeC; simp only; omega) c hc
  have p := ofN_pos g l
  have t := nu_tot p c hc
  rw [tot_ofN] at t
  exact ⟨k, p c hc, by omega⟩
theorem ofE_small (g : Gr) {l : List Ed} (h : ∀ e ∈ l, (0 ≤ e.ty ∧ e.ty ≤ 99) ∧ (0 ≤ nodeAt g e.fr ∧ nodeAt g e.fr ≤ 99) ∧ (0 ≤ nodeAt g e.to ∧ nodeAt g e.to ≤ 99)) (hl : l.length ≤ 100) : ∀ c ∈ ofE g l, smN c ∧ 1 ≤ c.nu ∧ c.nu ≤ 1000 := fun c hc => by
  have k := ofE_key smN_q g (l := l) (fun e he => by have := h e he; unfold smN edgeC; simp only; omega) c hc
  have p := ofE_pos g l
  have t := nu_tot p c hc
  rw [tot_ofE] at t
  exact ⟨k, p c hc, by omega⟩
theorem ofN_snoc (g : Gr) {l : List Int} {k : Nat} {n : Int} (h : l[k]? = some n) : ofN g (l.take (k + 1)) = addC (ofN g (l.take k)) (nodeC n) := by
  obtain ⟨hk, rfl⟩ := List.getElem?_eq_some_iff.1 h
  rw [List.take_succ_eq_append_getElem hk]
  unfold ofN
  rw [List.map_append, List.map_cons, List.map_nil, addAll_snoc]
theorem ofE_snoc (g : Gr) {l : List Ed} {k : Nat} {e : Ed} (h : l[k]? = some e) : ofE g (l.take (k + 1)) = addC (ofE g (l.take k)) (edgeC g e) := by
  obtain ⟨hk, rfl⟩ := List.getElem?_eq_some_iff.1 h
  rw [List.take_succ_eq_append_getElem hk]
  unfold ofE
  rw [List.map_append, List.map_cons, List.map_nil, addAll_snoc]
end Go.Sj.Sta
