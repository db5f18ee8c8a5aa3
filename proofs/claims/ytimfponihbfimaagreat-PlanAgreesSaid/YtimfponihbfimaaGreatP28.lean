/- Parts of a proof. -/
import Derived.Test.YtimfponihbfimaaGreatP24
set_option linter.unusedVariables false
set_option linter.unusedSimpArgs false
section
namespace Go.Sj.Pln
open Go.Sj Go.Sj.Sta Go.Sj.Typ Go.Sj.Inc
set_option maxRecDepth 8000
structure Opn where
  kind : Int
  el : Int
deriving DecidableEq
def cOp (o : Opn) : List AV := [AI o.kind, AI o.el]
abbrev opsA (l : List Opn) : AV := .im 2 (l.map cOp)
structure Kn where
  ns : List Bool
  es : List Bool
def kn0 (p : Gr) : Kn := ⟨List.replicate p.nodes.length false, List.replicate p.edges.length false⟩
structure KnOk (p : Gr) (s : Kn) : Prop where
  nl : s.ns.length = p.nodes.length
  el : s.es.length = p.edges.length
def nodK (s : Kn) (i : Int) : Bool := s.ns.getD i.toNat false
def edgK (s : Kn) (i : Int) : Bool := s.es.getD i.toNat false
def edP (p : Gr) (i : Int) : Ed := p.edges.getD i.toNat ⟨0, 0, 0⟩
def edgP (p : Gr) (s : Kn) (o : Opn) : Bool := !edgK s o.el && (if o.kind = 2 then nodK s (edP p o.el).fr != nodK s (edP p o.el).to else nodK s (edP p o.el).fr && nodK s (edP p o.el).to)
def opE (p : Gr) (s : Kn) (o : Opn) : Int :=
  if o.kind = 1 then (if 0 ≤ o.el ∧ o.el < p.nodes.length then (if nodK s o.el = true then 8 else 0) else 6)
  else if o.kind = 2 ∨ o.kind = 3 then (if 0 ≤ o.el ∧ o.el < p.edges.length then (if edgP p s o = true then 0 else 8) else 6)
  else 6
def aftK (p : Gr) (s : Kn) (o : Opn) : Kn :=
  if o.kind = 1 then ⟨s.ns.set o.el.toNat true, s.es⟩
  else ⟨(s.ns.set (edP p o.el).fr.toNat true).set (edP p o.el).to.toNat true, s.es.set o.el.toNat true⟩
def knownB (s : Kn) : Bool := !s.ns.contains false && !s.es.contains false
def planE (p : Gr) : Kn → List Opn → Int
  | s, [] => if knownB s = true then 0 else 20
  | s, o :: l => if opE p s o ≠ 0 then opE p s o else planE p (aftK p s o) l
def pvalE (p : Gr) (l : List Opn) : Int := if gvalid p ≠ 0 then gvalid p else planE p (kn0 p) l
theorem kn0_ok (p : Gr) : KnOk p (kn0 p) := ⟨by simp [kn0], by simp [kn0]⟩
theorem aftK_ok {p : Gr} {s : Kn} (h : KnOk p s) (o : Opn) : KnOk p (aftK p s o) := by
  unfold aftK
  split
  · exact ⟨by simp [h.nl], h.el⟩
  · exact ⟨by simp [h.nl], by simp [h.el]⟩
def unk (s : Kn) : Nat := s.ns.count false + s.es.count false
theorem count_set_t {l : List Bool} {i : Nat} : (l.set i true).count false = l.count false - (if l[i]? = some false then 1 else 0) := by
  by_cases hi : i < l.length
  · rw [List.count_set hi, List.getElem?_eq_getElem hi]
    cases l[i] <;> simp
  · rw [List.set_eq_of_length_le (by omega), List.getElem?_eq_none (by omega)]
    simp
theorem count_pos {l : List Bool} {i : Nat} (h : l[i]? = some false) : 0 < l.count false := List.count_pos_iff.2 (List.mem_of_getElem? h)
theorem getD_false {l : List Bool} {i : Nat} (hi : i < l.length) (h : l.getD i false = false) : l[i]? = some false := by
  rw [List.getD_eq_getElem?_getD, List.getElem?_eq_getElem hi] at h
  rw [List.getElem?_eq_getElem hi]
  exact congrArg some h
theorem opE_zero {p : Gr} {s : Kn} {o : Opn} (h : opE p s o = 0) :
    (o.kind = 1 ∧ (0 ≤ o.el ∧ o.el < p.nodes.length) ∧ nodK s o.el = false) ∨
    ((o.kind = 2 ∨ o.kind = 3) ∧ (0 ≤ o.el ∧ o.el < p.edges.length) ∧ edgP p s o = true) := by
  unfold opE at h
  split at h
  · rename_i h1
    split at h
    · rename_i h2
      split at h
      · cases h
      · rename_i h3; exact .inl ⟨h1, h2, by simpa using h3⟩
    · cases h
  · split at h
    · rename_i h1
      split at h
      · rename_i h2
        split at h
        · rename_i h3; exact .inr ⟨h1, h2, h3⟩
        · cases h
      · cases h
    · cases h
theorem edgP_new {p : Gr} {s : Kn} {o : Opn} (h : edgP p s o = true) : edgK s o.el = false := by
  unfold edgP at h
  rw [Bool.and_eq_true] at h
  simpa using h.1
theorem unk_aft {p : Gr} {s : Kn} {o : Opn} (hs : KnOk p s) (h : opE p s o = 0) : unk (aftK p s o) < unk s := by
  unfold unk aftK
  rcases opE_zero h with ⟨h1, h2, h3⟩ | ⟨h1, h2, h3⟩
  · rw [if_pos h1]
    have := getD_false (i := o.el.toNat) (by rw [hs.nl]; omega) h3
    simp only [count_set_t, this, if_true]
    have := count_pos this
    omega
  · rw [if_neg (by omega)]
    have h4 := getD_false (i := o.el.toNat) (by rw [hs.el]; omega) (edgP_new h3)
    simp only [count_set_t, h4, if_true]
    have := count_pos h4
    omega
def opsN (p : Gr) : List Opn := (List.range p.nodes.length).map fun i : Nat => (⟨1, (i : Int)⟩ : Opn)
def opsE (p : Gr) (k : Int) : List Opn := (List.range p.edges.length).map fun i : Nat => (⟨k, (i : Int)⟩ : Opn)
def opsL (p : Gr) : List Opn := opsN p ++ opsE p 2 ++ opsE p 3
def poss (p : Gr) (s : Kn) : List Opn := (opsL p).filter fun o => decide (opE p s o = 0)
def over (a b : Int) : Int := if b = 0 then 0 else (a + b - 1) / b
def capC (z : Int) : Int := min z 1000000000
def numN (t : Tys) (s : Sta) (p : Gr) (i : Int) : Int := sumP (fun c => isR t c.ty (nodeAt p i)) s.nodes
def numE (t : Tys) (s : Sta) (p : Gr) (x : Ed) : Int := sumP (fun c => decide (c.ty = x.ty) && isR t c.fr (nodeAt p x.fr) && isR t c.to (nodeAt p x.to)) s.edges
def estK (t : Tys) (s : Sta) (p : Gr) (k : Kn) (n : Int) (o : Opn) : Int :=
  if o.kind = 1 then capC (n * numN t s p o.el)
  else if o.kind = 3 then capC (over (over (n * numE t s p (edP p o.el)) (numN t s p (edP p o.el).fr)) (numN t s p (edP p o.el).to))
  else if nodK k (edP p o.el).fr = true then capC (over (n * numE t s p (edP p o.el)) (numN t s p (edP p o.el).fr))
  else capC (over (n * numE t s p (edP p o.el)) (numN t s p (edP p o.el).to))
def quoC (a b c : Int) : Int := if c = 0 then 0 else min 1000000000 ((a * b + c - 1) / c)
def estG (t : Tys) (s : Sta) (p : Gr) (k : Kn) (n : Int) (o : Opn) : Int :=
  if o.kind = 1 then quoC n (numN t s p o.el) 1
  else if o.kind = 3 then quoC n (numE t s p (edP p o.el)) (numN t s p (edP p o.el).fr * numN t s p (edP p o.el).to)
  else if nodK k (edP p o.el).fr = true then quoC n (numE t s p (edP p o.el)) (numN t s p (edP p o.el).fr)
  else quoC n (numE t s p (edP p o.el)) (numN t s p (edP p o.el).to)
theorem over_nn {a b : Int} (ha : 0 ≤ a) (hb : 0 ≤ b) : 0 ≤ over a b := by
  unfold over
  split
  · exact Int.le_refl _
  · exact Int.ediv_nonneg (by omega) hb
theorem over_over {a b c : Int} (ha : 0 ≤ a) (hb : 0 < b) (hc : 0 < c) : over (over a b) c = over a (b * c) := by
  unfold over
  have hbc : 0 < b * c := Int.mul_pos hb hc
  rw [if_neg (by omega), if_neg (by omega), if_neg (by omega)]
  have e1 : (a + b - 1) / b + c - 1 = (a + b - 1 + b * (c - 1)) / b := by
    rw [Int.add_mul_ediv_left _ _ (by omega)]
    omega
  rw [e1, Int.ediv_ediv_of_nonneg (by omega)]
  congr 1
  rw [Int.mul_sub, Int.mul_one]
  omega
theorem over_one (a : Int) : over a 1 = a := by
  unfold over
  rw [if_neg (by decide)]
  simp
theorem quoC_over (a b c : Int) : quoC a b c = capC (over (a * b) c) := by
  unfold quoC over capC
  split
  · rfl
  · rw [Int.min_comm]
theorem numN_nn {t : Tys} {s : Sta} (h : SV t s) (p : Gr) (i : Int) : 0 ≤ numN t s p i ∧ numN t s p i ≤ 40 := by
  have hp := h.nodes.pos
  refine ⟨sumP_nn fun c hc => by have := hp c hc; omega, ?_⟩
  have h2 := sumP_le (p := fun c => isR t c.ty (nodeAt p i)) (q := fun _ => true) (l := s.nodes) (fun c hc => by have := hp c hc; omega) (fun _ _ _ => rfl)
  have h3 := h.ntot
  unfold numN
  unfold tot at h3
  omega
theorem numE_nn {t : Tys} {s : Sta} (h : SV t s) (p : Gr) (x : Ed) : 0 ≤ numE t s p x ∧ numE t s p x ≤ 80 := by
  have hp := h.edges.pos
  refine ⟨sumP_nn fun c hc => by have := hp c hc; omega, ?_⟩
  have h2 := sumP_le (p := fun c => decide (c.ty = x.ty) && isR t c.fr (nodeAt p x.fr) && isR t c.to (nodeAt p x.to)) (q := fun _ => true) (l := s.edges) (fun c hc => by have := hp c hc; omega) (fun _ _ _ => rfl)
  have h3 := h.etot
  unfold numE
  unfold tot at h3
  omega
theorem est_eq {t : Tys} {s : Sta} (h : SV t s) {p : Gr} {k : Kn} {n : Int} {o : Opn} (hn : 0 ≤ n) : estG t s p k n o = estK t s p k n o := by
  unfold estG estK
  split
  · rw [quoC_over, over_one]
  · split
    · rw [quoC_over]
      have hE := (numE_nn h p (edP p o.el)).1
      have h1 := (numN_nn h p (edP p o.el).fr).1
      have h2 := (numN_nn h p (edP p o.el).to).1
      have hm : 0 ≤ n * numE t s p (edP p o.el) := Int.mul_nonneg hn hE
      congr 1
      rcases Int.lt_or_eq_of_le h1 with h3 | h3
      · rcases Int.lt_or_eq_of_le h2 with h4 | h4
        · rw [over_over hm h3 h4]
        · rw [← h4, Int.mul_zero]; simp [over]
      · rw [← h3, Int.zero_mul]
        unfold over
        simp only [if_true]
        split
        · rfl
        · rw [Int.ediv_eq_zero_of_lt (by omega) (by omega)]
    · split
      · rw [quoC_over]
      · rw [quoC_over]
theorem capC_nn {z : Int} (h : 0 ≤ z) : 0 ≤ capC z ∧ capC z ≤ 1000000000 := by unfold capC; omega
theorem est_nn {t : Tys} {s : Sta} (h : SV t s) {p : Gr} {k : Kn} {n : Int} {o : Opn} (hn : 0 ≤ n) : 0 ≤ estK t s p k n o ∧ estK t s p k n o ≤ 1000000000 := by
  have hE := (numE_nn h p (edP p o.el)).1
  have h1 := (numN_nn h p (edP p o.el).fr).1
  have h2 := (numN_nn h p (edP p o.el).to).1
  have h3 := (numN_nn h p o.el).1
  have hm : 0 ≤ n * numE t s p (edP p o.el) := Int.mul_nonneg hn hE
  unfold estK
  repeat' split
  · exact capC_nn (Int.mul_nonneg hn h3)
  · exact capC_nn (over_nn (over_nn hm h1) h2)
  · exact capC_nn (over_nn hm h1)
  · exact capC_nn (over_nn hm h2)
def costS (t : Tys) (s : Sta) (p : Gr) : Kn → Int → Int → List Opn → Int
  | _, _, c, [] => c
  | k, n, c, o :: l => costS t s p (aftK p k o) (estK t s p k n o) (capC (c + estK t s p k n o)) l
def costL (t : Tys) (s : Sta) (p : Gr) (l : List Opn) : Int := costS t s p (kn0 p) 1 0 l
def pricE (t : Tys) (s : Sta) (p : Gr) : Int := if sValid t s ≠ 0 then sValid t s else if gvalid p ≠ 0 then gvalid p else if typT t p = true then 0 else 13
structure Prc (t : Tys) (s : Sta) (p : Gr) : Prop where
  st : SV t s
  gr : GV p
  ty : typT t p = true
theorem pricE_zero {t : Tys} {s : Sta} {p : Gr} : pricE t s p = 0 ↔ Prc t s p := by
  unfold pricE
  constructor
  · intro h
    split at h
    · rename_i h1; exact absurd h h1
    · rename_i h1
      split at h
      · rename_i h2; exact absurd h h2
      · rename_i h2
        split at h
        · rename_i h3
          exact ⟨sValid_zero.1 (Decidable.not_not.1 h1), gvalid_zero.1 (Decidable.not_not.1 h2), h3⟩
        · cases h
  · intro h
    rw [if_neg (Decidable.not_not.2 (sValid_zero.2 h.st)), if_neg (Decidable.not_not.2 (gvalid_zero.2 h.gr)), if_pos h.ty]
def costR (t : Tys) (s : Sta) (p : Gr) (l : List Opn) : Int × Int := if pricE t s p ≠ 0 then (0, pricE t s p) else if planE p (kn0 p) l ≠ 0 then (0, planE p (kn0 p) l) else (costL t s p l, 0)
structure Bst where
  l : List Opn
  c : Int
  ok : Bool
def leafB (l : List Opn) (c : Int) (b : Bst) : Bst := if b.ok = false ∨ c < b.c then ⟨l, c, true⟩ else b
def betL (t : Tys) (s : Sta) (p : Gr) : Nat → List Opn → Kn → Int → Int → Bst → Bst
  | 0, l, k, n, c, b => b
  | m + 1, l, k, n, c, b => if knownB k = true then leafB l c b else (poss p k).foldl (fun b o => betL t s p m (l ++ [o]) (aftK p k o) (estK t s p k n o) (capC (c + estK t s p k n o)) b) b
def prune (c : Int) (b : Bst) : Bool := b.ok && decide (b.c ≤ c)
def betP (t : Tys) (s : Sta) (p : Gr) : Nat → List Opn → Kn → Int → Int → Bst → Bst
  | 0, l, k, n, c, b => b
  | m + 1, l, k, n, c, b => if knownB k = true then leafB l c b else (poss p k).foldl (fun b o => if prune (capC (c + estK t s p k n o)) b = true then b else betP t s p m (l ++ [o]) (aftK p k o) (estK t s p k n o) (capC (c + estK t s p k n o)) b) b
theorem foldl_id {A B : Type} {f : B → A → B} {b : B} : ∀ {l : List A}, (∀ a ∈ l, f b a = b) → l.foldl f b = b
  | [], _ => rfl
  | a :: l, h => by
    rw [List.foldl_cons, h a (by simp)]
    exact foldl_id fun x hx => h x (by simp [hx])
theorem capC_up {c z : Int} (hc : c ≤ 1000000000) (hz : 0 ≤ z) : c ≤ capC (c + z) ∧ capC (c + z) ≤ 1000000000 := by unfold capC; omega
theorem betL_same {t : Tys} {s : Sta} (h : SV t s) {p : Gr} : ∀ (m : Nat) (l : List Opn) (k : Kn) (n c : Int) (b : Bst), 0 ≤ n → c ≤ 1000000000 → prune c b = true → betL t s p m l k n c b = b
  | 0, l, k, n, c, b, _, _, _ => rfl
  | m + 1, l, k, n, c, b, hn, hc, hb => by
    have hb2 := hb
    unfold prune at hb2
    rw [Bool.and_eq_true, decide_eq_true_eq] at hb2
    unfold betL
    split
    · unfold leafB
      rw [if_neg]
      rw [hb2.1]
      simp only [Bool.true_eq_false, false_or]
      omega
    · refine foldl_id fun o ho => ?_
      have h1 := est_nn h (p := p) (k := k) (o := o) hn
      have h2 := capC_up hc h1.1
      refine betL_same h m _ _ _ _ b h1.1 h2.2 ?_
      unfold prune
      rw [hb2.1, decide_eq_true (by omega)]
      rfl
theorem foldl_congr {A B : Type} {f g : B → A → B} : ∀ {l : List A} {b : B}, (∀ a ∈ l, ∀ b, f b a = g b a) → l.foldl f b = l.foldl g b
  | [], _, _ => rfl
  | a :: l, b, h => by
    rw [List.foldl_cons, List.foldl_cons, h a (by simp)]
    exact foldl_congr fun x hx => h x (by simp [hx])
theorem betP_eq {t : Tys} {s : Sta} (h : SV t s) {p : Gr} : ∀ (m : Nat) (l : List Opn) (k : Kn) (n c : Int) (b : Bst), 0 ≤ n → c ≤ 1000000000 → betP t s p m l k n c b = betL t s p m l k n c b
  | 0, l, k, n, c, b, _, _ => rfl
  | m + 1, l, k, n, c, b, hn, hc => by
    unfold betP betL
    split
    · rfl
    · refine foldl_congr fun o ho b => ?_
      have h1 := est_nn h (p := p) (k := k) (o := o) hn
      have h2 := capC_up hc h1.1
      by_cases hp : prune (capC (c + estK t s p k n o)) b = true
      · rw [if_pos hp, betL_same h m _ _ _ _ b h1.1 h2.2 hp]
      · rw [if_neg hp, betP_eq h m _ _ _ _ b h1.1 h2.2]
def bestB (t : Tys) (s : Sta) (p : Gr) : Bst := betL t s p 7 [] (kn0 p) 1 0 ⟨[], 0, false⟩
def bestR (t : Tys) (s : Sta) (p : Gr) : List Opn × Int × Int := if pricE t s p ≠ 0 then ([], 0, pricE t s p) else if 6 < p.nodes.length + p.edges.length then ([], 0, 3) else ((bestB t s p).l, (bestB t s p).c, 0)
def Low (b r : Bst) : Prop := b.ok = true → r.ok = true ∧ r.c ≤ b.c
theorem Low.refl (b : Bst) : Low b b := fun h => ⟨h, Int.le_refl _⟩
theorem Low.trans {a b c : Bst} (h : Low a b) (k : Low b c) : Low a c := fun x => ⟨(k (h x).1).1, Int.le_trans (k (h x).1).2 (h x).2⟩
theorem unk_0 (p : Gr) : unk (kn0 p) = p.nodes.length + p.edges.length := by simp [unk, kn0]
def plainL (p : Gr) : List Opn := opsN p ++ opsE p 3
end Go.Sj.Pln
end
section
namespace Go.Sj.Can
open Go.Sj Go.Sj.Sta
set_option maxRecDepth 8000
def cmpI (x y : Int) : Int := if x < y then -1 else if y < x then 1 else 0
def cmpL : List Int → List Int → Int
  | [], [] => 0
  | [], _ :: _ => -1
  | _ :: _, [] => 1
  | x :: xs, y :: ys => if cmpI x y ≠ 0 then cmpI x y else cmpL xs ys
theorem cmpI_zero {x y : Int} : cmpI x y = 0 ↔ x = y := by
  unfold cmpI
  repeat' split
  all_goals omega
theorem cmpI_anti (x y : Int) : cmpI y x = - cmpI x y := by
  unfold cmpI
  repeat' split
  all_goals omega
theorem cmpL_self : ∀ a : List Int, cmpL a a = 0
  | [] => rfl
  | x :: a => by rw [cmpL, if_neg (by rw [cmpI_zero.2 rfl]; decide), cmpL_self a]
theorem cmpL_eq : ∀ {a b : List Int}, cmpL a b = 0 → a = b
  | [], [], _ => rfl
  | [], _ :: _, h => by cases h
  | _ :: _, [], h => by cases h
  | x :: a, y :: b, h => by
    rw [cmpL] at h
    split at h
    · contradiction
    · rename_i h1
      rw [cmpI_zero.1 (Decidable.not_not.1 h1), cmpL_eq h]
theorem cmpL_anti : ∀ a b : List Int, cmpL b a = - cmpL a b
  | [], [] => rfl
  | [], _ :: _ => rfl
  | _ :: _, [] => rfl
  | x :: a, y :: b => by
    rw [cmpL, cmpL, cmpI_anti x y, cmpL_anti a b]
    split <;> split <;> omega
theorem cmpL_trans : ∀ {a b c : List Int}, cmpL a b ≤ 0 → cmpL b c ≤ 0 → cmpL a c ≤ 0
  | [], b, [], _, _ => by decide
  | [], b, _ :: _, _, _ => by rw [cmpL]; decide
  | x :: a, [], c, h, _ => by rw [cmpL] at h; exact absurd h (by decide)
  | x :: a, y :: b, [], _, h => by rw [cmpL] at h; exact absurd h (by decide)
  | x :: a, y :: b, z :: c, h, k => by
    have ih := @cmpL_trans a b c
    rw [cmpL] at h k ⊢
    unfold cmpI at *
    repeat' split at h
    all_goals repeat' split at k
    all_goals repeat' split
    all_goals first | omega | (exact ih h k) | skip
structure Po (n : Nat) (p : List Int) : Prop where
  nd : p.Nodup
  rng : ∀ x ∈ p, 0 ≤ x ∧ x < n
theorem Po.nil (n : Nat) : Po n [] := ⟨List.nodup_nil, by simp⟩
theorem Po.left {n : Nat} {p q : List Int} (h : Po n (p ++ q)) : Po n p := ⟨(List.nodup_append.1 h.nd).1, fun x hx => h.rng x (List.mem_append_left _ hx)⟩
theorem Po.len : ∀ {n : Nat} {p : List Int}, Po n p → p.length ≤ n
  | 0, p, h => by
    cases p with
    | nil => simp
    | cons x p => have := h.rng x (by simp); omega
  | n + 1, p, h => by
    have h1 : Po n (p.erase n) := ⟨h.nd.erase _, fun x hx => by
      have h2 := h.rng x (List.mem_of_mem_erase hx)
      have h3 : x ≠ n := fun e => by subst e; exact (List.Nodup.not_mem_erase h.nd) hx
      omega⟩
    have h2 := Po.len h1
    have h3 := List.length_erase (a := (n : Int)) (l := p)
    split at h3 <;> omega
theorem Po.id (n : Nat) : Po n (rngI n) := ⟨rngI_nodup n, fun x hx => by
  obtain ⟨i, hi, rfl⟩ := List.mem_map.1 hx
  have := List.mem_range.1 hi
  omega⟩
section
variable (N : Int → Int) (T : Int → Int → List Int)
def pc (p : List Int) (v : Int) : List Int := N v :: ((p.flatMap fun j => T j v ++ T v j) ++ T v v)
def cdF : List Int → List Int → List Int
  | _, [] => []
  | p, v :: r => pc N T p v ++ cdF (p ++ [v]) r
def cd (n : Nat) (o : List Int) : List Int := (n : Int) :: cdF N T [] o
variable {N T}
end
def sw (u v x : Int) : Int := if x = u then v else if x = v then u else x
theorem sw_rng {n : Nat} {u v x : Int} (hu : 0 ≤ u ∧ u < n) (hv : 0 ≤ v ∧ v < n) (hx : 0 ≤ x ∧ x < n) : 0 ≤ sw u v x ∧ sw u v x < n := by
  unfold sw
  repeat' split
  all_goals omega
section
variable (N : Int → Int) (T : Int → Int → List Int) (n : Nat)
structure Tw (u v : Int) : Prop where
  nd : N u = N v
  lp : T u u = T v v
  ex : T u v = T v u
  ot : ∀ w : Nat, w < n → (w : Int) ≠ u → (w : Int) ≠ v → T u w = T v w ∧ T w u = T w v
def twB (u v : Int) : Bool := decide (N u = N v) && decide (T u u = T v v) && decide (T u v = T v u) && (List.range n).all fun w => decide ((w : Int) = u) || decide ((w : Int) = v) || (decide (T u w = T v w) && decide (T w u = T w v))
structure Inv (f : Int → Int) : Prop where
  nd : ∀ x : Int, 0 ≤ x ∧ x < n → N (f x) = N x
  ed : ∀ x y : Int, 0 ≤ x ∧ x < n → 0 ≤ y ∧ y < n → T (f x) (f y) = T x y
variable {N T n}
theorem Tw.inv {u v : Int} (h : Tw N T n u v) : Inv N T n (sw u v) := by
  have ot : ∀ w : Int, 0 ≤ w ∧ w < n → w ≠ u → w ≠ v → T u w = T v w ∧ T w u = T w v := fun w hw h1 h2 => by
    obtain ⟨k, rfl⟩ : ∃ k : Nat, w = k := ⟨w.toNat, by omega⟩
    exact h.ot k (by omega) h1 h2
  refine ⟨fun x hx => ?_, fun x y hx hy => ?_⟩
  · unfold sw
    by_cases e1 : x = u
    · subst e1; rw [if_pos rfl, h.nd]
    · rw [if_neg e1]
      by_cases e2 : x = v
      · subst e2; rw [if_pos rfl, h.nd]
      · rw [if_neg e2]
  · have a1 := h.lp
    have a2 := h.ex
    have bx := ot x hx
    have by' := ot y hy
    unfold sw
    by_cases e1 : x = u
    · subst e1
      rw [if_pos rfl]
      by_cases e3 : y = x
      · subst e3; rw [if_pos rfl, h.lp]
      · rw [if_neg e3]
        by_cases e4 : y = v
        · subst e4; rw [if_pos rfl, h.ex]
        · rw [if_neg e4, (ot y hy e3 e4).1]
    · rw [if_neg e1]
      by_cases e2 : x = v
      · subst e2
        rw [if_pos rfl]
        by_cases e3 : y = u
        · subst e3; rw [if_pos rfl, h.ex]
        · rw [if_neg e3]
          by_cases e4 : y = x
          · subst e4; rw [if_pos rfl, h.lp]
          · rw [if_neg e4, (ot y hy e3 e4).1]
      · rw [if_neg e2]
        by_cases e3 : y = u
        · subst e3; rw [if_pos rfl, (ot x hx e1 e2).2]
        · rw [if_neg e3]
          by_cases e4 : y = v
          · subst e4; rw [if_pos rfl, (ot x hx e1 e2).2]
          · rw [if_neg e4]
theorem Inv.tw {u v : Int} (hu : 0 ≤ u ∧ u < n) (hv : 0 ≤ v ∧ v < n) (h : Inv N T n (sw u v)) : Tw N T n u v := by
  have su : sw u v u = v := by simp [sw]
  have sv : sw u v v = u := by
    unfold sw
    split
    · assumption
    · simp
  have so : ∀ w, w ≠ u → w ≠ v → sw u v w = w := fun w h1 h2 => by simp [sw, h1, h2]
  refine ⟨?_, ?_, ?_, fun w hw h1 h2 => ⟨?_, ?_⟩⟩
  · have := h.nd v hv; rw [sv] at this; exact this
  · have := h.ed v v hv hv; rw [sv] at this; exact this
  · have := h.ed v u hv hu; rw [sv, su] at this; exact this
  · have := h.ed v w hv (by omega); rw [sv, so _ h1 h2] at this; exact this
  · have := h.ed w v (by omega) hv; rw [sv, so _ h1 h2] at this; exact this
theorem Inv.comp {f g : Int → Int} (hg : ∀ x : Int, 0 ≤ x ∧ x < n → 0 ≤ g x ∧ g x < n) (h : Inv N T n f) (k : Inv N T n g) : Inv N T n (fun x => f (g x)) :=
  ⟨fun x hx => by rw [h.nd _ (hg x hx), k.nd x hx], fun x y hx hy => by rw [h.ed _ _ (hg x hx) (hg y hy), k.ed x y hx hy]⟩
theorem Tw.trans {u v w : Int} (hu : 0 ≤ u ∧ u < n) (hv : 0 ≤ v ∧ v < n) (hw : 0 ≤ w ∧ w < n) (h1 : u ≠ v) (h2 : v ≠ w) (h3 : u ≠ w) (h : Tw N T n u v) (k : Tw N T n v w) : Tw N T n u w := by
  refine Inv.tw hu hw ?_
  have r1 : ∀ x : Int, 0 ≤ x ∧ x < n → 0 ≤ sw u v x ∧ sw u v x < n := fun x hx => sw_rng hu hv hx
  have r2 : ∀ x : Int, 0 ≤ x ∧ x < n → 0 ≤ sw v w (sw u v x) ∧ sw v w (sw u v x) < n := fun x hx => sw_rng hv hw (r1 x hx)
  have := Inv.comp r2 h.inv (Inv.comp r1 k.inv h.inv)
  have e : (fun x => sw u v (sw v w (sw u v x))) = sw u w := by
    funext x
    unfold sw
    by_cases a : x = u
    · subst a; simp [h2, h3, Ne.symm h1, Ne.symm h2, Ne.symm h3]
    · by_cases b : x = v
      · subst b; simp [h1, h3, Ne.symm h1, h2]
      · by_cases c : x = w
        · subst c; simp [a, b, h1]
        · simp [a, b, c]
  rw [← e]
  exact this
end
section
variable (N : Int → Int) (T : Int → Int → List Int) (n : Nat)
abbrev Bst := Option (List Int × List Int)
def worse (s : Bst) (c : List Int) : Bool := match s with
  | none => false
  | some (_, d) => decide (0 < cmpL c (d.take c.length))
def leaf (s : Bst) (p c : List Int) : Bst := match s with
  | none => some (p, c)
  | some (o, d) => if cmpL c d < 0 then some (p, c) else some (o, d)
def opn (N : Int → Int) (T : Int → Int → List Int) (n : Nat) (p : List Int) (v : Nat) : Bool := !decide ((v : Int) ∈ p) && !((List.range v).any fun u => !decide ((u : Int) ∈ p) && twB N T n u v)
def srch : Nat → List Int → Bst → Bst
  | 0, p, s => if worse s (cd N T n p) = true then s else leaf s p (cd N T n p)
  | m + 1, p, s => if worse s (cd N T n p) = true then s else ((List.range n).filter (opn N T n p)).foldl (fun s (v : Nat) => srch m (p ++ [(v : Int)]) s) s
def find : Bst := srch N T n n [] none
variable {N T n}
structure Cpl (n : Nat) (o : List Int) : Prop where
  po : Po n o
  len : o.length = n
def Good (N : Int → Int) (T : Int → Int → List Int) (n : Nat) (s : Bst) : Prop := ∀ o c, s = some (o, c) → Cpl n o ∧ c = cd N T n o
theorem Good.none : Good N T n none := fun _ _ h => by cases h
theorem Cpl.id (n : Nat) : Cpl n (rngI n) := ⟨Po.id n, by simp⟩
end
end Go.Sj.Can
end
section
namespace Go.Sj.Inc
open Go.Sj Go.Sj.Sta Go.Sj.Typ
set_option maxRecDepth 8000
def noneL (n : Nat) : List Int := List.replicate n (-1)
end Go.Sj.Inc
end
section
namespace Go.Sj.Inc
open Go.Sj Go.Sj.Sta Go.Sj.Typ
set_option maxRecDepth 8000
theorem zvz {t : Tys} {p g : Gr} (h : validS t p g = 0) : (validR t).2 = 0 ∧ GV p ∧ GV g ∧ typT t p = true ∧ typT t g = true := by
  unfold validS at h
  split at h
  · rename_i h1; exact absurd h h1
  · rename_i h1
    split at h
    · rename_i h2; exact absurd h h2
    · rename_i h2
      split at h
      · rename_i h3; exact absurd h h3
      · rename_i h3
        split at h
        · rename_i h4
          rw [Bool.and_eq_true] at h4
          exact ⟨Decidable.not_not.1 h1, gvalid_zero.1 (Decidable.not_not.1 h2), gvalid_zero.1 (Decidable.not_not.1 h3), h4.1, h4.2⟩
        · cases h
end Go.Sj.Inc
end
section
namespace Go.Sj.Inc
open Go.Sj Go.Sj.Sta Go.Sj.Typ
set_option maxRecDepth 8000
def cmpM (a b : Mo) : Int := if Can.cmpL a.1 b.1 ≠ 0 then Can.cmpL a.1 b.1 else Can.cmpL a.2 b.2
theorem cmpM_self (a : Mo) : cmpM a a = 0 := by unfold cmpM; rw [Can.cmpL_self, Can.cmpL_self]; rfl
theorem cmpM_eq {a b : Mo} (h : cmpM a b = 0) : a = b := by
  unfold cmpM at h
  split at h
  · rename_i h1; exact absurd h h1
  · rename_i h1
    exact Prod.ext (Can.cmpL_eq (Decidable.not_not.1 h1)) (Can.cmpL_eq h)
theorem cmpM_anti (a b : Mo) : cmpM b a = - cmpM a b := by
  unfold cmpM
  rw [Can.cmpL_anti a.1 b.1, Can.cmpL_anti a.2 b.2]
  split <;> split <;> omega
theorem cmpM_trans {a b c : Mo} (h : cmpM a b ≤ 0) (k : cmpM b c ≤ 0) : cmpM a c ≤ 0 := by
  by_cases h1 : Can.cmpL a.1 b.1 = 0
  · have e1 := Can.cmpL_eq h1
    unfold cmpM at *
    rw [if_neg (Decidable.not_not.2 h1)] at h
    rw [e1]
    split at k
    · rename_i h2
      rw [if_pos h2]
      exact k
    · rename_i h2
      rw [if_neg h2]
      exact Can.cmpL_trans h k
  · by_cases h2 : Can.cmpL b.1 c.1 = 0
    · have e2 := Can.cmpL_eq h2
      unfold cmpM at *
      rw [if_pos h1] at h
      rw [← e2, if_pos h1]
      exact h
    · unfold cmpM at h k
      rw [if_pos h1] at h
      rw [if_pos h2] at k
      have h3 := Can.cmpL_trans h k
      have h4 : Can.cmpL a.1 c.1 ≠ 0 := fun e => by
        have e1 := Can.cmpL_eq e
        rw [← e1, Can.cmpL_anti a.1 b.1] at k
        omega
      unfold cmpM
      rw [if_pos h4]
      exact h3
theorem cmpM_lt_trans {a b c : Mo} (h : cmpM a b < 0) (k : cmpM b c < 0) : cmpM a c < 0 := by
  have h1 := cmpM_trans (a := a) (b := b) (c := c) (by omega) (by omega)
  have h2 : cmpM a c ≠ 0 := fun e => by
    have e1 := cmpM_eq e
    subst e1
    rw [cmpM_anti a b] at k
    omega
  omega
theorem take_snoc {l p : List Int} {k : Int} (h1 : l.take p.length = p) (h2 : l[p.length]? = some k) : l.take (p ++ [k]).length = p ++ [k] := by
  rw [List.length_append, List.length_singleton, List.take_add_one, h1, h2]
  rfl
end Go.Sj.Inc
end
