/-
  Part A: a reading of memory as plain trees ('AV'), the part of memory that never changes, the part that a call owns, and what a machine state has to do with them.
  No condition; nothing here names a program.
-/
import Derived.WalkKit
import Derived.WalkSpells
import Derived.WalkLawsBesides
import Derived.Deep.Draws
namespace Go.Sj
set_option linter.unusedVariables false

/-- What a value means: a plain value; a row that never changes, with its elements; a place in such a row; a place in a block that the call owns; a struct; a tuple; a function. -/
inductive AV where
  | any
  | lit (v : Value)
  | im (sz : Nat) (es : List (List AV))
  | ip (cells : List AV)
  | pt (v : Value) (sz j off : Nat)
  | z0
  | agg (l : List AV)
  | tup (l : List AV)
  | fn (f : Fn) (first caps : List AV)

abbrev Hp := Nat → Option Obj
def Hp.le (s t : Hp) : Prop := ∀ b o, s b = some o → t b = some o
theorem Hp.le_refl (s : Hp) : s.le s := fun _ _ h => h
theorem Hp.le_trans {s t u : Hp} (h : s.le t) (k : t.le u) : s.le u := fun b o e => k b o (h b o e)
def Agree (s : Hp) (w : World) : Prop := ∀ b o, s b = some o → w.heap[b]? = some o
theorem Agree.mono {s t : Hp} {w : World} (h : Agree t w) (k : s.le t) : Agree s w := fun b o e => h b o (k b o e)

/-- The block at whose head an owned value lies. -/
def blk : Value → Option Nat
  | .slice (some a) _ cap => if cap = 0 then none else some a.block
  | .pointer (some a) => some a.block
  | .map (some b) => some b
  | _ => none

inductive VR (σ : Hp) : AV → Value → Prop
  | any (v : Value) : VR σ .any v
  | lit (v : Value) : VR σ (.lit v) v
  | imNil (sz : Nat) (a : Option Addr) (cap : Nat) : VR σ (.im sz []) (.slice a 0 cap)
  | im (sz : Nat) (es : List (List AV)) (b off cap : Nat) (c : Array Value) (E : TypeId) (fr : Nat × Nat) (f : Nat → Nat → Value) :
      σ b = some (.cells c E fr) → es ≠ [] → es.length ≤ cap → (∀ (i : Nat) (e : List AV), es[i]? = some e → e.length = sz) →
      (∀ (i : Nat) (e : List AV) (j : Nat) (x : AV), es[i]? = some e → e[j]? = some x → c[off + (i * sz + j)]? = some (f i j)) →
      (∀ (i : Nat) (e : List AV) (j : Nat) (x : AV), es[i]? = some e → e[j]? = some x → VR σ x (f i j)) →
      VR σ (.im sz es) (.slice (some ⟨b, off, none⟩) es.length cap)
  | ip (cells : List AV) (b off : Nat) (c : Array Value) (E : TypeId) (fr : Nat × Nat) (f : Nat → Value) :
      σ b = some (.cells c E fr) → (∀ (j : Nat) (x : AV), cells[j]? = some x → c[off + j]? = some (f j)) → (∀ (j : Nat) (x : AV), cells[j]? = some x → VR σ x (f j)) →
      VR σ (.ip cells) (.pointer (some ⟨b, off, none⟩))
  | pt (v : Value) (sz j off b : Nat) : blk v = some b → VR σ (.pt v sz j off) (.pointer (some ⟨b, j * sz + off, none⟩))
  | z0 (a : Option Addr) : VR σ .z0 (.slice a 0 0)
  | agg (l : List AV) (arr : Array Value) (f : Nat → Value) : arr.size = l.length → (∀ (j : Nat) (x : AV), l[j]? = some x → arr[j]? = some (f j)) → (∀ (j : Nat) (x : AV), l[j]? = some x → VR σ x (f j)) → VR σ (.agg l) (.agg arr)
  | tup (l : List AV) (arr : Array Value) (f : Nat → Value) : arr.size = l.length → (∀ (j : Nat) (x : AV), l[j]? = some x → arr[j]? = some (f j)) → (∀ (j : Nat) (x : AV), l[j]? = some x → VR σ x (f j)) → VR σ (.tup l) (.tuple arr)
  | fn (g : Fn) (l k : List AV) (al ak : Array Value) (f h : Nat → Value) : al.size = l.length → ak.size = k.length →
      (∀ (j : Nat) (x : AV), l[j]? = some x → al[j]? = some (f j)) → (∀ (j : Nat) (x : AV), l[j]? = some x → VR σ x (f j)) →
      (∀ (j : Nat) (x : AV), k[j]? = some x → ak[j]? = some (h j)) → (∀ (j : Nat) (x : AV), k[j]? = some x → VR σ x (h j)) → VR σ (.fn g l k) (.func g al ak)

theorem VR.mono {σ τ : Hp} (h : σ.le τ) : ∀ {x : AV} {v : Value}, VR σ x v → VR τ x v := by
  intro x v hx
  induction hx with
  | any v => exact .any v
  | lit v => exact .lit v
  | imNil sz a cap => exact .imNil sz a cap
  | im sz es b off cap c E fr f h1 h2 h3 h4 h5 _ ih => exact .im sz es b off cap c E fr f (h _ _ h1) h2 h3 h4 h5 ih
  | ip cells b off c E fr f h1 h2 _ ih => exact .ip cells b off c E fr f (h _ _ h1) h2 ih
  | pt v sz j off b h1 => exact .pt v sz j off b h1
  | z0 a => exact .z0 a
  | agg l arr f h1 h2 _ ih => exact .agg l arr f h1 h2 ih
  | tup l arr f h1 h2 _ ih => exact .tup l arr f h1 h2 ih
  | fn g l k al ak f hh h1 h2 h3 _ h5 _ ih1 ih2 => exact .fn g l k al ak f hh h1 h2 h3 ih1 h5 ih2

/-- A list of trees and a list of values, one by one. -/
def VRs (σ : Hp) (l : List AV) (vs : List Value) : Prop := vs.length = l.length ∧ ∀ (j : Nat) (x : AV) (y : Value), l[j]? = some x → vs[j]? = some y → VR σ x y

theorem VRs.mono {σ τ : Hp} (h : σ.le τ) {l : List AV} {vs : List Value} (k : VRs σ l vs) : VRs τ l vs := ⟨k.1, fun j x y a b => (k.2 j x y a b).mono h⟩

theorem VRs.nil {σ : Hp} : VRs σ [] [] := ⟨rfl, fun j x y h => by simp at h⟩
theorem VRs.cons {σ : Hp} {x : AV} {y : Value} {l : List AV} {vs : List Value} (h : VR σ x y) (k : VRs σ l vs) : VRs σ (x :: l) (y :: vs) := by
  refine ⟨by simp [k.1], fun j a b ha hb => ?_⟩
  cases j with
  | zero => simp at ha hb; subst ha; subst hb; exact h
  | succ j => simp at ha hb; exact k.2 j a b ha hb
theorem VRs.cons_inv {σ : Hp} {x : AV} {l : List AV} {vs : List Value} (k : VRs σ (x :: l) vs) : ∃ y ys, vs = y :: ys ∧ VR σ x y ∧ VRs σ l ys := by
  obtain ⟨hl, hk⟩ := k
  cases vs with
  | nil => simp at hl
  | cons y ys => exact ⟨y, ys, rfl, hk 0 x y rfl rfl, by simpa using hl, fun j a b ha hb => hk (j + 1) a b (by simpa using ha) (by simpa using hb)⟩
theorem VRs.nil_inv {σ : Hp} {vs : List Value} (k : VRs σ [] vs) : vs = [] := by
  have := k.1; simpa using this
theorem VRs.append {σ : Hp} {l m : List AV} {vs us : List Value} (h : VRs σ l vs) (k : VRs σ m us) : VRs σ (l ++ m) (vs ++ us) := by
  refine ⟨by simp [h.1, k.1], fun j x y hx hy => ?_⟩
  by_cases hj : j < l.length
  · rw [List.getElem?_append_left hj] at hx
    rw [List.getElem?_append_left (by rw [h.1]; exact hj)] at hy
    exact h.2 j x y hx hy
  · rw [List.getElem?_append_right (by omega)] at hx
    rw [List.getElem?_append_right (by rw [h.1]; omega), h.1] at hy
    exact k.2 _ x y hx hy
theorem VRs.getD {σ : Hp} {l : List AV} {vs : List Value} (h : VRs σ l vs) (j : Nat) (d : Value) : VR σ (l.getD j .any) (vs.getD j d) := by
  simp only [List.getD_eq_getElem?_getD]
  cases hx : l[j]? with
  | none => exact .any _
  | some x =>
    have hj : j < vs.length := by rw [h.1]; exact (List.getElem?_eq_some_iff.1 hx).1
    rw [List.getElem?_eq_getElem hj]
    exact h.2 j x _ hx (List.getElem?_eq_getElem hj)
theorem VRs.get {σ : Hp} {l : List AV} {vs : List Value} (h : VRs σ l vs) {j : Nat} {x : AV} (hx : l[j]? = some x) : ∃ y, vs[j]? = some y ∧ VR σ x y := by
  have hj : j < vs.length := by rw [h.1]; exact (List.getElem?_eq_some_iff.1 hx).1
  exact ⟨_, List.getElem?_eq_getElem hj, h.2 j x _ hx (List.getElem?_eq_getElem hj)⟩
theorem VRs.take {σ : Hp} {l : List AV} {vs : List Value} (h : VRs σ l vs) (n : Nat) : VRs σ (l.take n) (vs.take n) := by
  refine ⟨by simp [h.1], fun j x y hx hy => ?_⟩
  rw [List.getElem?_take] at hx hy
  split at hx
  · rename_i hj; rw [if_pos hj] at hy; exact h.2 j x y hx hy
  · cases hx
theorem VRs.drop {σ : Hp} {l : List AV} {vs : List Value} (h : VRs σ l vs) (n : Nat) : VRs σ (l.drop n) (vs.drop n) := by
  refine ⟨by simp [h.1], fun j x y hx hy => ?_⟩
  rw [List.getElem?_drop] at hx hy
  exact h.2 _ x y hx hy
theorem VRs.set {σ : Hp} {l : List AV} {vs : List Value} (h : VRs σ l vs) (n : Nat) {x : AV} {y : Value} (k : VR σ x y) : VRs σ (l.set n x) (vs.set n y) := by
  refine ⟨by simp [h.1], fun j a b ha hb => ?_⟩
  rw [List.getElem?_set] at ha hb
  split at ha
  · rename_i hj; rw [if_pos hj] at hb
    split at ha
    · split at hb
      · cases ha; cases hb; exact k
      · cases hb
    · cases ha
  · rename_i hj; rw [if_neg hj] at hb; exact h.2 j a b ha hb

theorem VR.agg_of {σ : Hp} {l : List AV} {vs : List Value} (h : VRs σ l vs) : VR σ (.agg l) (.agg vs.toArray) := by
  refine .agg l _ (fun j => vs.getD j undef) (by simpa using h.1) (fun j x hx => ?_) (fun j x hx => ?_)
  · obtain ⟨y, hy, _⟩ := h.get hx
    simp [List.getD_eq_getElem?_getD, hy]
  · obtain ⟨y, hy, hv⟩ := h.get hx
    simpa [List.getD_eq_getElem?_getD, hy] using hv
theorem VR.agg_inv {σ : Hp} {l : List AV} {v : Value} (h : VR σ (.agg l) v) : ∃ vs : List Value, v = .agg vs.toArray ∧ VRs σ l vs := by
  cases h with
  | agg _ arr f h1 h2 h3 =>
    refine ⟨arr.toList, by simp, by simpa using h1, fun j x y hx hy => ?_⟩
    have := h2 j x hx
    simp at hy
    rw [this] at hy
    cases hy
    exact h3 j x hx
theorem VR.tup_of {σ : Hp} {l : List AV} {vs : List Value} (h : VRs σ l vs) : VR σ (.tup l) (.tuple vs.toArray) := by
  refine .tup l _ (fun j => vs.getD j undef) (by simpa using h.1) (fun j x hx => ?_) (fun j x hx => ?_)
  · obtain ⟨y, hy, _⟩ := h.get hx
    simp [List.getD_eq_getElem?_getD, hy]
  · obtain ⟨y, hy, hv⟩ := h.get hx
    simpa [List.getD_eq_getElem?_getD, hy] using hv
theorem VR.tup_inv {σ : Hp} {l : List AV} {v : Value} (h : VR σ (.tup l) v) : ∃ vs : List Value, v = .tuple vs.toArray ∧ VRs σ l vs := by
  cases h with
  | tup _ arr f h1 h2 h3 =>
    refine ⟨arr.toList, by simp, by simpa using h1, fun j x y hx hy => ?_⟩
    have := h2 j x hx
    simp at hy
    rw [this] at hy
    cases hy
    exact h3 j x hx
theorem VR.fn_of {σ : Hp} {g : Fn} {l k : List AV} {vs us : List Value} (h : VRs σ l vs) (h' : VRs σ k us) : VR σ (.fn g l k) (.func g vs.toArray us.toArray) := by
  refine .fn g l k _ _ (fun j => vs.getD j undef) (fun j => us.getD j undef) (by simpa using h.1) (by simpa using h'.1) (fun j x hx => ?_) (fun j x hx => ?_) (fun j x hx => ?_) (fun j x hx => ?_)
  · obtain ⟨y, hy, _⟩ := h.get hx
    simp [List.getD_eq_getElem?_getD, hy]
  · obtain ⟨y, hy, hv⟩ := h.get hx
    simpa [List.getD_eq_getElem?_getD, hy] using hv
  · obtain ⟨y, hy, _⟩ := h'.get hx
    simp [List.getD_eq_getElem?_getD, hy]
  · obtain ⟨y, hy, hv⟩ := h'.get hx
    simpa [List.getD_eq_getElem?_getD, hy] using hv
theorem VR.fn_inv {σ : Hp} {g : Fn} {l k : List AV} {v : Value} (h : VR σ (.fn g l k) v) : ∃ vs us : List Value, v = .func g vs.toArray us.toArray ∧ VRs σ l vs ∧ VRs σ k us := by
  cases h with
  | fn _ _ _ al ak f hh h1 h2 h3 h4 h5 h6 =>
    refine ⟨al.toList, ak.toList, by simp, ⟨by simpa using h1, fun j x y hx hy => ?_⟩, ⟨by simpa using h2, fun j x y hx hy => ?_⟩⟩
    · have := h3 j x hx
      simp at hy
      rw [this] at hy
      cases hy
      exact h4 j x hx
    · have := h5 j x hx
      simp at hy
      rw [this] at hy
      cases hy
      exact h6 j x hx
theorem VR.lit_inv {σ : Hp} {u v : Value} (h : VR σ (.lit u) v) : v = u := by cases h; rfl

/-- A tree that one cell can hold. -/
def AV.cell : AV → Bool
  | .lit v => v.oneCell'
  | .im _ _ | .ip _ | .pt _ _ _ _ | .fn _ _ _ | .z0 => true
  | _ => false
theorem VR.cell {σ : Hp} {x : AV} {v : Value} (h : VR σ x v) (hc : x.cell = true) : v.oneCell' = true := by
  cases h <;> first | exact hc | rfl | cases hc

/-- The cells of a tree that is stored. -/
def AV.cells : AV → List AV
  | .agg l => l
  | x => [x]
theorem VR.cells {σ : Hp} {x : AV} {v : Value} (h : VR σ x v) (hx : x.cell = true ∨ ∃ l, x = .agg l) : VRs σ x.cells v.cells.toList := by
  rcases hx with hx | ⟨l, rfl⟩
  · have hv : v.cells = #[v] := by
      have := h.cell hx
      cases v <;> first | rfl | cases this
    have hc : x.cells = [x] := by cases x <;> first | rfl | cases hx
    rw [hv, hc]
    exact .cons h .nil
  · obtain ⟨vs, rfl, hvs⟩ := h.agg_inv
    simpa [AV.cells, Value.cells] using hvs

/-- A value that the text writes out. -/
def ofV : Value → AV
  | .agg cs => .agg (cs.toList.map .lit)
  | .tuple cs => .tup (cs.toList.map .lit)
  | v => .lit v
theorem VRs.lits {σ : Hp} (l : List Value) : VRs σ (l.map .lit) l := by
  refine ⟨by simp, fun j x y hx hy => ?_⟩
  simp [hy] at hx
  subst hx
  exact .lit y
theorem VR.ofV {σ : Hp} (v : Value) : VR σ (ofV v) v := by
  cases v <;> first
    | exact .lit _
    | (rename_i cs; have := VR.agg_of (VRs.lits (σ := σ) cs.toList); simpa [Sj.ofV] using this)
    | (rename_i cs; have := VR.tup_of (VRs.lits (σ := σ) cs.toList); simpa [Sj.ofV] using this)

/-! ### What the call owns -/

inductive OB where
  | row (E sz : Nat) (es : List (List AV))
  | box (cells : List AV)
  | mp (m : List (List Int × Int))

abbrev Own := List (Value × OB)

/-- The elements of a row, as its cells have them. -/
def RowR (σ : Hp) (sz : Nat) (es : List (List AV)) (xs : List Value) : Prop := (∀ e ∈ es, e.length = sz) ∧ VRs σ es.flatten xs

/-- The value of an owned row: empty and without room, or at the head of a block. -/
def RowV (w : World) (E sz : Nat) (v : Value) (n : Nat) (xs : List Value) : Prop :=
  (n = 0 ∧ ∃ a, v = .slice a 0 0) ∨
  ∃ g cap cur, v = .slice (some ⟨g, 0, none⟩) n cap ∧ 0 < cap ∧ w.heap[g]? = some (.cells cur E (0, 0)) ∧ n ≤ cap ∧ cap ≤ maxLen ∧ cur.size = cap * sz ∧ cur.toList.take (n * sz) = xs

def Own1 (σ : Hp) (w : World) : Value × OB → Prop
  | (v, .row E sz es) => ∃ xs, RowV w E sz v es.length xs ∧ RowR σ sz es xs
  | (v, .box cells) => ∃ b c E, v = .pointer (some ⟨b, 0, none⟩) ∧ w.heap[b]? = some (.cells c E (0, 0)) ∧ VRs σ cells c.toList
  | (v, .mp m) => ∃ b es clock, v = .map (some b) ∧ w.heap[b]? = some (.map es clock) ∧ es.toList.map (fun e => (e.key, e.val)) = m.map fun p => (.agg (p.1.map (Value.int .i64)).toArray, .int .i64 p.2)

structure Fr where
  h : Hp
  os : Os
  out : Array (Nat × ByteArray)

structure HRel (σ : Hp) (L : Own) (F : Fr) (w : World) : Prop where
  agree : Agree σ w
  frame : Agree F.h w
  os : w.os = F.os
  out : w.output = F.out
  own : ∀ p ∈ L, Own1 σ w p
  sep : ∀ b o, σ b = some o → F.h b = none
  nodup : (L.filterMap (blk ∘ Prod.fst)).Nodup
  apart : ∀ b ∈ L.filterMap (blk ∘ Prod.fst), σ b = none ∧ F.h b = none

theorem Own1.mono {σ τ : Hp} {w : World} {p : Value × OB} (h : σ.le τ) (k : Own1 σ w p) : Own1 τ w p := by
  obtain ⟨v, ob⟩ := p
  cases ob with
  | row E sz es => obtain ⟨xs, h1, h2, h3⟩ := k; exact ⟨xs, h1, h2, h3.mono h⟩
  | box cells => obtain ⟨b, c, E, h1, h2, h3⟩ := k; exact ⟨b, c, E, h1, h2, h3.mono h⟩
  | mp m => exact k

/-- The block of an owned thing lies in the heap. -/
theorem Own1.lt {σ : Hp} {w : World} {v : Value} {ob : OB} (k : Own1 σ w (v, ob)) {b : Nat} (hb : blk v = some b) : b < w.heap.size := by
  cases ob with
  | row E sz es =>
    obtain ⟨xs, h1, _⟩ := k
    rcases h1 with ⟨_, a, rfl⟩ | ⟨g, cap, cur, rfl, h0, hg, _⟩
    · cases a <;> simp [blk] at hb
    · simp [blk, Nat.pos_iff_ne_zero.1 h0] at hb; subst hb; exact (Array.getElem?_eq_some_iff.1 hg).1
  | box cells =>
    obtain ⟨g, c, E, rfl, hg, _⟩ := k
    simp [blk] at hb; subst hb; exact (Array.getElem?_eq_some_iff.1 hg).1
  | mp m =>
    obtain ⟨g, es, clock, rfl, hg, _⟩ := k
    simp [blk] at hb; subst hb; exact (Array.getElem?_eq_some_iff.1 hg).1

/-- An owned thing, in a world that has its block as it was. -/
theorem Own1.kept {σ : Hp} {w w' : World} {v : Value} {ob : OB} (k : Own1 σ w (v, ob)) (h : ∀ b, blk v = some b → w'.heap[b]? = w.heap[b]?) : Own1 σ w' (v, ob) := by
  cases ob with
  | row E sz es =>
    obtain ⟨xs, h1, h2⟩ := k
    refine ⟨xs, ?_, h2⟩
    rcases h1 with h3 | ⟨g, cap, cur, rfl, h0, hg, rest⟩
    · exact .inl h3
    · exact .inr ⟨g, cap, cur, rfl, h0, by rw [h g (by simp [blk, Nat.pos_iff_ne_zero.1 h0])]; exact hg, rest⟩
  | box cells =>
    obtain ⟨g, c, E, rfl, hg, h3⟩ := k
    exact ⟨g, c, E, rfl, by rw [h g rfl]; exact hg, h3⟩
  | mp m =>
    obtain ⟨g, es, clock, rfl, hg, h3⟩ := k
    exact ⟨g, es, clock, rfl, by rw [h g rfl]; exact hg, h3⟩

theorem HRel.none_of_new {σ : Hp} {L : Own} {F : Fr} {w : World} (h : HRel σ L F w) {b : Nat} (hb : w.heap.size ≤ b) : σ b = none ∧ F.h b = none := by
  have hn : w.heap[b]? = none := by simp; exact hb
  refine ⟨?_, ?_⟩
  · cases e : σ b with
    | none => rfl
    | some o => have := h.agree b o e; rw [hn] at this; cases this
  · cases e : F.h b with
    | none => rfl
    | some o => have := h.frame b o e; rw [hn] at this; cases this

/-- What is no longer said to be owned is forgotten. -/
theorem HRel.sub {σ : Hp} {L M : Own} {F : Fr} {w : World} (h : HRel σ L F w) (hs : List.Sublist M L) : HRel σ M F w :=
  ⟨h.agree, h.frame, h.os, h.out, fun p hp => h.own p (hs.subset hp), h.sep, h.nodup.sublist (hs.filterMap _), fun b hb => h.apart b ((hs.filterMap _).subset hb)⟩

theorem HRel.perm {σ : Hp} {L M : Own} {F : Fr} {w : World} (h : HRel σ L F w) (hp : List.Perm L M) : HRel σ M F w :=
  ⟨h.agree, h.frame, h.os, h.out, fun p hp' => h.own p (hp.mem_iff.2 hp'), h.sep, (hp.filterMap _).nodup_iff.1 h.nodup, fun b hb => h.apart b ((hp.filterMap _).mem_iff.2 hb)⟩

/-- A block that the world has gained and that this call owns. -/
theorem HRel.new {σ : Hp} {L : Own} {F : Fr} {w w' : World} (h : HRel σ L F w) {v : Value} {ob : OB} {b : Nat} (hv : blk v = some b) (hb : w.heap.size ≤ b)
    (hk : ∀ i, i < w.heap.size → w'.heap[i]? = w.heap[i]?) (ho : w'.os = w.os) (hout : w'.output = w.output) (hown : Own1 σ w' (v, ob)) : HRel σ ((v, ob) :: L) F w' := by
  have hkeep : ∀ i o, w.heap[i]? = some o → w'.heap[i]? = some o := fun i o e => by rw [hk i (Array.getElem?_eq_some_iff.1 e).1]; exact e
  refine ⟨fun i o e => hkeep i o (h.agree i o e), fun i o e => hkeep i o (h.frame i o e), ho.trans h.os, hout.trans h.out, ?_, h.sep, ?_, ?_⟩
  · intro p hp
    rcases List.mem_cons.1 hp with rfl | hp
    · exact hown
    · exact (h.own p hp).kept (v := p.1) (ob := p.2) fun i hi => hk i ((h.own p hp).lt (v := p.1) (ob := p.2) hi)
  · have e : ((v, ob) :: L).filterMap (blk ∘ Prod.fst) = b :: L.filterMap (blk ∘ Prod.fst) := by simp [hv]
    rw [e]
    refine List.nodup_cons.2 ⟨fun hm => ?_, h.nodup⟩
    obtain ⟨p, hp, hpb⟩ := List.mem_filterMap.1 hm
    have := (h.own p hp).lt (v := p.1) (ob := p.2) hpb
    omega
  · have e : ((v, ob) :: L).filterMap (blk ∘ Prod.fst) = b :: L.filterMap (blk ∘ Prod.fst) := by simp [hv]
    rw [e]
    intro i hi
    rcases List.mem_cons.1 hi with rfl | hi
    · exact h.none_of_new hb
    · exact h.apart i hi

/-- The same, nothing gained that is owned. -/
theorem HRel.grow {σ : Hp} {L : Own} {F : Fr} {w w' : World} (h : HRel σ L F w) (hk : ∀ i, i < w.heap.size → w'.heap[i]? = w.heap[i]?) (ho : w'.os = w.os) (hout : w'.output = w.output) : HRel σ L F w' := by
  have hkeep : ∀ i o, w.heap[i]? = some o → w'.heap[i]? = some o := fun i o e => by rw [hk i (Array.getElem?_eq_some_iff.1 e).1]; exact e
  exact ⟨fun i o e => hkeep i o (h.agree i o e), fun i o e => hkeep i o (h.frame i o e), ho.trans h.os, hout.trans h.out,
    fun p hp => (h.own p hp).kept (v := p.1) (ob := p.2) fun i hi => hk i ((h.own p hp).lt (v := p.1) (ob := p.2) hi), h.sep, h.nodup, h.apart⟩

/-- The head of what is owned is written: its block may have turned, or be another, new one. -/
theorem HRel.write {σ : Hp} {L : Own} {F : Fr} {w w' : World} {v v' : Value} {ob ob' : OB} (h : HRel σ ((v, ob) :: L) F w)
    (hsz : w.heap.size ≤ w'.heap.size) (hk : ∀ i, i < w.heap.size → some i ≠ blk v → w'.heap[i]? = w.heap[i]?) (ho : w'.os = w.os) (hout : w'.output = w.output)
    (hv : ∀ b, blk v' = some b → blk v = some b ∨ w.heap.size ≤ b) (hown : Own1 σ w' (v', ob')) : HRel σ ((v', ob') :: L) F w' := by
  have hne : ∀ i o, (σ i = some o ∨ F.h i = some o) → some i ≠ blk v := by
    intro i o ho hi
    have := h.apart i (List.mem_filterMap.2 ⟨(v, ob), by simp, hi.symm⟩)
    rcases ho with ho | ho
    · rw [this.1] at ho; cases ho
    · rw [this.2] at ho; cases ho
  have hkeep : ∀ i o, (σ i = some o ∨ F.h i = some o) → w.heap[i]? = some o → w'.heap[i]? = some o := fun i o hs e => by
    rw [hk i (Array.getElem?_eq_some_iff.1 e).1 (hne i o hs)]; exact e
  have hL : ∀ p ∈ L, ∀ b, blk p.1 = some b → blk v ≠ some b := by
    intro p hp b hb hvb
    have hn := h.nodup
    have e : ((v, ob) :: L).filterMap (blk ∘ Prod.fst) = b :: L.filterMap (blk ∘ Prod.fst) := by simp [hvb]
    rw [e] at hn
    exact (List.nodup_cons.1 hn).1 (List.mem_filterMap.2 ⟨p, hp, hb⟩)
  refine ⟨fun i o e => hkeep i o (.inl e) (h.agree i o e), fun i o e => hkeep i o (.inr e) (h.frame i o e), ho.trans h.os, hout.trans h.out, ?_, h.sep, ?_, ?_⟩
  · intro p hp
    rcases List.mem_cons.1 hp with rfl | hp'
    · exact hown
    · have hop := h.own p (List.mem_cons_of_mem _ hp')
      exact hop.kept (v := p.1) (ob := p.2) fun i hi => hk i (hop.lt (v := p.1) (ob := p.2) hi) (fun e => hL p hp' i hi e.symm)
  · cases hb : blk v' with
    | none =>
      have e : ((v', ob') :: L).filterMap (blk ∘ Prod.fst) = L.filterMap (blk ∘ Prod.fst) := by simp [hb]
      rw [e]
      exact h.nodup.sublist ((List.sublist_cons_self _ _).filterMap _)
    | some b =>
      have e : ((v', ob') :: L).filterMap (blk ∘ Prod.fst) = b :: L.filterMap (blk ∘ Prod.fst) := by simp [hb]
      rw [e]
      refine List.nodup_cons.2 ⟨fun hm => ?_, h.nodup.sublist ((List.sublist_cons_self _ _).filterMap _)⟩
      obtain ⟨p, hp, hpb⟩ := List.mem_filterMap.1 hm
      rcases hv b hb with h1 | h1
      · exact hL p hp b hpb h1
      · have := (h.own p (List.mem_cons_of_mem _ hp)).lt (v := p.1) (ob := p.2) hpb
        omega
  · intro b hb
    obtain ⟨p, hp, hpb⟩ := List.mem_filterMap.1 hb
    rcases List.mem_cons.1 hp with rfl | hp'
    · rcases hv b hpb with h1 | h1
      · exact h.apart b (List.mem_filterMap.2 ⟨(v, ob), by simp, h1⟩)
      · exact h.none_of_new h1
    · exact h.apart b (List.mem_filterMap.2 ⟨p, List.mem_cons_of_mem _ hp', hpb⟩)

/-- An empty row without room is owned for nothing. -/
theorem HRel.nil {σ : Hp} {L : Own} {F : Fr} {w : World} (h : HRel σ L F w) (E sz : Nat) (a : Option Addr) : HRel σ ((.slice a 0 0, .row E sz []) :: L) F w := by
  have hb : blk (.slice a 0 0) = none := by cases a <;> simp [blk]
  refine ⟨h.agree, h.frame, h.os, h.out, fun p hp => ?_, h.sep, ?_, ?_⟩
  · rcases List.mem_cons.1 hp with rfl | hp
    · exact ⟨[], .inl ⟨rfl, a, rfl⟩, by simp, .nil⟩
    · exact h.own p hp
  · simpa [hb] using h.nodup
  · simpa [hb] using h.apart

/-- Part of what is owned; an empty row without room is owned for nothing. -/
inductive OSub : Own → Own → Prop
  | nil : OSub [] []
  | drop {M L : Own} {p : Value × OB} : OSub M L → OSub M (p :: L)
  | keep {M L : Own} {p : Value × OB} : OSub M L → OSub (p :: M) (p :: L)
  | free {M L : Own} {E sz : Nat} {a : Option Addr} : OSub M L → OSub ((.slice a 0 0, .row E sz []) :: M) L
theorem OSub.refl : ∀ L : Own, OSub L L
  | [] => .nil
  | _ :: L => .keep (OSub.refl L)
theorem OSub.none : ∀ L : Own, OSub [] L
  | [] => .nil
  | _ :: L => .drop (OSub.none L)

/-- What is owned, but for the entries that cost nothing, is a part in order. -/
theorem OSub.hrel {σ : Hp} {F : Fr} {w : World} {M L : Own} (h : OSub M L) : ∀ {K : Own}, HRel σ (K ++ L) F w → HRel σ (K ++ M) F w := by
  induction h with
  | nil => intro K h; exact h
  | drop _ ih =>
    intro K h
    exact ih (h.sub (by simp))
  | @keep M L p _ ih =>
    intro K h
    have := ih (K := K ++ [p]) (by simpa using h)
    simpa using this
  | @free M L E sz a _ ih =>
    intro K h
    have := (ih h).nil E sz a
    exact this.perm List.perm_middle.symm
theorem HRel.osub {σ : Hp} {F : Fr} {w : World} {M L : Own} (h : HRel σ L F w) (k : OSub M L) : HRel σ M F w := k.hrel (K := []) h

end Go.Sj
