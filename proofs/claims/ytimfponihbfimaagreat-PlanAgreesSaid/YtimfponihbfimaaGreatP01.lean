/- Parts of a proof. -/
import Derived.WalkKit
import Derived.WalkSpells
import Derived.WalkLawsBesides
import Derived.Deep.Draws
import Derived.Orders
import Derived.Still
set_option linter.unusedVariables false
set_option linter.unusedSimpArgs false
section
namespace Go.Sj
inductive AV where
  | any
  | lit (v : Value)
  | im (sz : Nat) (es : List (List AV))
  | ip (cells : List AV)
  | pt (v : Value) (sz j off : Nat)
  | z0
  | agg (l : List AV)
  | tup (l : List AV)
  | fn (f : Fn) (first caps : List AV)
abbrev Hp := Nat → Option Obj
def Hp.le (s t : Hp) : Prop := ∀ b o, s b = some o → t b = some o
theorem Hp.le_refl (s : Hp) : s.le s := fun _ _ h => h
theorem Hp.le_trans {s t u : Hp} (h : s.le t) (k : t.le u) : s.le u := fun b o e => k b o (h b o e)
def Agree (s : Hp) (w : World) : Prop := ∀ b o, s b = some o → w.heap[b]? = some o
theorem Agree.mono {s t : Hp} {w : World} (h : Agree t w) (k : s.le t) : Agree s w := fun b o e => h b o (k b o e)
def blk : Value → Option Nat
  | .slice (some a) _ cap => if cap = 0 then none else some a.block
  | .pointer (some a) => some a.block
  | .map (some b) => some b
  | _ => none
inductive VR (σ : Hp) : AV → Value → Prop
  | any (v : Value) : VR σ .any v
  | lit (v : Value) : VR σ (.lit v) v
  | imNil (sz : Nat) (a : Option Addr) (cap : Nat) : VR σ (.im sz []) (.slice a 0 cap)
  | im (sz : Nat) (es : List (List AV)) (b off cap : Nat) (c : Array Value) (E : TypeId) (fr : Nat × Nat) (f : Nat → Nat → Value) :
      σ b = some (.cells c E fr) → es ≠ [] → es.length ≤ cap → (∀ (i : Nat) (e : List AV), es[i]? = some e → e.length = sz) →
      (∀ (i : Nat) (e : List AV) (j : Nat) (x : AV), es[i]? = some e → e[j]? = some x → c[off + (i * sz + j)]? = some (f i j)) →
      (∀ (i : Nat) (e : List AV) (j : Nat) (x : AV), es[i]? = some e → e[j]? = some x → VR σ x (f i j)) →
      VR σ (.im sz es) (.slice (some ⟨b, off, none⟩) es.length cap)
  | ip (cells : List AV) (b off : Nat) (c : Array Value) (E : TypeId) (fr : Nat × Nat) (f : Nat → Value) :
      σ b = some (.cells c E fr) → (∀ (j : Nat) (x : AV), cells[j]? = some x → c[off + j]? = some (f j)) → (∀ (j : Nat) (x : AV), cells[j]? = some x → VR σ x (f j)) →
      VR σ (.ip cells) (.pointer (some ⟨b, off, none⟩))
  | pt (v : Value) (sz j off b : Nat) : blk v = some b → VR σ (.pt v sz j off) (.pointer (some ⟨b, j * sz + off, none⟩))
  | z0 (a : Option Addr) : VR σ .z0 (.slice a 0 0)
  | agg (l : List AV) (arr : Array Value) (f : Nat → Value) : arr.size = l.length → (∀ (j : Nat) (x : AV), l[j]? = some x → arr[j]? = some (f j)) → (∀ (j : Nat) (x : AV), l[j]? = some x → VR σ x (f j)) → VR σ (.agg l) (.agg arr)
  | tup (l : List AV) (arr : Array Value) (f : Nat → Value) : arr.size = l.length → (∀ (j : Nat) (x : AV), l[j]? = some x → arr[j]? = some (f j)) → (∀ (j : Nat) (x : AV), l[j]? = some x → VR σ x (f j)) → VR σ (.tup l) (.tuple arr)
  | fn (g : Fn) (l k : List AV) (al ak : Array Value) (f h : Nat → Value) : al.size = l.length → ak.size = k.length →
      (∀ (j : Nat) (x : AV), l[j]? = some x → al[j]? = some (f j)) → (∀ (j : Nat) (x : AV), l[j]? = some x → VR σ x (f j)) →
      (∀ (j : Nat) (x : AV), k[j]? = some x → ak[j]? = some (h j)) → (∀ (j : Nat) (x : AV), k[j]? = some x → VR σ x (h j)) → VR σ (.fn g l k) (.func g al ak)
theorem VR.mono {σ τ : Hp} (h : σ.le τ) : ∀ {x : AV} {v : Value}, VR σ x v → VR τ x v := by
  intro x v hx
  induction hx with
  | any v => exact .any v
  | lit v => exact .lit v
  | imNil sz a cap => exact .imNil sz a cap
  | im sz es b off cap c E fr f h1 h2 h3 h4 h5 _ ih => exact .im sz es b off cap c E fr f (h _ _ h1) h2 h3 h4 h5 ih
  | ip cells b off c E fr f h1 h2 _ ih => exact .ip cells b off c E fr f (h _ _ h1) h2 ih
  | pt v sz j off b h1 => exact .pt v sz j off b h1
  | z0 a => exact .z0 a
  | agg l arr f h1 h2 _ ih => exact .agg l arr f h1 h2 ih
  | tup l arr f h1 h2 _ ih => exact .tup l arr f h1 h2 ih
  | fn g l k al ak f hh h1 h2 h3 _ h5 _ ih1 ih2 => exact .fn g l k al ak f hh h1 h2 h3 ih1 h5 ih2
def VRs (σ : Hp) (l : List AV) (vs : List Value) : Prop := vs.length = l.length ∧ ∀ (j : Nat) (x : AV) (y : Value), l[j]? = some x → vs[j]? = some y → VR σ x y
theorem VRs.mono {σ τ : Hp} (h : σ.le τ) {l : List AV} {vs : List Value} (k : VRs σ l vs) : VRs τ l vs := ⟨k.1, fun j x y a b => (k.2 j x y a b).mono h⟩
theorem VRs.nil {σ : Hp} : VRs σ [] [] := ⟨rfl, fun j x y h => by simp at h⟩
theorem VRs.cons {σ : Hp} {x : AV} {y : Value} {l : List AV} {vs : List Value} (h : VR σ x y) (k : VRs σ l vs) : VRs σ (x :: l) (y :: vs) := by
  refine ⟨by simp [k.1], fun j a b ha hb => ?_⟩
  cases j with
  | zero => simp at ha hb; subst ha; subst hb; exact h
  | succ j => simp at ha hb; exact k.2 j a b ha hb
theorem VRs.cons_inv {σ : Hp} {x : AV} {l : List AV} {vs : List Value} (k : VRs σ (x :: l) vs) : ∃ y ys, vs = y :: ys ∧ VR σ x y ∧ VRs σ l ys := by
  obtain ⟨hl, hk⟩ := k
  cases vs with
  | nil => simp at hl
  | cons y ys => exact ⟨y, ys, rfl, hk 0 x y rfl rfl, by simpa using hl, fun j a b ha hb => hk (j + 1) a b (by simpa using ha) (by simpa using hb)⟩
theorem VRs.nil_inv {σ : Hp} {vs : List Value} (k : VRs σ [] vs) : vs = [] := by
  have := k.1; simpa using this
theorem VRs.append {σ : Hp} {l m : List AV} {vs us : List Value} (h : VRs σ l vs) (k : VRs σ m us) : VRs σ (l ++ m) (vs ++ us) := by
  refine ⟨by simp [h.1, k.1], fun j x y hx hy => ?_⟩
  by_cases hj : j < l.length
  · rw [List.getElem?_append_left hj] at hx
    rw [List.getElem?_append_left (by rw [h.1]; exact hj)] at hy
    exact h.2 j x y hx hy
  · rw [List.getElem?_append_right (by omega)] at hx
    rw [List.getElem?_append_right (by rw [h.1]; omega), h.1] at hy
    exact k.2 _ x y hx hy
theorem VRs.getD {σ : Hp} {l : List AV} {vs : List Value} (h : VRs σ l vs) (j : Nat) (d : Value) : VR σ (l.getD j .any) (vs.getD j d) := by
  simp only [List.getD_eq_getElem?_getD]
  cases hx : l[j]? with
  | none => exact .any _
  | some x =>
    have hj : j < vs.length := by rw [h.1]; exact (List.getElem?_eq_some_iff.1 hx).1
    rw [List.getElem?_eq_getElem hj]
    exact h.2 j x _ hx (List.getElem?_eq_getElem hj)
theorem VRs.get {σ : Hp} {l : List AV} {vs : List Value} (h : VRs σ l vs) {j : Nat} {x : AV} (hx : l[j]? = some x) : ∃ y, vs[j]? = some y ∧ VR σ x y := by
  have hj : j < vs.length := by rw [h.1]; exact (List.getElem?_eq_some_iff.1 hx).1
  exact ⟨_, List.getElem?_eq_getElem hj, h.2 j x _ hx (List.getElem?_eq_getElem hj)⟩
theorem VRs.take {σ : Hp} {l : List AV} {vs : List Value} (h : VRs σ l vs) (n : Nat) : VRs σ (l.take n) (vs.take n) := by
  refine ⟨by simp [h.1], fun j x y hx hy => ?_⟩
  rw [List.getElem?_take] at hx hy
  split at hx
  · rename_i hj; rw [if_pos hj] at hy; exact h.2 j x y hx hy
  · cases hx
theorem VRs.drop {σ : Hp} {l : List AV} {vs : List Value} (h : VRs σ l vs) (n : Nat) : VRs σ (l.drop n) (vs.drop n) := by
  refine ⟨by simp [h.1], fun j x y hx hy => ?_⟩
  rw [List.getElem?_drop] at hx hy
  exact h.2 _ x y hx hy
theorem VRs.set {σ : Hp} {l : List AV} {vs : List Value} (h : VRs σ l vs) (n : Nat) {x : AV} {y : Value} (k : VR σ x y) : VRs σ (l.set n x) (vs.set n y) := by
  refine ⟨by simp [h.1], fun j a b ha hb => ?_⟩
  rw [List.getElem?_set] at ha hb
  split at ha
  · rename_i hj; rw [if_pos hj] at hb
    split at ha
    · split at hb
      · cases ha; cases hb; exact k
      · cases hb
    · cases ha
  · rename_i hj; rw [if_neg hj] at hb; exact h.2 j a b ha hb
theorem VR.agg_of {σ : Hp} {l : List AV} {vs : List Value} (h : VRs σ l vs) : VR σ (.agg l) (.agg vs.toArray) := by
  refine .agg l _ (fun j => vs.getD j undef) (by simpa using h.1) (fun j x hx => ?_) (fun j x hx => ?_)
  · obtain ⟨y, hy, _⟩ := h.get hx
    simp [List.getD_eq_getElem?_getD, hy]
  · obtain ⟨y, hy, hv⟩ := h.get hx
    simpa [List.getD_eq_getElem?_getD, hy] using hv
theorem VR.agg_inv {σ : Hp} {l : List AV} {v : Value} (h : VR σ (.agg l) v) : ∃ vs : List Value, v = .agg vs.toArray ∧ VRs σ l vs := by
  cases h with
  | agg _ arr f h1 h2 h3 =>
    refine ⟨arr.toList, by simp, by simpa using h1, fun j x y hx hy => ?_⟩
    have := h2 j x hx
    simp at hy
    rw [this] at hy
    cases hy
    exact h3 j x hx
theorem VR.tup_of {σ : Hp} {l : List AV} {vs : List Value} (h : VRs σ l vs) : VR σ (.tup l) (.tuple vs.toArray) := by
  refine .tup l _ (fun j => vs.getD j undef) (by simpa using h.1) (fun j x hx => ?_) (fun j x hx => ?_)
  · obtain ⟨y, hy, _⟩ := h.get hx
    simp [List.getD_eq_getElem?_getD, hy]
  · obtain ⟨y, hy, hv⟩ := h.get hx
    simpa [List.getD_eq_getElem?_getD, hy] using hv
theorem VR.tup_inv {σ : Hp} {l : List AV} {v : Value} (h : VR σ (.tup l) v) : ∃ vs : List Value, v = .tuple vs.toArray ∧ VRs σ l vs := by
  cases h with
  | tup _ arr f h1 h2 h3 =>
    refine ⟨arr.toList, by simp, by simpa using h1, fun j x y hx hy => ?_⟩
    have := h2 j x hx
    simp at hy
    rw [this] at hy
    cases hy
    exact h3 j x hx
theorem VR.fn_of {σ : Hp} {g : Fn} {l k : List AV} {vs us : List Value} (h : VRs σ l vs) (h' : VRs σ k us) : VR σ (.fn g l k) (.func g vs.toArray us.toArray) := by
  refine .fn g l k _ _ (fun j => vs.getD j undef) (fun j => us.getD j undef) (by simpa using h.1) (by simpa using h'.1) (fun j x hx => ?_) (fun j x hx => ?_) (fun j x hx => ?_) (fun j x hx => ?_)
  · obtain ⟨y, hy, _⟩ := h.get hx
    simp [List.getD_eq_getElem?_getD, hy]
  · obtain ⟨y, hy, hv⟩ := h.get hx
    simpa [List.getD_eq_getElem?_getD, hy] using hv
  · obtain ⟨y, hy, _⟩ := h'.get hx
    simp [List.getD_eq_getElem?_getD, hy]
  · obtain ⟨y, hy, hv⟩ := h'.get hx
    simpa [List.getD_eq_getElem?_getD, hy] using hv
theorem VR.fn_inv {σ : Hp} {g : Fn} {l k : List AV} {v : Value} (h : VR σ (.fn g l k) v) : ∃ vs us : List Value, v = .func g vs.toArray us.toArray ∧ VRs σ l vs ∧ VRs σ k us := by
  cases h with
  | fn _ _ _ al ak f hh h1 h2 h3 h4 h5 h6 =>
    refine ⟨al.toList, ak.toList, by simp, ⟨by simpa using h1, fun j x y hx hy => ?_⟩, ⟨by simpa using h2, fun j x y hx hy => ?_⟩⟩
    · have := h3 j x hx
      simp at hy
      rw [this] at hy
      cases hy
      exact h4 j x hx
    · have := h5 j x hx
      simp at hy
      rw [this] at hy
      cases hy
      exact h6 j x hx
theorem VR.lit_inv {σ : Hp} {u v : Value} (h : VR σ (.lit u) v) : v = u := by cases h; rfl
def AV.cell : AV → Bool
  | .lit v => v.oneCell'
  | .im _ _ | .ip _ | .pt _ _ _ _ | .fn _ _ _ | .z0 => true
  | _ => false
theorem VR.cell {σ : Hp} {x : AV} {v : Value} (h : VR σ x v) (hc : x.cell = true) : v.oneCell' = true := by
  cases h <;> first | exact hc | rfl | cases hc
def AV.cells : AV → List AV
  | .agg l => l
  | x => [x]
theorem VR.cells {σ : Hp} {x : AV} {v : Value} (h : VR σ x v) (hx : x.cell = true ∨ ∃ l, x = .agg l) : VRs σ x.cells v.cells.toList := by
  rcases hx with hx | ⟨l, rfl⟩
  · have hv : v.cells = #[v] := by
      have := h.cell hx
      cases v <;> first | rfl | cases this
    have hc : x.cells = [x] := by cases x <;> first | rfl | cases hx
    rw [hv, hc]
    exact .cons h .nil
  · obtain ⟨vs, rfl, hvs⟩ := h.agg_inv
    simpa [AV.cells, Value.cells] using hvs
def ofV : Value → AV
  | .agg cs => .agg (cs.toList.map .lit)
  | .tuple cs => .tup (cs.toList.map .lit)
  | v => .lit v
theorem VRs.lits {σ : Hp} (l : List Value) : VRs σ (l.map .lit) l := by
  refine ⟨by simp, fun j x y hx hy => ?_⟩
  simp [hy] at hx
  subst hx
  exact .lit y
theorem VR.ofV {σ : Hp} (v : Value) : VR σ (ofV v) v := by
  cases v <;> first
    | exact .lit _
    | (rename_i cs; have := VR.agg_of (VRs.lits (σ := σ) cs.toList); simpa [Sj.ofV] using this)
    | (rename_i cs; have := VR.tup_of (VRs.lits (σ := σ) cs.toList); simpa [Sj.ofV] using this)
inductive OB where
  | row (E sz : Nat) (es : List (List AV))
  | box (cells : List AV)
  | mp (m : List (List Int × Int))
abbrev Own := List (Value × OB)
def RowR (σ : Hp) (sz : Nat) (es : List (List AV)) (xs : List Value) : Prop := (∀ e ∈ es, e.length = sz) ∧ VRs σ es.flatten xs
def RowV (w : World) (E sz : Nat) (v : Value) (n : Nat) (xs : List Value) : Prop :=
  (n = 0 ∧ ∃ a, v = .slice a 0 0) ∨
  ∃ g cap cur, v = .slice (some ⟨g, 0, none⟩) n cap ∧ 0 < cap ∧ w.heap[g]? = some (.cells cur E (0, 0)) ∧ n ≤ cap ∧ cap ≤ maxLen ∧ cur.size = cap * sz ∧ cur.toList.take (n * sz) = xs
def Own1 (σ : Hp) (w : World) : Value × OB → Prop
  | (v, .row E sz es) => ∃ xs, RowV w E sz v es.length xs ∧ RowR σ sz es xs
  | (v, .box cells) => ∃ b c E, v = .pointer (some ⟨b, 0, none⟩) ∧ w.heap[b]? = some (.cells c E (0, 0)) ∧ VRs σ cells c.toList
  | (v, .mp m) => ∃ b es clock, v = .map (some b) ∧ w.heap[b]? = some (.map es clock) ∧ es.toList.map (fun e => (e.key, e.val)) = m.map fun p => (.agg (p.1.map (Value.int .i64)).toArray, .int .i64 p.2)
structure Fr where
  h : Hp
  os : Os
  out : Array (Nat × ByteArray)
structure HRel (σ : Hp) (L : Own) (F : Fr) (w : World) : Prop where
  agree : Agree σ w
  frame : Agree F.h w
  os : w.os = F.os
  out : w.output = F.out
  own : ∀ p ∈ L, Own1 σ w p
  sep : ∀ b o, σ b = some o → F.h b = none
  nodup : (L.filterMap (blk ∘ Prod.fst)).Nodup
  apart : ∀ b ∈ L.filterMap (blk ∘ Prod.fst), σ b = none ∧ F.h b = none
theorem Own1.mono {σ τ : Hp} {w : World} {p : Value × OB} (h : σ.le τ) (k : Own1 σ w p) : Own1 τ w p := by
  obtain ⟨v, ob⟩ := p
  cases ob with
  | row E sz es => obtain ⟨xs, h1, h2, h3⟩ := k; exact ⟨xs, h1, h2, h3.mono h⟩
  | box cells => obtain ⟨b, c, E, h1, h2, h3⟩ := k; exact ⟨b, c, E, h1, h2, h3.mono h⟩
  | mp m => exact k
theorem Own1.lt {σ : Hp} {w : World} {v : Value} {ob : OB} (k : Own1 σ w (v, ob)) {b : Nat} (hb : blk v = some b) : b < w.heap.size := by
  cases ob with
  | row E sz es =>
    obtain ⟨xs, h1, _⟩ := k
    rcases h1 with ⟨_, a, rfl⟩ | ⟨g, cap, cur, rfl, h0, hg, _⟩
    · cases a <;> simp [blk] at hb
    · simp [blk, Nat.pos_iff_ne_zero.1 h0] at hb; subst hb; exact (Array.getElem?_eq_some_iff.1 hg).1
  | box cells =>
    obtain ⟨g, c, E, rfl, hg, _⟩ := k
    simp [blk] at hb; subst hb; exact (Array.getElem?_eq_some_iff.1 hg).1
  | mp m =>
    obtain ⟨g, es, clock, rfl, hg, _⟩ := k
    simp [blk] at hb; subst hb; exact (Array.getElem?_eq_some_iff.1 hg).1
theorem Own1.kept {σ : Hp} {w w' : World} {v : Value} {ob : OB} (k : Own1 σ w (v, ob)) (h : ∀ b, blk v = some b → w'.heap[b]? = w.heap[b]?) : Own1 σ w' (v, ob) := by
  cases ob with
  | row E sz es =>
    obtain ⟨xs, h1, h2⟩ := k
    refine ⟨xs, ?_, h2⟩
    rcases h1 with h3 | ⟨g, cap, cur, rfl, h0, hg, rest⟩
    · exact .inl h3
    · exact .inr ⟨g, cap, cur, rfl, h0, by rw [h g (by simp [blk, Nat.pos_iff_ne_zero.1 h0])]; exact hg, rest⟩
  | box cells =>
    obtain ⟨g, c, E, rfl, hg, h3⟩ := k
    exact ⟨g, c, E, rfl, by rw [h g rfl]; exact hg, h3⟩
  | mp m =>
    obtain ⟨g, es, clock, rfl, hg, h3⟩ := k
    exact ⟨g, es, clock, rfl, by rw [h g rfl]; exact hg, h3⟩
theorem HRel.none_of_new {σ : Hp} {L : Own} {F : Fr} {w : World} (h : HRel σ L F w) {b : Nat} (hb : w.heap.size ≤ b) : σ b = none ∧ F.h b = none := by
  have hn : w.heap[b]? = none := by simp; exact hb
  refine ⟨?_, ?_⟩
  · cases e : σ b with
    | none => rfl
    | some o => have := h.agree b o e; rw [hn] at this; cases this
  · cases e : F.h b with
    | none => rfl
    | some o => have := h.frame b o e; rw [hn] at this; cases this
theorem HRel.sub {σ : Hp} {L M : Own} {F : Fr} {w : World} (h : HRel σ L F w) (hs : List.Sublist M L) : HRel σ M F w :=
  ⟨h.agree, h.frame, h.os, h.out, fun p hp => h.own p (hs.subset hp), h.sep, h.nodup.sublist (hs.filterMap _), fun b hb => h.apart b ((hs.filterMap _).subset hb)⟩
theorem HRel.perm {σ : Hp} {L M : Own} {F : Fr} {w : World} (h : HRel σ L F w) (hp : List.Perm L M) : HRel σ M F w :=
  ⟨h.agree, h.frame, h.os, h.out, fun p hp' => h.own p (hp.mem_iff.2 hp'), h.sep, (hp.filterMap _).nodup_iff.1 h.nodup, fun b hb => h.apart b ((hp.filterMap _).mem_iff.2 hb)⟩
theorem HRel.new {σ : Hp} {L : Own} {F : Fr} {w w' : World} (h : HRel σ L F w) {v : Value} {ob : OB} {b : Nat} (hv : blk v = some b) (hb : w.heap.size ≤ b)
    (hk : ∀ i, i < w.heap.size → w'.heap[i]? = w.heap[i]?) (ho : w'.os = w.os) (hout : w'.output = w.output) (hown : Own1 σ w' (v, ob)) : HRel σ ((v, ob) :: L) F w' := by
  have hkeep : ∀ i o, w.heap[i]? = some o → w'.heap[i]? = some o := fun i o e => by rw [hk i (Array.getElem?_eq_some_iff.1 e).1]; exact e
  refine ⟨fun i o e => hkeep i o (h.agree i o e), fun i o e => hkeep i o (h.frame i o e), ho.trans h.os, hout.trans h.out, ?_, h.sep, ?_, ?_⟩
  · intro p hp
    rcases List.mem_cons.1 hp with rfl | hp
    · exact hown
    · exact (h.own p hp).kept (v := p.1) (ob := p.2) fun i hi => hk i ((h.own p hp).lt (v := p.1) (ob := p.2) hi)
  · have e : ((v, ob) :: L).filterMap (blk ∘ Prod.fst) = b :: L.filterMap (blk ∘ Prod.fst) := by simp [hv]
    rw [e]
    refine List.nodup_cons.2 ⟨fun hm => ?_, h.nodup⟩
    obtain ⟨p, hp, hpb⟩ := List.mem_filterMap.1 hm
    have := (h.own p hp).lt (v := p.1) (ob := p.2) hpb
    omega
  · have e : ((v, ob) :: L).filterMap (blk ∘ Prod.fst) = b :: L.filterMap (blk ∘ Prod.fst) := by simp [hv]
    rw [e]
    intro i hi
    rcases List.mem_cons.1 hi with rfl | hi
    · exact h.none_of_new hb
    · exact h.apart i hi
theorem HRel.grow {σ : Hp} {L : Own} {F : Fr} {w w' : World} (h : HRel σ L F w) (hk : ∀ i, i < w.heap.size → w'.heap[i]? = w.heap[i]?) (ho : w'.os = w.os) (hout : w'.output = w.output) : HRel σ L F w' := by
  have hkeep : ∀ i o, w.heap[i]? = some o → w'.heap[i]? = some o := fun i o e => by rw [hk i (Array.getElem?_eq_some_iff.1 e).1]; exact e
  exact ⟨fun i o e => hkeep i o (h.agree i o e), fun i o e => hkeep i o (h.frame i o e), ho.trans h.os, hout.trans h.out,
    fun p hp => (h.own p hp).kept (v := p.1) (ob := p.2) fun i hi => hk i ((h.own p hp).lt (v := p.1) (ob := p.2) hi), h.sep, h.nodup, h.apart⟩
theorem HRel.write {σ : Hp} {L : Own} {F : Fr} {w w' : World} {v v' : Value} {ob ob' : OB} (h : HRel σ ((v, ob) :: L) F w)
    (hsz : w.heap.size ≤ w'.heap.size) (hk : ∀ i, i < w.heap.size → some i ≠ blk v → w'.heap[i]? = w.heap[i]?) (ho : w'.os = w.os) (hout : w'.output = w.output)
    (hv : ∀ b, blk v' = some b → blk v = some b ∨ w.heap.size ≤ b) (hown : Own1 σ w' (v', ob')) : HRel σ ((v', ob') :: L) F w' := by
  have hne : ∀ i o, (σ i = some o ∨ F.h i = some o) → some i ≠ blk v := by
    intro i o ho hi
    have := h.apart i (List.mem_filterMap.2 ⟨(v, ob), by simp, hi.symm⟩)
    rcases ho with ho | ho
    · rw [this.1] at ho; cases ho
    · rw [this.2] at ho; cases ho
  have hkeep : ∀ i o, (σ i = some o ∨ F.h i = some o) → w.heap[i]? = some o → w'.heap[i]? = some o := fun i o hs e => by
    rw [hk i (Array.getElem?_eq_some_iff.1 e).1 (hne i o hs)]; exact e
  have hL : ∀ p ∈ L, ∀ b, blk p.1 = some b → blk v ≠ some b := by
    intro p hp b hb hvb
    have hn := h.nodup
    have e : ((v, ob) :: L).filterMap (blk ∘ Prod.fst) = b :: L.filterMap (blk ∘ Prod.fst) := by simp [hvb]
    rw [e] at hn
    exact (List.nodup_cons.1 hn).1 (List.mem_filterMap.2 ⟨p, hp, hb⟩)
  refine ⟨fun i o e => hkeep i o (.inl e) (h.agree i o e), fun i o e => hkeep i o (.inr e) (h.frame i o e), ho.trans h.os, hout.trans h.out, ?_, h.sep, ?_, ?_⟩
  · intro p hp
    rcases List.mem_cons.1 hp with rfl | hp'
    · exact hown
    · have hop := h.own p (List.mem_cons_of_mem _ hp')
      exact hop.kept (v := p.1) (ob := p.2) fun i hi => hk i (hop.lt (v := p.1) (ob := p.2) hi) (fun e => hL p hp' i hi e.symm)
  · cases hb : blk v' with
    | none =>
      have e : ((v', ob') :: L).filterMap (blk ∘ Prod.fst) = L.filterMap (blk ∘ Prod.fst) := by simp [hb]
      rw [e]
      exact h.nodup.sublist ((List.sublist_cons_self _ _).filterMap _)
    | some b =>
      have e : ((v', ob') :: L).filterMap (blk ∘ Prod.fst) = b :: L.filterMap (blk ∘ Prod.fst) := by simp [hb]
      rw [e]
      refine List.nodup_cons.2 ⟨fun hm => ?_, h.nodup.sublist ((List.sublist_cons_self _ _).filterMap _)⟩
      obtain ⟨p, hp, hpb⟩ := List.mem_filterMap.1 hm
      rcases hv b hb with h1 | h1
      · exact hL p hp b hpb h1
      · have := (h.own p (List.mem_cons_of_mem _ hp)).lt (v := p.1) (ob := p.2) hpb
        omega
  · intro b hb
    obtain ⟨p, hp, hpb⟩ := List.mem_filterMap.1 hb
    rcases List.mem_cons.1 hp with rfl | hp'
    · rcases hv b hpb with h1 | h1
      · exact h.apart b (List.mem_filterMap.2 ⟨(v, ob), by simp, h1⟩)
      · exact h.none_of_new h1
    · exact h.apart b (List.mem_filterMap.2 ⟨p, List.mem_cons_of_mem _ hp', hpb⟩)
theorem HRel.nil {σ : Hp} {L : Own} {F : Fr} {w : World} (h : HRel σ L F w) (E sz : Nat) (a : Option Addr) : HRel σ ((.slice a 0 0, .row E sz []) :: L) F w := by
  have hb : blk (.slice a 0 0) = none := by cases a <;> simp [blk]
  refine ⟨h.agree, h.frame, h.os, h.out, fun p hp => ?_, h.sep, ?_, ?_⟩
  · rcases List.mem_cons.1 hp with rfl | hp
    · exact ⟨[], .inl ⟨rfl, a, rfl⟩, by simp, .nil⟩
    · exact h.own p hp
  · simpa [hb] using h.nodup
  · simpa [hb] using h.apart
inductive OSub : Own → Own → Prop
  | nil : OSub [] []
  | drop {M L : Own} {p : Value × OB} : OSub M L → OSub M (p :: L)
  | keep {M L : Own} {p : Value × OB} : OSub M L → OSub (p :: M) (p :: L)
  | free {M L : Own} {E sz : Nat} {a : Option Addr} : OSub M L → OSub ((.slice a 0 0, .row E sz []) :: M) L
theorem OSub.refl : ∀ L : Own, OSub L L
  | [] => .nil
  | _ :: L => .keep (OSub.refl L)
theorem OSub.none : ∀ L : Own, OSub [] L
  | [] => .nil
  | _ :: L => .drop (OSub.none L)
theorem OSub.hrel {σ : Hp} {F : Fr} {w : World} {M L : Own} (h : OSub M L) : ∀ {K : Own}, HRel σ (K ++ L) F w → HRel σ (K ++ M) F w := by
  induction h with
  | nil => intro K h; exact h
  | drop _ ih =>
    intro K h
    exact ih (h.sub (by simp))
  | @keep M L p _ ih =>
    intro K h
    have := ih (K := K ++ [p]) (by simpa using h)
    simpa using this
  | @free M L E sz a _ ih =>
    intro K h
    have := (ih h).nil E sz a
    exact this.perm List.perm_middle.symm
theorem HRel.osub {σ : Hp} {F : Fr} {w : World} {M L : Own} (h : HRel σ L F w) (k : OSub M L) : HRel σ M F w := k.hrel (K := []) h
end Go.Sj
namespace Go.Sj
abbrev St := Nat → AV
def lk : List (Nat × AV) → St
  | [], _ => .any
  | (i, x) :: r, j => bif Nat.beq i j then x else lk r j
def upd (st : St) (d : Nat) (x : AV) : St := fun j => bif Nat.beq d j then x else st j
def updO (st : St) : Option Nat → AV → St
  | some d, x => upd st d x
  | none, _ => st
def ev (st : St) : Operand → AV
  | .tmp t => st t
  | .const v => ofV v
  | .global g => .lit (.pointer (some ⟨g, 0, none⟩))
  | .func f => .fn (.func f) [] []
structure TR (σ : Hp) (N : Nat) (st : St) (a : Act) : Prop where
  defers : a.defers = []
  size : a.tmps.size = N
  vals : ∀ i, VR σ (st i) (a.tmps.getD i undef)
theorem TR.mono {σ τ : Hp} {N : Nat} {st : St} {a : Act} (h : TR σ N st a) (k : σ.le τ) : TR τ N st a := ⟨h.defers, h.size, fun i => (h.vals i).mono k⟩
theorem TR.eval {σ : Hp} {N : Nat} {st : St} {a : Act} (h : TR σ N st a) (x : Operand) : VR σ (ev st x) (a.eval x) := by
  cases x with
  | tmp t => exact h.vals t
  | const v => exact .ofV v
  | global g => exact .lit _
  | func f => exact VR.fn_of (vs := []) (us := []) .nil .nil
theorem beq_false {d j : Nat} (h : d ≠ j) : Nat.beq d j = false := by
  cases e : Nat.beq d j with
  | false => rfl
  | true => exact absurd (Nat.eq_of_beq_eq_true e) h
theorem upd_same (st : St) (d : Nat) (x : AV) : upd st d x d = x := by simp [upd]
theorem upd_ne (st : St) {d j : Nat} (x : AV) (h : d ≠ j) : upd st d x j = st j := by simp [upd, beq_false h]
theorem TR.put {σ : Hp} {N : Nat} {st : St} {a : Act} (h : TR σ N st a) (d : Option Nat) (hd : ∀ i, d = some i → i < N) {x : AV} {v : Value} (hv : VR σ x v) : TR σ N (updO st d x) (a.put d v) := by
  cases d with
  | none => exact h
  | some d =>
    refine ⟨h.defers, by simp [Act.put, h.size], fun i => ?_⟩
    by_cases e : d = i
    · subst e
      rw [show updO st (some d) x d = x from upd_same _ _ _]
      have hlt : d < a.tmps.size := by rw [h.size]; exact hd d rfl
      simp only [Act.put, Array.getD_eq_getD_getElem?, Array.getElem?_setIfInBounds, if_pos hlt, if_true]
      exact hv
    · rw [show updO st (some d) x i = st i from upd_ne _ _ e]
      simp only [Act.put, Array.getD_eq_getD_getElem?, Array.getElem?_setIfInBounds, if_neg e]
      have := h.vals i
      simpa only [Array.getD_eq_getD_getElem?] using this
def ARes (P : Program) (σ : Hp) (F : Fr) (K : AV → Own → Prop) : Result Next → Prop
  | .ok (.value v) w' => ∃ τ x L, σ.le τ ∧ HRel τ L F w' ∧ VR τ x v ∧ K x L
  | .ok .skip w' => ∃ τ x L, σ.le τ ∧ HRel τ L F w' ∧ VR τ x undef ∧ K x L
  | .ok (.enter f args) w' => Calls P f args w' fun e w'' => ∃ v, e = .returned v ∧ ∃ τ x L, σ.le τ ∧ HRel τ L F w'' ∧ VR τ x v ∧ K x L
  | _ => False
theorem ARes.mono {P : Program} {σ : Hp} {F : Fr} {K K' : AV → Own → Prop} (hk : ∀ x L, K x L → K' x L) {r : Result Next} (h : ARes P σ F K r) : ARes P σ F K' r := by
  cases r with
  | ok n w =>
    cases n <;> simp only [ARes] at h ⊢
    case value v => obtain ⟨τ, x, L, a, b, c, d⟩ := h; exact ⟨τ, x, L, a, b, c, hk _ _ d⟩
    case skip => obtain ⟨τ, x, L, a, b, c, d⟩ := h; exact ⟨τ, x, L, a, b, c, hk _ _ d⟩
    case enter f args => exact h.mono fun e w' ⟨v, hv, τ, x, L, a, b, c, d⟩ => ⟨v, hv, τ, x, L, a, b, c, hk _ _ d⟩
  | halt x w => exact h.elim
structure AOp (P : Program) (o : Oper) (K : AV → Own → Prop) (st : St) (L : Own) : Prop where
  out : ∀ (σ : Hp) (F : Fr) (w : World) (ρ : Operand → Value), HRel σ L F w → (∀ x ∈ o.op.operands, VR σ (ev st x) (ρ x)) → ARes P σ F K ((execOp ρ o).run P w)
theorem AOp.mono {P : Program} {o : Oper} {K K' : AV → Own → Prop} {st : St} {L : Own} (hk : ∀ x L, K x L → K' x L) (h : AOp P o K st L) : AOp P o K' st L :=
  ⟨fun σ F w ρ a b => (h.out σ F w ρ a b).mono hk⟩
structure AQ (P : Program) (o : Oper) (st : St) (L : Own) (x : AV) : Prop where
  out : ∀ (σ : Hp) (F : Fr) (w : World) (ρ : Operand → Value), HRel σ L F w → (∀ y ∈ o.op.operands, VR σ (ev st y) (ρ y)) → ∃ v, (execOp ρ o).run P w = .ok (.value v) w ∧ VR σ x v
theorem AQ.any {P : Program} {o : Oper} {st : St} {x : AV} (h : AQ P o st [] x) (L : Own) : AQ P o st L x :=
  ⟨fun σ F w ρ a b => h.out σ F w ρ (a.sub (List.nil_sublist _)) b⟩
theorem AQ.op {P : Program} {o : Oper} {st : St} {L : Own} {x : AV} (h : AQ P o st L x) {K : AV → Own → Prop} (hk : K x L) : AOp P o K st L :=
  ⟨fun σ F w ρ a b => by
    obtain ⟨v, hv, hx⟩ := h.out σ F w ρ a b
    rw [hv]
    exact ⟨σ, x, L, σ.le_refl, a, hx, hk⟩⟩
inductive Kd where
  | pure | read | eff
  deriving DecidableEq
def guardA (l : List Oper) (o : Oper) (st : St) : Option Bool :=
  match o.guard with
  | none => some true
  | some (j, want) =>
    match (l[j]?).bind (·.dst) with
    | none => some false
    | some d =>
      match st d with
      | .lit (.bool b) => some (b == want)
      | .lit (.tuple _) => some false
      | _ => none
theorem guardA_sound {l : List Oper} {o : Oper} {st : St} {σ : Hp} {N : Nat} {a : Act} {b : Bool} (h : guardA l o st = some b) (ht : TR σ N st a) : Region.wanted o (yielded l.toArray a.tmps) = b := by
  unfold guardA at h
  unfold Region.wanted
  cases hg : o.guard with
  | none => simp only [hg] at h ⊢; cases h; rfl
  | some gw =>
    obtain ⟨j, want⟩ := gw
    simp only [hg] at h ⊢
    unfold yielded
    rw [List.getElem?_toArray]
    cases hd : (l[j]?).bind (·.dst) with
    | none => simp only [hd] at h; cases h; simp
    | some d =>
      simp only [hd] at h
      simp only [Option.bind_some]
      have hv := ht.vals d
      rw [Array.getD_eq_getD_getElem?] at hv
      split at h
      · rename_i b' hb
        cases h
        rw [hb] at hv
        have := hv.lit_inv
        cases ht' : a.tmps[d]? with
        | none => rw [ht'] at this; simp [undef] at this
        | some u => rw [ht'] at this; simp at this; subst this; simp
      · rename_i c hb
        cases h
        rw [hb] at hv
        have := hv.lit_inv
        cases ht' : a.tmps[d]? with
        | none => simp
        | some u => rw [ht'] at this; simp at this; subst this; simp
      · cases h
inductive AL (P : Program) (N : Nat) (ops : List Oper) (Q : St → Own → Prop) : List (Oper × Kd) → St → Own → Prop
  | nil {st : St} {L : Own} : Q st L → AL P N ops Q [] st L
  | skip {o : Oper} {k : Kd} {rest : List (Oper × Kd)} {st : St} {L : Own} : (∀ d, o.dst = some d → d < N) → guardA ops o st = some false →
      AL P N ops Q rest (updO st o.dst (.lit undef)) L → AL P N ops Q ((o, k) :: rest) st L
  | pure {o : Oper} {k : Kd} {rest : List (Oper × Kd)} {st : St} {L : Own} {x : AV} : (∀ d, o.dst = some d → d < N) → guardA ops o st = some true →
      AQ P o st [] x → AL P N ops Q rest (updO st o.dst x) L → AL P N ops Q ((o, k) :: rest) st L
  | read {o : Oper} {k : Kd} {rest : List (Oper × Kd)} {st : St} {L : Own} {x : AV} : (∀ d, o.dst = some d → d < N) → guardA ops o st = some true → k ≠ .pure →
      AQ P o st L x → AL P N ops Q rest (updO st o.dst x) L → AL P N ops Q ((o, k) :: rest) st L
  | eff {o : Oper} {rest : List (Oper × Kd)} {st : St} {L : Own} {K : AV → Own → Prop} : (∀ d, o.dst = some d → d < N) → guardA ops o st = some true →
      AOp P o K st L → (∀ x L', K x L' → AL P N ops Q rest (updO st o.dst x) L') → AL P N ops Q ((o, .eff) :: rest) st L
def Post (σ : Hp) (N : Nat) (F : Fr) (Q : Exit → St → Own → Prop) (e : Exit) (a : Act) (w : World) : Prop :=
  ∃ τ st L, σ.le τ ∧ HRel τ L F w ∧ TR τ N st a ∧ Q e st L
theorem Post.le {σ τ : Hp} {N : Nat} {F : Fr} {Q : Exit → St → Own → Prop} {e : Exit} {a : Act} {w : World} (h : σ.le τ) (k : Post τ N F Q e a w) : Post σ N F Q e a w := by
  obtain ⟨υ, st, L, a1, a2, a3, a4⟩ := k
  exact ⟨υ, st, L, Hp.le_trans h a1, a2, a3, a4⟩
theorem ARes.upon {P : Program} {σ : Hp} {N : Nat} {F : Fr} {K : AV → Own → Prop} {o : Oper} {a : Act} {st : St} {next : Act → World → Prop} {Q : Exit → Act → World → Prop}
    (hd : ∀ d, o.dst = some d → d < N) (ht : TR σ N st a)
    (hn : ∀ τ x L a' w', σ.le τ → HRel τ L F w' → TR τ N (updO st o.dst x) a' → K x L → next a' w') {r : Result Next} (h : ARes P σ F K r) : o.upon P a next Q r := by
  cases r with
  | ok n w =>
    cases n <;> simp only [ARes] at h <;> simp only [Oper.upon]
    case value v => obtain ⟨τ, x, L, a1, a2, a3, a4⟩ := h; exact hn τ x L _ _ a1 a2 ((ht.mono a1).put _ hd a3) a4
    case skip => obtain ⟨τ, x, L, a1, a2, a3, a4⟩ := h; exact hn τ x L _ _ a1 a2 ((ht.mono a1).put _ hd a3) a4
    case enter f args =>
      refine h.mono fun e w' ⟨v, hv, τ, x, L, a1, a2, a3, a4⟩ => ?_
      subst hv
      exact hn τ x L _ _ a1 a2 ((ht.mono a1).put _ hd a3) a4
  | halt x w => exact h.elim
theorem AOp.wp {P : Program} {σ : Hp} {N : Nat} {F : Fr} {K : AV → Own → Prop} {o : Oper} {a : Act} {st : St} {L : Own} {w : World} {next : Act → World → Prop} {Q : Exit → Act → World → Prop}
    (h : AOp P o K st L) (hd : ∀ d, o.dst = some d → d < N) (hr : HRel σ L F w) (ht : TR σ N st a)
    (hn : ∀ τ x L a' w', σ.le τ → HRel τ L F w' → TR τ N (updO st o.dst x) a' → K x L → next a' w') : o.wp P a w next Q :=
  (h.out σ F w a.eval hr (fun x _ => ht.eval x)).upon hd ht hn
theorem al_wpOps {P : Program} {N : Nat} {ops : List Oper} {Q : St → Own → Prop} {F : Fr} {Q' : Exit → Act → World → Prop} {l : List (Oper × Kd)} {st : St} {L : Own} (h : AL P N ops Q l st L) :
    ∀ (k : Nat) (σ : Hp) (a : Act) (w : World), (∀ j, (l.map Prod.fst)[j]? = ops[k + j]?) → HRel σ L F w → TR σ N st a →
      (∀ τ st' L' a' w', σ.le τ → HRel τ L' F w' → TR τ N st' a' → Q st' L' → Q' .normal a' w') → wpOps P ops.toArray Q' (List.range' k l.length) a w := by
  induction h with
  | nil hq => intro k σ a w _ hr ht hn; exact hn σ _ _ _ _ σ.le_refl hr ht hq
  | @skip o kd rest st L hd hg _ ih =>
    intro k σ a w hl hr ht hn
    have h0 : ops[k]? = some o := by have := hl 0; simpa using this.symm
    simp only [List.length_cons, List.range'_succ, wpOps_cons]
    unfold wpOp
    rw [List.getElem?_toArray, h0]
    simp only
    rw [guardA_sound hg ht]
    simp only [Bool.false_eq_true, if_false]
    exact ih (k + 1) σ _ w (fun j => by have := hl (j + 1); simpa [Nat.add_assoc, Nat.add_comm 1 j] using this) hr (ht.put _ hd (.lit _)) hn
  | @pure o kd rest st L x hd hg hq _ ih =>
    intro k σ a w hl hr ht hn
    have h0 : ops[k]? = some o := by have := hl 0; simpa using this.symm
    simp only [List.length_cons, List.range'_succ, wpOps_cons]
    unfold wpOp
    rw [List.getElem?_toArray, h0]
    simp only
    rw [guardA_sound hg ht]
    simp only [if_true]
    refine .inl (((hq.any L).op (K := fun y M => y = x ∧ M = L) ⟨rfl, rfl⟩).wp hd hr ht ?_)
    rintro τ y M a' w' h1 h2 h3 ⟨rfl, rfl⟩
    exact ih (k + 1) τ _ w' (fun j => by have := hl (j + 1); simpa [Nat.add_assoc, Nat.add_comm 1 j] using this) h2 h3 (fun υ st' L' a' w' q => hn υ st' L' a' w' (Hp.le_trans h1 q))
  | @read o kd rest st L x hd hg _ hq _ ih =>
    intro k σ a w hl hr ht hn
    have h0 : ops[k]? = some o := by have := hl 0; simpa using this.symm
    simp only [List.length_cons, List.range'_succ, wpOps_cons]
    unfold wpOp
    rw [List.getElem?_toArray, h0]
    simp only
    rw [guardA_sound hg ht]
    simp only [if_true]
    refine .inl ((hq.op (K := fun y M => y = x ∧ M = L) ⟨rfl, rfl⟩).wp hd hr ht ?_)
    rintro τ y M a' w' h1 h2 h3 ⟨rfl, rfl⟩
    exact ih (k + 1) τ _ w' (fun j => by have := hl (j + 1); simpa [Nat.add_assoc, Nat.add_comm 1 j] using this) h2 h3 (fun υ st' L' a' w' q => hn υ st' L' a' w' (Hp.le_trans h1 q))
  | @eff o rest st L K hd hg hop _ ih =>
    intro k σ a w hl hr ht hn
    have h0 : ops[k]? = some o := by have := hl 0; simpa using this.symm
    simp only [List.length_cons, List.range'_succ, wpOps_cons]
    unfold wpOp
    rw [List.getElem?_toArray, h0]
    simp only
    rw [guardA_sound hg ht]
    simp only [if_true]
    refine .inl (hop.wp hd hr ht ?_)
    intro τ y M a' w' h1 h2 h3 hK
    exact ih y M hK (k + 1) τ _ w' (fun j => by have := hl (j + 1); simpa [Nat.add_assoc, Nat.add_comm 1 j] using this) h2 h3 (fun υ st' L' a' w' q => hn υ st' L' a' w' (Hp.le_trans h1 q))
section any
variable {P : Program} {N : Nat} {ops : List Oper}
def AK (P : Program) (N : Nat) (ops : List Oper) (k : Kd) (o : Oper) (K : St → Own → Prop) (st : St) (L : Own) : Prop :=
  (∀ d, o.dst = some d → d < N) ∧
  ((guardA ops o st = some false ∧ K (updO st o.dst (.lit undef)) L) ∨
   (guardA ops o st = some true ∧
    match k with
    | .eff => AOp P o (fun x L' => K (updO st o.dst x) L') st L
    | .read => ∃ x, AQ P o st L x ∧ K (updO st o.dst x) L
    | .pure => ∃ x, AQ P o st [] x ∧ K (updO st o.dst x) L))
theorem AK.mono {k : Kd} {o : Oper} {K K' : St → Own → Prop} {st : St} {L : Own} (hk : ∀ st L, K st L → K' st L) (h : AK P N ops k o K st L) : AK P N ops k o K' st L := by
  obtain ⟨hd, h⟩ := h
  refine ⟨hd, ?_⟩
  rcases h with ⟨hg, h⟩ | ⟨hg, h⟩
  · exact .inl ⟨hg, hk _ _ h⟩
  · refine .inr ⟨hg, ?_⟩
    cases k with
    | eff => exact AOp.mono (fun x L' => hk _ _) h
    | read => obtain ⟨x, hx, h⟩ := h; exact ⟨x, hx, hk _ _ h⟩
    | pure => obtain ⟨x, hx, h⟩ := h; exact ⟨x, hx, hk _ _ h⟩
def YA (P : Program) (ops : List Oper) (k : Kd) (o : Oper) (x : AV) (st : St) (L : Own) : Prop :=
  (guardA ops o st = some true ∧ AQ P o st (match k with | .pure => [] | _ => L) x) ∨ (guardA ops o st = some false ∧ x = .lit undef)
def AAny (P : Program) (N : Nat) (ops : List Oper) (ks : List Kd) (Q : St → Own → Prop) : Nat → Array Bool → St → Own → Prop
  | 0, listed, st, L => Region.ready .any ops.toArray listed = [] ∧ Q st L
  | fuel + 1, listed, st, L =>
    (Region.ready .any ops.toArray listed = [] → Q st L) ∧
    ∀ i ∈ Region.ready .any ops.toArray listed, ∀ o, ops[i]? = some o → AK P N ops (ks.getD i .eff) o (AAny P N ops ks Q fuel (listed.setIfInBounds i true)) st L
theorem upd_comm (st : St) {d e : Nat} (x y : AV) (h : d ≠ e) : upd (upd st d x) e y = upd (upd st e y) d x := by
  funext j
  by_cases h1 : e = j
  · subst h1; rw [upd_same, upd_ne _ _ h, upd_same]
  · by_cases h2 : d = j
    · subst h2; rw [upd_ne _ _ h1, upd_same, upd_same]
    · rw [upd_ne _ _ h1, upd_ne _ _ h2, upd_ne _ _ h2, upd_ne _ _ h1]
theorem updO_comm (st : St) {d e : Option Nat} (x y : AV) (h : ∀ i, d = some i → e ≠ some i) : updO (updO st d x) e y = updO (updO st e y) d x := by
  cases d with
  | none => rfl
  | some d =>
    cases e with
    | none => rfl
    | some e => exact upd_comm st x y (fun he => h d rfl (by rw [he]))
theorem ev_updO {st : St} {d : Option Nat} {x : AV} {y : Operand} (h : ∀ i, d = some i → y ≠ .tmp i) : ev (updO st d x) y = ev st y := by
  cases d with
  | none => rfl
  | some d =>
    cases y with
    | tmp t => exact upd_ne _ _ (fun e => h d rfl (by rw [e]))
    | _ => rfl
theorem ev_looks {o : Oper} {st : St} {d : Option Nat} {x : AV} (h : ∀ i, d = some i → i ∉ o.looksAt ops.toArray) (y : Operand) (hy : y ∈ o.op.operands) : ev (updO st d x) y = ev st y :=
  ev_updO fun i hi e => h i hi (by subst e; exact List.mem_append_left _ (List.mem_filterMap.2 ⟨.tmp i, by simpa using hy, rfl⟩))
theorem guardA_updO {o : Oper} {st : St} {d : Option Nat} {x : AV} (h : ∀ i, d = some i → i ∉ o.looksAt ops.toArray) : guardA ops o (updO st d x) = guardA ops o st := by
  cases d with
  | none => rfl
  | some d =>
    unfold guardA
    cases hg : o.guard with
    | none => rfl
    | some gw =>
      obtain ⟨g, want⟩ := gw
      simp only
      cases ht : (ops[g]?).bind (·.dst) with
      | none => rfl
      | some t =>
        have hne : d ≠ t := fun e => h d rfl (by subst e; simp [Oper.looksAt, hg, List.getElem?_toArray, ht])
        have e : updO st (some d) x t = st t := upd_ne _ _ hne
        simp only [e]
theorem AQ.updO {o : Oper} {st : St} {L : Own} {d : Option Nat} {x y : AV} (h : ∀ i, d = some i → i ∉ o.looksAt ops.toArray) : AQ P o (updO st d x) L y ↔ AQ P o st L y := by
  constructor
  · intro k
    exact ⟨fun σ F w ρ a b => k.out σ F w ρ a (fun z hz => by rw [ev_looks h z hz]; exact b z hz)⟩
  · intro k
    exact ⟨fun σ F w ρ a b => k.out σ F w ρ a (fun z hz => by have := b z hz; rw [ev_looks h z hz] at this; exact this)⟩
theorem AOp.updO {o : Oper} {st : St} {L : Own} {d : Option Nat} {x : AV} {K : AV → Own → Prop} (h : ∀ i, d = some i → i ∉ o.looksAt ops.toArray) : AOp P o K (updO st d x) L ↔ AOp P o K st L := by
  constructor
  · intro k
    exact ⟨fun σ F w ρ a b => k.out σ F w ρ a (fun z hz => by rw [ev_looks h z hz]; exact b z hz)⟩
  · intro k
    exact ⟨fun σ F w ρ a b => k.out σ F w ρ a (fun z hz => by have := b z hz; rw [ev_looks h z hz] at this; exact this)⟩
theorem AK_put {ki kj : Kd} {oi oj : Oper} {x : AV} (hap : oi.apart ops.toArray oj = true) (hik : ki = .pure ∨ kj ≠ .eff) {K : St → Own → Prop} {st : St} {L : Own}
    (hy : YA P ops ki oi x st L) (h : AK P N ops kj oj K (updO st oi.dst x) L) :
    AK P N ops kj oj (fun st' L' => YA P ops ki oi x st' L' ∧ K (updO st' oi.dst x) L') st L := by
  obtain ⟨h1, h2, h3⟩ := Oper.apart_spec hap
  have keep : ∀ (u : AV) (L' : Own), (ki = .pure ∨ L' = L) → YA P ops ki oi x (updO st oj.dst u) L' := by
    intro u L' hL
    unfold YA at hy ⊢
    rw [guardA_updO h3]
    rcases hy with ⟨hg, hq⟩ | hy
    · refine .inl ⟨hg, ?_⟩
      rcases hL with rfl | rfl
      · exact (AQ.updO h3).2 hq
      · exact (AQ.updO h3).2 hq
    · exact .inr hy
  have hc : ∀ u, updO (updO st oi.dst x) oj.dst u = updO (updO st oj.dst u) oi.dst x := fun u => updO_comm st x u h2
  obtain ⟨hd, h⟩ := h
  refine ⟨hd, ?_⟩
  rw [guardA_updO h1] at h
  rcases h with ⟨hg, h⟩ | ⟨hg, h⟩
  · exact .inl ⟨hg, keep _ _ (.inr rfl), by rw [← hc]; exact h⟩
  · refine .inr ⟨hg, ?_⟩
    cases kj with
    | eff =>
      have hp : ki = .pure := hik.resolve_right (by simp)
      exact ((AOp.updO h1).1 h).mono fun u L' hu => ⟨keep _ _ (.inl hp), by rw [← hc]; exact hu⟩
    | read =>
      obtain ⟨u, hu, h⟩ := h
      exact ⟨u, (AQ.updO h1).1 hu, keep _ _ (.inr rfl), by rw [← hc]; exact h⟩
    | pure =>
      obtain ⟨u, hu, h⟩ := h
      exact ⟨u, (AQ.updO h1).1 hu, keep _ _ (.inr rfl), by rw [← hc]; exact h⟩
theorem YA.ak {k : Kd} {o : Oper} {x : AV} {st : St} {L : Own} (hk : k ≠ .eff) (hd : ∀ d, o.dst = some d → d < N) (hy : YA P ops k o x st L) {K : St → Own → Prop} (h : K (updO st o.dst x) L) : AK P N ops k o K st L := by
  refine ⟨hd, ?_⟩
  rcases hy with ⟨hg, hq⟩ | ⟨hg, rfl⟩
  · refine .inr ⟨hg, ?_⟩
    cases k with
    | eff => exact absurd rfl hk
    | read => exact ⟨x, hq, h⟩
    | pure => exact ⟨x, hq, h⟩
  · exact .inl ⟨hg, h⟩
theorem AAny_first {ks : List Kd} {Q : St → Own → Prop} {i : Nat} {oi : Oper} {x : AV} (hi : ops[i]? = some oi) (hki : ks.getD i .eff ≠ .eff) (hd : ∀ d, oi.dst = some d → d < N) :
    ∀ (fuel : Nat) (listed : Array Bool) (st : St) (L : Own),
      (∀ j oj, ops[j]? = some oj → j ≠ i → listed.getD j true = false → (∀ e ∈ oj.after, Region.binds .any e = true → e.on ≠ i) → oi.apart ops.toArray oj = true ∧ (ks.getD i .eff = .pure ∨ ks.getD j .eff ≠ .eff)) →
      i ∈ Region.ready .any ops.toArray listed → YA P ops (ks.getD i .eff) oi x st L →
      AAny P N ops ks Q fuel (listed.setIfInBounds i true) (updO st oi.dst x) L → AAny P N ops ks Q (fuel + 1) listed st L := by
  intro fuel
  induction fuel with
  | zero =>
    intro listed st L _ hr hy H
    refine ⟨fun h => (by rw [h] at hr; cases hr), fun j hj oj hoj => ?_⟩
    by_cases hji : j = i
    · subst hji; rw [hi] at hoj; cases hoj; exact hy.ak hki hd H
    · have := ready_mono hj hji
      rw [H.1] at this
      cases this
  | succ fuel ih =>
    intro listed st L hfree hr hy H
    refine ⟨fun h => (by rw [h] at hr; cases hr), fun j hj oj hoj => ?_⟩
    by_cases hji : j = i
    · subst hji; rw [hi] at hoj; cases hoj; exact hy.ak hki hd H
    · have h1 := H.2 j (ready_mono hj hji) oj hoj
      obtain ⟨hjun, oj', hoj', hall⟩ := mem_ready.1 hj
      rw [List.getElem?_toArray, hoj] at hoj'
      cases hoj'
      have hnot : ∀ e ∈ oj.after, Region.binds .any e = true → e.on ≠ i := fun e he hb heq => by
        have h1 := hall e he hb
        have h0 := (mem_ready.1 hr).1
        rw [heq] at h1
        rcases Nat.lt_or_ge i listed.size with h' | h'
        · simp [h'] at h0 h1; rw [h0] at h1; cases h1
        · simp [Array.getElem?_eq_none h'] at h1
      obtain ⟨hap, hkk⟩ := hfree j oj hoj hji hjun hnot
      have h2 := AK_put hap hkk hy h1
      have hfree' : ∀ k ok, ops[k]? = some ok → k ≠ i → (listed.setIfInBounds j true).getD k true = false →
          (∀ e ∈ ok.after, Region.binds .any e = true → e.on ≠ i) → oi.apart ops.toArray ok = true ∧ (ks.getD i .eff = .pure ∨ ks.getD k .eff ≠ .eff) := fun k ok hk hki hun hno => by
        refine hfree k ok hk hki ?_ hno
        by_cases hjk : j = k
        · subst hjk; exact hjun
        · rw [getD_set_ne true hjk] at hun; exact hun
      refine AK.mono (fun st' L' h3 => ih (listed.setIfInBounds j true) st' L' hfree' (ready_mono hr (Ne.symm hji)) h3.1 ?_) h2
      rw [Array.setIfInBounds_comm _ _ hji]
      exact h3.2
def chk (ops : Array Oper) (ks : List Kd) : Nat → Nat → Array Bool → Bool
  | 0, _, listed => (Region.ready .any ops listed).isEmpty
  | fuel + 1, k, listed =>
    (match ks.getD k .eff with
      | .pure => (Region.ready .any ops listed).contains k && Region.free .any ops listed k
      | .read => (Region.ready .any ops listed).contains k && Region.free .any ops listed k &&
          (List.range ops.size).all fun j => j == k || listed.getD j true || ks.getD j .eff != .eff || (match ops[j]? with
            | some oj => oj.after.any (fun e => Region.binds .any e && e.on == k)
            | none => true)
      | .eff => Region.ready .any ops listed == [k]) &&
    chk ops ks fuel (k + 1) (listed.setIfInBounds k true)
theorem AAny_lex {ks : List Kd} {Q : St → Own → Prop} {l : List (Oper × Kd)} {st : St} {L : Own} (h : AL P N ops Q l st L) :
    ∀ (k : Nat) (listed : Array Bool), (∀ j, (l.map Prod.fst)[j]? = ops[k + j]?) → (∀ (j : Nat) (p : Oper × Kd), l[j]? = some p → p.2 = ks.getD (k + j) .eff) →
      chk ops.toArray ks l.length k listed = true → AAny P N ops ks Q l.length listed st L := by
  have quiet : ∀ {o : Oper} {kd : Kd} {rest : List (Oper × Kd)} {st : St} {L : Own} {x : AV} (k : Nat) (listed : Array Bool), (∀ d, o.dst = some d → d < N) → ops[k]? = some o → ks.getD k .eff ≠ .eff →
      YA P ops (ks.getD k .eff) o x st L → (match ks.getD k .eff with
      | .pure => (Region.ready .any ops.toArray listed).contains k && Region.free .any ops.toArray listed k
      | .read => (Region.ready .any ops.toArray listed).contains k && Region.free .any ops.toArray listed k &&
          (List.range ops.toArray.size).all fun j => j == k || listed.getD j true || ks.getD j .eff != .eff || (match ops.toArray[j]? with
            | some oj => oj.after.any (fun e => Region.binds .any e && e.on == k)
            | none => true)
      | .eff => Region.ready .any ops.toArray listed == [k]) = true →
      AAny P N ops ks Q rest.length (listed.setIfInBounds k true) (updO st o.dst x) L → AAny P N ops ks Q (rest.length + 1) listed st L := by
    intro o kd rest st L x k listed hd h0 hne hy hc H
    cases hk : ks.getD k .eff with
    | eff => exact absurd hk hne
    | pure =>
      simp only [hk, Bool.and_eq_true] at hc
      refine AAny_first h0 hne hd rest.length listed st L (fun j oj hj hjk hun hno => ⟨?_, .inl hk⟩) (by simpa using hc.1) hy H
      exact Region.free_spec (ops := ops.toArray) (by rw [List.getElem?_toArray]; exact h0) hc.2 j oj (by rw [List.getElem?_toArray]; exact hj) hjk hun hno
    | read =>
      simp only [hk, Bool.and_eq_true] at hc
      refine AAny_first h0 hne hd rest.length listed st L (fun j oj hj hjk hun hno => ⟨?_, .inr ?_⟩) (by simpa using hc.1.1) hy H
      · exact Region.free_spec (ops := ops.toArray) (by rw [List.getElem?_toArray]; exact h0) hc.1.2 j oj (by rw [List.getElem?_toArray]; exact hj) hjk hun hno
      · have h3 := List.all_eq_true.1 hc.2 j (List.mem_range.2 (by
          have := (List.getElem?_eq_some_iff.1 hj).1; simpa using this))
        simp only [List.getElem?_toArray, hj, Bool.or_eq_true, beq_iff_eq, hjk, false_or, hun, Bool.false_eq_true, bne_iff_ne] at h3
        rcases h3 with h3 | h3
        · exact h3
        · obtain ⟨e, he, hb⟩ := Array.any_eq_true'.1 h3
          simp only [Bool.and_eq_true, beq_iff_eq] at hb
          exact absurd hb.2 (hno e he hb.1)
  induction h with
  | nil hq =>
    intro k listed _ _ hc
    exact ⟨by simpa [chk] using hc, hq⟩
  | @skip o kd rest st L hd hg _ ih =>
    intro k listed hl hk hc
    have h0 : ops[k]? = some o := by have := hl 0; simpa using this.symm
    have hk0 : kd = ks.getD k .eff := by have := hk 0 (o, kd) rfl; simpa using this
    simp only [List.length_cons, chk, Bool.and_eq_true] at hc
    have H := ih (k + 1) (listed.setIfInBounds k true) (fun j => by have := hl (j + 1); simpa [Nat.add_assoc, Nat.add_comm 1 j] using this)
      (fun j p hp => by have := hk (j + 1) p (by simpa using hp); simpa [Nat.add_assoc, Nat.add_comm 1 j] using this) hc.2
    by_cases he : ks.getD k .eff = .eff
    · refine ⟨fun h => ?_, fun i hi oi hoi => ?_⟩
      · simp only [he] at hc; rw [h] at hc; simp at hc
      · simp only [he] at hc
        have hr : Region.ready .any ops.toArray listed = [k] := by simpa using hc.1
        rw [hr] at hi
        have hik : i = k := by simpa using hi
        subst hik
        rw [h0] at hoi; cases hoi
        exact ⟨hd, .inl ⟨hg, H⟩⟩
    · exact quiet (kd := kd) k listed hd h0 he (.inr ⟨hg, rfl⟩) hc.1 H
  | @pure o kd rest st L x hd hg hq _ ih =>
    intro k listed hl hk hc
    have h0 : ops[k]? = some o := by have := hl 0; simpa using this.symm
    simp only [List.length_cons, chk, Bool.and_eq_true] at hc
    have H := ih (k + 1) (listed.setIfInBounds k true) (fun j => by have := hl (j + 1); simpa [Nat.add_assoc, Nat.add_comm 1 j] using this)
      (fun j p hp => by have := hk (j + 1) p (by simpa using hp); simpa [Nat.add_assoc, Nat.add_comm 1 j] using this) hc.2
    by_cases he : ks.getD k .eff = .eff
    · refine ⟨fun h => ?_, fun i hi oi hoi => ?_⟩
      · simp only [he] at hc; rw [h] at hc; simp at hc
      · simp only [he] at hc
        have hr : Region.ready .any ops.toArray listed = [k] := by simpa using hc.1
        rw [hr] at hi
        have hik : i = k := by simpa using hi
        subst hik
        rw [h0] at hoi; cases hoi
        refine ⟨hd, .inr ⟨hg, ?_⟩⟩
        rw [he]
        exact (hq.any L).op H
    · refine quiet (kd := kd) k listed hd h0 he (.inl ⟨hg, ?_⟩) hc.1 H
      cases hk' : ks.getD k .eff <;> first | exact hq | exact hq.any L
  | @read o kd rest st L x hd hg hne hq _ ih =>
    intro k listed hl hk hc
    have h0 : ops[k]? = some o := by have := hl 0; simpa using this.symm
    have hk0 : kd = ks.getD k .eff := by have := hk 0 (o, kd) rfl; simpa using this
    simp only [List.length_cons, chk, Bool.and_eq_true] at hc
    have H := ih (k + 1) (listed.setIfInBounds k true) (fun j => by have := hl (j + 1); simpa [Nat.add_assoc, Nat.add_comm 1 j] using this)
      (fun j p hp => by have := hk (j + 1) p (by simpa using hp); simpa [Nat.add_assoc, Nat.add_comm 1 j] using this) hc.2
    by_cases he : ks.getD k .eff = .eff
    · refine ⟨fun h => ?_, fun i hi oi hoi => ?_⟩
      · simp only [he] at hc; rw [h] at hc; simp at hc
      · simp only [he] at hc
        have hr : Region.ready .any ops.toArray listed = [k] := by simpa using hc.1
        rw [hr] at hi
        have hik : i = k := by simpa using hi
        subst hik
        rw [h0] at hoi; cases hoi
        refine ⟨hd, .inr ⟨hg, ?_⟩⟩
        rw [he]
        exact hq.op H
    · refine quiet (kd := kd) k listed hd h0 he (.inl ⟨hg, ?_⟩) hc.1 H
      rw [hk0] at hne
      cases hk' : ks.getD k .eff with
      | pure => exact absurd hk' hne
      | eff => exact absurd hk' he
      | read => exact hq
  | @eff o rest st L K hd hg hop _ ih =>
    intro k listed hl hk hc
    have h0 : ops[k]? = some o := by have := hl 0; simpa using this.symm
    have hk0 : Kd.eff = ks.getD k .eff := by have := hk 0 (o, .eff) rfl; simpa using this
    simp only [List.length_cons, chk, Bool.and_eq_true, ← hk0] at hc
    have hr : Region.ready .any ops.toArray listed = [k] := by simpa using hc.1
    refine ⟨fun h => ?_, fun i hi oi hoi => ?_⟩
    · rw [h] at hr; cases hr
    · rw [hr] at hi
      have hik : i = k := by simpa using hi
      subst hik
      rw [h0] at hoi; cases hoi
      refine ⟨hd, .inr ⟨hg, ?_⟩⟩
      rw [← hk0]
      refine hop.mono fun x L' hK => ?_
      exact ih x L' hK (i + 1) (listed.setIfInBounds i true) (fun j => by have := hl (j + 1); simpa [Nat.add_assoc, Nat.add_comm 1 j] using this)
        (fun j p hp => by have := hk (j + 1) p (by simpa using hp); simpa [Nat.add_assoc, Nat.add_comm 1 j] using this) hc.2
theorem AAny_wp {ks : List Kd} {Q : St → Own → Prop} {F : Fr} {Q' : Exit → Act → World → Prop} : ∀ (fuel : Nat) (listed : Array Bool) (st : St) (L : Own) (σ : Hp) (a : Act) (w : World),
    AAny P N ops ks Q fuel listed st L → HRel σ L F w → TR σ N st a →
    (∀ τ st' L' a' w', σ.le τ → HRel τ L' F w' → TR τ N st' a' → Q st' L' → Q' .normal a' w') → wpAny P .any ops.toArray Q' fuel listed a w
  | 0, _, st, L, σ, a, w, h, hr, ht, hn => ⟨h.1, hn σ st L a w σ.le_refl hr ht h.2⟩
  | fuel + 1, listed, st, L, σ, a, w, h, hr, ht, hn => by
    refine ⟨fun he => hn σ st L a w σ.le_refl hr ht (h.1 he), fun i hi => ?_⟩
    obtain ⟨_, o, ho, _⟩ := mem_ready.1 hi
    rw [List.getElem?_toArray] at ho
    obtain ⟨hd, hk⟩ := h.2 i hi o ho
    have next : ∀ τ st' L' a' w', σ.le τ → HRel τ L' F w' → TR τ N st' a' → AAny P N ops ks Q fuel (listed.setIfInBounds i true) st' L' → wpAny P .any ops.toArray Q' fuel (listed.setIfInBounds i true) a' w' :=
      fun τ st' L' a' w' h1 h2 h3 h4 => AAny_wp fuel _ st' L' τ a' w' h4 h2 h3 (fun υ st'' L'' a'' w'' q => hn υ st'' L'' a'' w'' (Hp.le_trans h1 q))
    unfold wpOp
    rw [List.getElem?_toArray, ho]
    simp only
    rcases hk with ⟨hg, hk⟩ | ⟨hg, hk⟩
    · rw [guardA_sound hg ht]
      simp only [Bool.false_eq_true, if_false]
      exact next σ _ _ _ _ σ.le_refl hr (ht.put _ hd (.lit _)) hk
    · rw [guardA_sound hg ht]
      simp only [if_true]
      refine .inl ?_
      cases hkk : ks.getD i .eff with
      | eff =>
        rw [hkk] at hk
        exact AOp.wp hk hd hr ht fun τ x L' a' w' h1 h2 h3 h4 => next τ _ _ _ _ h1 h2 h3 h4
      | read =>
        rw [hkk] at hk
        obtain ⟨x, hx, hk⟩ := hk
        exact AOp.wp (hx.op (K := fun y M => y = x ∧ M = L) ⟨rfl, rfl⟩) hd hr ht fun τ y M a' w' h1 h2 h3 ⟨e1, e2⟩ => next τ _ _ _ _ h1 h2 h3 (by rw [e1, e2]; exact hk)
      | pure =>
        rw [hkk] at hk
        obtain ⟨x, hx, hk⟩ := hk
        exact AOp.wp ((hx.any L).op (K := fun y M => y = x ∧ M = L) ⟨rfl, rfl⟩) hd hr ht fun τ y M a' w' h1 h2 h3 ⟨e1, e2⟩ => next τ _ _ _ _ h1 h2 h3 (by rw [e1, e2]; exact hk)
end any
structure AWp (P : Program) (N : Nat) (c : Code) (Q : Exit → St → Own → Prop) (st : St) (L : Own) : Prop where
  out : ∀ (σ : Hp) (F : Fr) (w : World) (a : Act), HRel σ L F w → TR σ N st a → c.wp P (Post σ N F Q) a w
def thenA (K : St → Own → Prop) (Q : Exit → St → Own → Prop) : Exit → St → Own → Prop
  | .normal, st, L => K st L
  | e, st, L => Q e st L
def blockA (id : Nat) (Q : Exit → St → Own → Prop) : Exit → St → Own → Prop
  | .exit i, st, L => bif Nat.beq i id then Q .normal st L else Q (.exit i) st L
  | e, st, L => Q e st L
section code
variable {P : Program} {N : Nat} {Q : Exit → St → Own → Prop} {st : St} {L : Own}
theorem AWp.mono {c : Code} {Q' : Exit → St → Own → Prop} (h : AWp P N c Q st L) (hq : ∀ e st L, Q e st L → Q' e st L) : AWp P N c Q' st L :=
  ⟨fun σ F w a hr ht => wp_mono (h.out σ F w a hr ht) fun e a w ⟨τ, st', L', a1, a2, a3, a4⟩ => ⟨τ, st', L', a1, a2, a3, hq _ _ _ a4⟩⟩
theorem a_skip (h : Q .normal st L) : AWp P N .skip Q st L := ⟨fun σ F w a hr ht => wp_skip ⟨σ, st, L, σ.le_refl, hr, ht, h⟩⟩
theorem a_exit {id : Nat} (h : Q (.exit id) st L) : AWp P N (.exit id) Q st L := ⟨fun σ F w a hr ht => wp_exit ⟨σ, st, L, σ.le_refl, hr, ht, h⟩⟩
theorem a_ret (h : Q .ret st L) : AWp P N .ret Q st L := ⟨fun σ F w a hr ht => wp_ret ⟨σ, st, L, σ.le_refl, hr, ht, h⟩⟩
theorem a_seq {x y : Code} (h : AWp P N x (thenA (AWp P N y Q) Q) st L) : AWp P N (.seq x y) Q st L :=
  ⟨fun σ F w a hr ht => wp_seq (wp_mono (h.out σ F w a hr ht) fun e a w hp => by
    obtain ⟨τ, st', L', a1, a2, a3, a4⟩ := hp
    cases e with
    | normal => exact wp_mono (a4.out τ F w a a2 a3) fun e a w k => k.le a1
    | exit id => exact ⟨τ, st', L', a1, a2, a3, a4⟩
    | goto l => exact ⟨τ, st', L', a1, a2, a3, a4⟩
    | ret => exact ⟨τ, st', L', a1, a2, a3, a4⟩
    | panic ch => exact ⟨τ, st', L', a1, a2, a3, a4⟩
    | outgrown => exact ⟨τ, st', L', a1, a2, a3, a4⟩)⟩
theorem a_condT {c : Operand} {x y : Code} (hc : ev st c = .lit (.bool true)) (h : AWp P N x Q st L) : AWp P N (.cond c x y) Q st L :=
  ⟨fun σ F w a hr ht => wp_cond_true (by have := ht.eval c; rw [hc] at this; exact this.lit_inv) (h.out σ F w a hr ht)⟩
theorem a_condF {c : Operand} {x y : Code} (hc : ev st c = .lit (.bool false)) (h : AWp P N y Q st L) : AWp P N (.cond c x y) Q st L :=
  ⟨fun σ F w a hr ht => wp_cond_false (by have := ht.eval c; rw [hc] at this; exact this.lit_inv) (h.out σ F w a hr ht)⟩
theorem a_block {id : Nat} {c : Code} (h : AWp P N c (blockA id Q) st L) : AWp P N (.block id c) Q st L :=
  ⟨fun σ F w a hr ht => wp_block (wp_mono (h.out σ F w a hr ht) fun e a w hp => by
    obtain ⟨τ, st', L', a1, a2, a3, a4⟩ := hp
    cases e with
    | exit i =>
      by_cases hi : i = id
      · subst hi
        simp only [Exit.inBlock, if_true]
        exact ⟨τ, st', L', a1, a2, a3, by simpa [blockA] using a4⟩
      · simp only [Exit.inBlock, if_neg hi]
        exact ⟨τ, st', L', a1, a2, a3, by simpa [blockA, beq_false hi] using a4⟩
    | normal => exact ⟨τ, st', L', a1, a2, a3, a4⟩
    | goto l => exact ⟨τ, st', L', a1, a2, a3, a4⟩
    | ret => exact ⟨τ, st', L', a1, a2, a3, a4⟩
    | panic ch => exact ⟨τ, st', L', a1, a2, a3, a4⟩
    | outgrown => exact ⟨τ, st', L', a1, a2, a3, a4⟩)⟩
theorem a_reg {id : Nat} {l : List Oper} (h : AL P N l (fun st' L' => Q .normal st' L') (l.map fun o => (o, Kd.eff)) st L) : AWp P N (.region id l.toArray false) Q st L :=
  ⟨fun σ F w a hr ht => wp_region (by
    have := al_wpOps (F := F) (Q' := Post σ N F Q) h 0 σ a w (fun j => by rw [List.map_map, show (Prod.fst ∘ fun o : Oper => (o, Kd.eff)) = _root_.id from rfl, List.map_id]; simp) hr ht (fun τ st' L' a' w' a1 a2 a3 a4 => ⟨τ, st', L', a1, a2, a3, a4⟩)
    rw [List.length_map] at this
    rw [List.size_toArray, List.range_eq_range']
    exact this)⟩
theorem a_regD {id : Nat} {l : List Oper} (ks : List Kd) (hm : P.follows .mixedOrders = true) (hk : ks.length = l.length) (hc : chk l.toArray ks l.length 0 (Array.replicate l.length false) = true)
    (h : AL P N l (fun st' L' => Q .normal st' L') (l.zip ks) st L) : AWp P N (.region id l.toArray true) Q st L :=
  ⟨fun σ F w a hr ht => wp_region_any hm (by
    have hlen : (l.zip ks).length = l.length := by simp [hk]
    have h1 := AAny_lex (ks := ks) h 0 (Array.replicate l.length false) (fun j => by rw [List.map_fst_zip (by omega)]; simp) (fun j p hp => by
      obtain ⟨a, b⟩ := p
      have := List.getElem?_zip_eq_some.1 hp
      simp [List.getD_eq_getElem?_getD, this.2]) (by rw [hlen]; exact hc)
    rw [hlen] at h1
    have := AAny_wp (F := F) (Q' := Post σ N F Q) l.length _ st L σ a { w with drawn := w.drawn + 1 } h1 (hr.grow (fun _ _ => rfl) rfl rfl) ht (fun τ st' L' a' w' a1 a2 a3 a4 => ⟨τ, st', L', a1, a2, a3, a4⟩)
    simpa using this)⟩
def kdOf : Op → Kd
  | .alloc _ | .box _ _ | .buildSlice _ _ _ | .insert _ _ _ _ | .store _ _ _ | .makeMap _ _ | .makeSlice _ _ _ | .mapUpdate _ _ _ _ | .mapEntry _ _ _ | .entryStore _ _ _ _ => .eff
  | .call { callee := .builtin .len, .. } | .call { callee := .builtin .min, .. } | .call { callee := .builtin .max, .. } => .pure
  | .call _ => .eff
  | _ => .pure
def kdOfR (o : Op) : Kd := match kdOf o, o with
  | .eff, _ => .eff
  | _, .load _ _ | _, .indexAddr _ _ _ | _, .call _ | _, .lookup _ _ _ _ => .read
  | _, _ => .pure
theorem map_zip (l : List Oper) (f : Op → Kd) : l.zip (l.map fun o => f o.op) = l.map fun o => (o, f o.op) := by
  induction l with
  | nil => rfl
  | cons o l ih => simp only [List.map_cons, List.zip_cons_cons, ih]
theorem a_regP {id : Nat} {l : List Oper} (hm : P.follows .mixedOrders = true) (hc : chk l.toArray (l.map fun o => kdOf o.op) l.length 0 (Array.replicate l.length false) = true)
    (h : AL P N l (fun st' L' => Q .normal st' L') (l.map fun o => (o, kdOf o.op)) st L) : AWp P N (.region id l.toArray true) Q st L :=
  a_regD _ hm (by simp) hc (by rw [map_zip]; exact h)
theorem a_regR {id : Nat} {l : List Oper} (hm : P.follows .mixedOrders = true) (hc : chk l.toArray (l.map fun o => kdOfR o.op) l.length 0 (Array.replicate l.length false) = true)
    (h : AL P N l (fun st' L' => Q .normal st' L') (l.map fun o => (o, kdOfR o.op)) st L) : AWp P N (.region id l.toArray true) Q st L :=
  a_regD _ hm (by simp) hc (by rw [map_zip]; exact h)
theorem a_loop {c : Code} (I : Nat → St → Own → Prop) (n : Nat) (h0 : I n st L) (round : ∀ n st L, I n st L → AWp P N c (thenA (fun st' L' => ∃ k, k < n ∧ I k st' L') Q) st L) : AWp P N (.loop c) Q st L :=
  ⟨fun σ F w a hr ht => by
    have key : ∀ n, ∀ (σ' : Hp) (st : St) (L : Own) (a : Act) (w : World), σ.le σ' → I n st L → HRel σ' L F w → TR σ' N st a → ∀ (b : Frame) (k : List Item) (cs : List Frame),
        ∃ e a' w', Post σ N F Q e a' w' ∧ Arrives P (lone (b.at a (.code c :: .inLoop c :: k)) cs w) b k cs e a' w' := by
      intro n
      induction n using Nat.strongRecOn with
      | _ n ih =>
        intro σ' st L a w hle hI hr ht b k cs
        obtain ⟨e, a₁, w₁, hq, harr⟩ := (round n st L hI).out σ' F w a hr ht b (.inLoop c :: k) cs
        obtain ⟨τ, st', L', a1, a2, a3, a4⟩ := hq
        cases e with
        | normal =>
          obtain ⟨m, hm, hI'⟩ := a4
          obtain ⟨e₂, a₂, w₂, hq₂, harr₂⟩ := ih m hm τ st' L' a₁ w₁ (Hp.le_trans hle a1) hI' a2 a3 b k cs
          exact ⟨e₂, a₂, w₂, hq₂, .of_steps (Steps.trans harr (.one step_inLoop)) harr₂⟩
        | exit id => exact ⟨_, a₁, w₁, ⟨τ, st', L', Hp.le_trans hle a1, a2, a3, a4⟩, .pass (x := .inLoop c) rfl (fun _ _ => .inl (by simp)) harr⟩
        | goto l => exact ⟨_, a₁, w₁, ⟨τ, st', L', Hp.le_trans hle a1, a2, a3, a4⟩, .pass (x := .inLoop c) rfl (fun _ _ => .inl (by simp)) harr⟩
        | ret => exact ⟨_, a₁, w₁, ⟨τ, st', L', Hp.le_trans hle a1, a2, a3, a4⟩, .pass (x := .inLoop c) rfl (fun _ _ => .inl (by simp)) harr⟩
        | panic ch => exact ⟨_, a₁, w₁, ⟨τ, st', L', Hp.le_trans hle a1, a2, a3, a4⟩, .pass (x := .inLoop c) rfl (fun _ _ => .inl (by simp)) harr⟩
        | outgrown => exact ⟨_, a₁, w₁, ⟨τ, st', L', Hp.le_trans hle a1, a2, a3, a4⟩, .pass (x := .inLoop c) rfl (fun _ _ => .inl (by simp)) harr⟩
    intro b k cs
    obtain ⟨e, a', w', hq, harr⟩ := key n σ st L a w σ.le_refl h0 hr ht b k cs
    exact ⟨e, a', w', hq, .of_steps (.one step_loop) harr⟩⟩
end code
def Sub (x y : AV) : Prop := ∀ σ v, VR σ x v → VR σ y v
theorem Sub.refl (x : AV) : Sub x x := fun _ _ h => h
theorem Sub.any (x : AV) : Sub x .any := fun _ v _ => .any v
theorem Sub.nil (sz : Nat) : Sub (.lit (.slice none 0 0)) (.im sz []) := fun _ v h => by rw [h.lit_inv]; exact .imNil _ _ _
theorem Sub.of_eq {x y : AV} (h : x = y) : Sub x y := h ▸ Sub.refl x
def SubL : List AV → List AV → Prop
  | [], [] => True
  | x :: l, y :: m => Sub x y ∧ SubL l m
  | _, _ => False
theorem SubL.refl : ∀ l : List AV, SubL l l
  | [] => trivial
  | x :: l => ⟨Sub.refl x, SubL.refl l⟩
theorem SubL.of_eq {l m : List AV} (h : l = m) : SubL l m := h ▸ SubL.refl l
theorem SubL.vrs {σ : Hp} : ∀ {l m : List AV} {vs : List Value}, SubL l m → VRs σ l vs → VRs σ m vs
  | [], [], vs, _, h => h
  | x :: l, y :: m, vs, hs, h => by
    obtain ⟨v, us, rfl, hv, hus⟩ := h.cons_inv
    exact .cons (hs.1 σ v hv) (SubL.vrs hs.2 hus)
  | [], _ :: _, _, h, _ => h.elim
  | _ :: _, [], _, h, _ => h.elim
theorem Sub.tup {l m : List AV} (h : SubL l m) : Sub (.tup l) (.tup m) := fun σ v hv => by
  obtain ⟨vs, rfl, hvs⟩ := hv.tup_inv
  exact VR.tup_of (h.vrs hvs)
theorem Sub.agg {l m : List AV} (h : SubL l m) : Sub (.agg l) (.agg m) := fun σ v hv => by
  obtain ⟨vs, rfl, hvs⟩ := hv.agg_inv
  exact VR.agg_of (h.vrs hvs)
def SubS (st st' : St) : Prop := ∀ i, Sub (st i) (st' i)
theorem SubS.refl (st : St) : SubS st st := fun _ => Sub.refl _
theorem subs_nil {st : St} : SubS st (lk []) := fun _ => Sub.any _
theorem subs_cons {st : St} {i : Nat} {x : AV} {l : List (Nat × AV)} (h : Sub (st i) x) (k : SubS st (lk l)) : SubS st (lk ((i, x) :: l)) := fun j => by
  by_cases e : i = j
  · subst e
    rw [show lk ((i, x) :: l) i = x by simp [lk]]
    exact h
  · rw [show lk ((i, x) :: l) j = lk l j by simp [lk, beq_false e]]
    exact k j
theorem TR.sub {σ : Hp} {N : Nat} {st st' : St} {a : Act} (h : TR σ N st a) (k : SubS st st') : TR σ N st' a := ⟨h.defers, h.size, fun i => k i σ _ (h.vals i)⟩
theorem a_sub {P : Program} {N : Nat} {c : Code} {Q : Exit → St → Own → Prop} {st : St} {L : Own} (st' : St) (h : SubS st st') (k : AWp P N c Q st' L) : AWp P N c Q st L :=
  ⟨fun σ F w a hr ht => k.out σ F w a hr (ht.sub h)⟩
theorem a_ownSub {P : Program} {N : Nat} {c : Code} {Q : Exit → St → Own → Prop} {st : St} {L : Own} (M : Own) (h : OSub M L) (k : AWp P N c Q st M) : AWp P N c Q st L :=
  ⟨fun σ F w a hr ht => k.out σ F w a (hr.osub h) ht⟩
theorem zlx {P : Program} {N : Nat} {c : Code} {Q : Exit → St → Own → Prop} {st : St} {L : Own} {X : Type} (sx : X → List (Nat × AV)) (lx : X → Own) (px : X → Prop) (m : X → Nat) (x0 : X)
    (h0 : px x0) (hs : SubS st (lk (sx x0))) (hl : OSub (lx x0) L)
    (round : ∀ x, px x → AWp P N c (thenA (fun st' L' => ∃ x', px x' ∧ m x' < m x ∧ SubS st' (lk (sx x')) ∧ OSub (lx x') L') Q) (lk (sx x)) (lx x)) : AWp P N (.loop c) Q st L := by
  refine a_loop (fun n st L => ∃ x, px x ∧ m x = n ∧ SubS st (lk (sx x)) ∧ OSub (lx x) L) (m x0) ⟨x0, h0, rfl, hs, hl⟩ ?_
  rintro n st L ⟨x, hx, rfl, hs, hl⟩
  refine a_ownSub _ hl (a_sub _ hs ((round x hx).mono fun e st' L' h => ?_))
  cases e with
  | normal => obtain ⟨x', h1, h2, h3, h4⟩ := h; exact ⟨m x', h2, x', h1, rfl, h3, h4⟩
  | _ => exact h
theorem a_mid {P : Program} {N : Nat} {c c' : Code} {Q : Exit → St → Own → Prop} {st : St} {L : Own} (M : St → Own → Prop) (h : AWp P N c (thenA M Q) st L) (k : ∀ st L, M st L → AWp P N c' Q st L) : AWp P N (.seq c c') Q st L :=
  a_seq (h.mono fun e st L hq => by cases e <;> first | exact k _ _ hq | exact hq)
def FOK (P : Program) (f : FuncId) : Prop := ∃ fn, P.funcs[f]? = some fn ∧ (fn.name == "runtime.NumGoroutine") = false ∧ fn.body.isNone = false
structure ACalls (P : Program) (f : FuncId) (args : List AV) (L : Own) (R : AV → Own → Prop) : Prop where
  ok : FOK P f
  out : ∀ (σ : Hp) (F : Fr) (w : World) (vs : List Value), HRel σ L F w → VRs σ args vs →
    Calls P f vs.toArray w fun e w' => ∃ v, e = .returned v ∧ ∃ τ x L', σ.le τ ∧ HRel τ L' F w' ∧ VR τ x v ∧ R x L'
theorem ACalls.mono {P : Program} {f : FuncId} {args : List AV} {L : Own} {R R' : AV → Own → Prop} (h : ACalls P f args L R) (hr : ∀ x L', R x L' → R' x L') : ACalls P f args L R' :=
  ⟨h.ok, fun σ F w vs a b => (h.out σ F w vs a b).mono fun e w' ⟨v, hv, τ, x, L', h1, h2, h3, h4⟩ => ⟨v, hv, τ, x, L', h1, h2, h3, hr _ _ h4⟩⟩
def enum : Nat → List AV → List (Nat × AV)
  | _, [] => []
  | n, x :: l => (n, x) :: enum (n + 1) l
theorem lk_enum (σ : Hp) : ∀ (l : List AV) (vs : List Value) (n i : Nat) (d : Value), VRs σ l vs → n ≤ i → VR σ (lk (enum n l) i) (vs.getD (i - n) d)
  | [], vs, n, i, d, _, _ => .any _
  | x :: l, vs, n, i, d, h, hi => by
    obtain ⟨y, ys, rfl, hy, hys⟩ := h.cons_inv
    by_cases e : n = i
    · subst e
      simp [enum, lk]
      exact hy
    · have := lk_enum σ l ys (n + 1) i d hys (by omega)
      simp only [enum, lk, beq_false e, cond_false]
      rw [show i - n = (i - (n + 1)) + 1 by omega, List.getD_cons_succ]
      exact this
def resL (st : St) : List ResultVar → Option (List AV)
  | [] => some []
  | .tmp t :: l => match resL st l with
    | some xs => some (st t :: xs)
    | none => none
  | .cell _ _ :: _ => none
def resA (st : St) : List ResultVar → Option AV
  | [.tmp t] => some (st t)
  | l => match resL st l with
    | some xs => some (.tup xs)
    | none => none
def resOne (tmps : Array Value) : ResultVar → Sem Value
  | .tmp t => pure (tmps.getD t undef)
  | .cell a t => do loadVar t (← asAddr (tmps.getD a undef))
theorem results_eq (fn : Func) (tmps : Array Value) : results fn tmps = (do let vs ← fn.results.mapM (resOne tmps); pure (if h : vs.size = 1 then vs[0] else .tuple vs)) := by
  unfold results resOne
  rfl
theorem resL_run {σ : Hp} {N : Nat} {st : St} {a : Act} (ht : TR σ N st a) (P : Program) (w : World) : ∀ (l : List ResultVar) (xs : List AV), resL st l = some xs →
    ∃ vs : List Value, (l.mapM (resOne a.tmps)).run P w = .ok vs w ∧ VRs σ xs vs ∧ xs.length = l.length
  | [], xs, h => by
    simp [resL] at h
    subst h
    exact ⟨[], rfl, .nil, rfl⟩
  | .tmp t :: l, xs, h => by
    simp only [resL] at h
    cases hl : resL st l with
    | none => rw [hl] at h; cases h
    | some ys =>
      rw [hl] at h
      cases h
      obtain ⟨vs, hv, hr, he⟩ := resL_run ht P w l ys hl
      refine ⟨a.tmps.getD t undef :: vs, ?_, .cons (ht.vals t) hr, by simp [he]⟩
      simp only [List.mapM_cons, Sem.run_bind, resOne, Sem.run_pure, Result.andThen_ok, hv]
  | .cell c t :: l, xs, h => by
    simp only [resL] at h
    cases h
theorem results_run {σ : Hp} {N : Nat} {st : St} {a : Act} (ht : TR σ N st a) (P : Program) (w : World) (fn : Func) {l : List ResultVar} (hl : fn.results = l.toArray) {x : AV} (hx : resA st l = some x) :
    ∃ v, (results fn a.tmps).run P w = .ok v w ∧ VR σ x v := by
  have key : ∀ xs, resL st l = some xs → ∃ vs : List Value, VRs σ xs vs ∧ xs.length = l.length ∧ (results fn a.tmps).run P w = .ok (if h : vs.toArray.size = 1 then vs.toArray[0] else .tuple vs.toArray) w := by
    intro xs hxs
    obtain ⟨vs, hv, hr, he⟩ := resL_run ht P w l xs hxs
    refine ⟨vs, hr, he, ?_⟩
    rw [results_eq, hl]
    simp only [List.mapM_toArray, Sem.run_bind, Sem.run_map, hv, Result.andThen_ok, Sem.run_pure]
  unfold resA at hx
  split at hx
  · rename_i t
    cases hx
    obtain ⟨vs, hr, he, hv⟩ := key [st t] rfl
    obtain ⟨y, ys, rfl, hy, hys⟩ := hr.cons_inv
    obtain rfl := hys.nil_inv
    exact ⟨y, by simpa using hv, hy⟩
  · rename_i hne
    cases hm : resL st l with
    | none => rw [hm] at hx; cases hx
    | some xs =>
      rw [hm] at hx
      cases hx
      by_cases h1 : l.length = 1
      · match l, h1, hne, hm with
        | [.tmp t], _, hne, _ => exact absurd rfl (hne t)
        | [.cell c t], _, _, hm => simp [resL] at hm
      · obtain ⟨vs, hr, he, hv⟩ := key xs hm
        refine ⟨.tuple vs.toArray, ?_, VR.tup_of hr⟩
        rw [hv, dif_neg (by simp [hr.1, he, h1])]
def Turn (x : AV) (L : Own) (y : AV) (M : Own) : Prop := ∀ (τ : Hp) (F : Fr) (w : World) (u : Value), HRel τ L F w → VR τ x u → ∃ υ, Hp.le τ υ ∧ HRel υ M F w ∧ VR υ y u
theorem Turn.of {x y : AV} {L M : Own} (h : Sub x y) (k : OSub M L) : Turn x L y M := fun τ F w u a b => ⟨τ, Hp.le_refl τ, a.osub k, h τ u b⟩
theorem Turn.trans {x y z : AV} {L M K : Own} (h : Turn x L y M) (k : Turn y M z K) : Turn x L z K := fun τ F w u a b => by
  obtain ⟨υ, h1, h2, h3⟩ := h τ F w u a b
  obtain ⟨φ, h4, h5, h6⟩ := k υ F w u h2 h3
  exact ⟨φ, Hp.le_trans h1 h4, h5, h6⟩
def FinP (rs : List ResultVar) (R : AV → Own → Prop) (e : Exit) (st : St) (L : Own) : Prop :=
  (e = .normal ∨ e = .ret) ∧ ∃ x y M, resA st rs = some x ∧ Turn x L y M ∧ R y M
theorem fin {rs : List ResultVar} {R : AV → Own → Prop} {e : Exit} {st : St} {L M : Own} {x y : AV} (he : e = .normal ∨ e = .ret) (hx : resA st rs = some x) (hs : Sub x y) (hr : R y M) (hm : OSub M L) : FinP rs R e st L := ⟨he, x, y, M, hx, .of hs hm, hr⟩
theorem finT {rs : List ResultVar} {R : AV → Own → Prop} {e : Exit} {st : St} {L M : Own} {x y : AV} (he : e = .normal ∨ e = .ret) (hx : resA st rs = some x) (ht : Turn x L y M) (hr : R y M) : FinP rs R e st L := ⟨he, x, y, M, hx, ht, hr⟩
theorem zen {P : Program} {f : FuncId} {fn : Func} {c : Code} {N : Nat} {rs : List ResultVar} {args : List AV} {L : Own} {R : AV → Own → Prop}
    (hf : P.funcs[f]? = some fn) (hname : (fn.name == "runtime.NumGoroutine") = false) (hb : fn.body = some c) (hn : fn.ntmps = N) (hr : fn.results = rs.toArray) (ha : args.length ≤ N)
    (h : AWp P N c (FinP rs R) (lk (enum 0 args)) L) : ACalls P f args L R :=
  ⟨⟨fn, hf, hname, by rw [hb]; rfl⟩, fun σ F w vs hL hvs => by
    refine calls_of_wp hf hb (wp_mono (h.out σ F w _ hL ?_) ?_)
    · refine ⟨rfl, ?_, fun i => ?_⟩
      · simp [hn]; have := hvs.1; omega
      · have h1 := lk_enum σ args vs 0 i undef hvs (Nat.zero_le _)
        simp only [Nat.sub_zero] at h1
        simp only [Array.getD_eq_getD_getElem?, Array.getElem?_append, List.size_toArray, List.getElem?_toArray, Array.getElem?_replicate]
        split
        · rename_i hi; simpa [List.getD_eq_getElem?_getD] using h1
        · rename_i hi
          have hn : vs[i]? = none := by simp at hi ⊢; omega
          rw [List.getD_eq_getElem?_getD, hn] at h1
          split <;> exact h1
    · rintro e a w' ⟨τ, st, L', a1, a2, a3, he, x, y, M, hx, ht, hR⟩
      obtain ⟨v, hv, hxv⟩ := results_run a3 P w' fn hr hx
      obtain ⟨υ, b1, b2, b3⟩ := ht τ F w' v a2 hxv
      have : a.defers = [] ∧ ∃ v, (results fn a.tmps).run P w' = .ok v w' ∧ ∃ u, Ending.returned v = .returned u ∧ ∃ τ x L', σ.le τ ∧ HRel τ L' F w' ∧ VR τ x u ∧ R x L' :=
        ⟨a3.defers, v, hv, v, rfl, υ, y, M, Hp.le_trans a1 b1, b2, b3, hR⟩
      rcases he with rfl | rfl
      · exact this
      · exact this⟩
end Go.Sj
namespace Go.Sj
inductive TK where
  | int (k : IntKind) | bool | str | slice (e : TypeId) | struct (fs : List (Nat × TypeId)) | array (n : Nat) (e : TypeId) | ptr (e : TypeId) | func | map (k e : TypeId) | iface | other
  deriving DecidableEq
def kindOf : TypeDesc → TK
  | .bool => .bool
  | .int k => .int k
  | .string => .str
  | .pointer e => .ptr e
  | .slice e => .slice e
  | .array n e => .array n e
  | .map k e => .map k e
  | .struct fs => .struct (fs.toList.map fun f => (f.offset, f.type))
  | .func _ _ _ => .func
  | .interface _ => .iface
  | _ => .other
structure TD where
  kind : TK
  size : Nat
  bytes : Nat
  zero : List Value
def TD.isAgg (d : TD) : Bool := match d.kind with
  | .struct _ | .array _ _ => true
  | _ => false
def lkT : List (TypeId × TD) → TypeId → Option TD
  | [], _ => none
  | (i, d) :: r, j => bif Nat.beq i j then some d else lkT r j
structure TI (P : Program) (t : TypeId) (d : TD) : Prop where
  kind : (P.underlying t).map kindOf = some d.kind
  info : (P.info? t).map (fun i => (i.size, i.bytes)) = some (d.size, d.bytes)
  zero : ((P.info? t).bind (·.zero)).map (fun z => z.cells.toList) = some d.zero
  zlen : d.zero.length = d.size
def okL (P : Program) : List (TypeId × TD) → Prop
  | [] => True
  | (t, d) :: r => TI P t d ∧ okL P r
def TOK (P : Program) (tt : List (TypeId × TD)) : Prop := ∀ t d, lkT tt t = some d → TI P t d
theorem tok_of {P : Program} : ∀ {tt : List (TypeId × TD)}, okL P tt → TOK P tt
  | [], _, t, d, h => by simp [lkT] at h
  | (i, x) :: r, hk, t, d, h => by
    simp only [lkT] at h
    cases e : Nat.beq i t with
    | true =>
      rw [e] at h
      simp only [cond_true] at h
      cases h
      obtain rfl := Nat.eq_of_beq_eq_true e
      exact hk.1
    | false =>
      rw [e] at h
      exact tok_of hk.2 t d h
section ty
variable {P : Program} {t : TypeId} {d : TD} (h : TI P t d)
include h
theorem TI.desc : ∃ x, P.underlying t = some x ∧ kindOf x = d.kind := by
  have := h.kind
  cases e : P.underlying t with
  | none => rw [e] at this; cases this
  | some x => rw [e] at this; exact ⟨x, rfl, by simpa using this⟩
theorem TI.get : ∃ i z, P.info? t = some i ∧ i.size = d.size ∧ i.bytes = d.bytes ∧ i.zero = some z ∧ z.cells.toList = d.zero := by
  have h1 := h.info
  have h2 := h.zero
  cases e : P.info? t with
  | none => rw [e] at h1; cases h1
  | some i =>
    rw [e] at h1 h2
    simp at h1 h2
    obtain ⟨z, hz, hzz⟩ := h2
    exact ⟨i, z, rfl, h1.1, h1.2, hz, hzz⟩
theorem TI.sizeOf_run (w : World) : (sizeOf t).run P w = .ok d.size w := by
  obtain ⟨i, z, hi, hs, _⟩ := h.get
  simp [sizeOf, typeInfo, hi, hs]
theorem TI.isAgg_run (w : World) : (isAgg t).run P w = .ok d.isAgg w := by
  obtain ⟨x, hx, hk⟩ := h.desc
  simp only [isAgg, Sem.run_bind, run_underlying hx, Result.andThen_ok, TD.isAgg, ← hk]
  cases x <;> simp [kindOf]
theorem TI.zero_run (w : World) : ∃ z, (zeroValue t).run P w = .ok z w ∧ z.cells.toList = d.zero := by
  obtain ⟨i, z, hi, hs, hb, hz, hzz⟩ := h.get
  exact ⟨z, by simp [zeroValue, typeInfo, hi, hz], hzz⟩
theorem TI.slice {e : TypeId} (hk : d.kind = .slice e) : P.underlying t = some (.slice e) := by
  obtain ⟨x, hx, hk'⟩ := h.desc
  rw [hk] at hk'
  cases x <;> simp [kindOf] at hk'
  rw [hx, hk']
theorem TI.str (hk : d.kind = .str) : P.underlying t = some .string := by
  obtain ⟨x, hx, hk'⟩ := h.desc
  rw [hk] at hk'
  cases x <;> simp [kindOf] at hk'
  rw [hx]
theorem TI.int {k : IntKind} (hk : d.kind = .int k) : P.underlying t = some (.int k) := by
  obtain ⟨x, hx, hk'⟩ := h.desc
  rw [hk] at hk'
  cases x <;> simp [kindOf] at hk'
  rw [hx, hk']
theorem TI.array {n : Nat} {e : TypeId} (hk : d.kind = .array n e) : P.underlying t = some (.array n e) := by
  obtain ⟨x, hx, hk'⟩ := h.desc
  rw [hk] at hk'
  cases x <;> simp [kindOf] at hk'
  rw [hx, hk'.1, hk'.2]
theorem TI.struct {fs : List (Nat × TypeId)} (hk : d.kind = .struct fs) : ∃ gs : Array Field, P.underlying t = some (.struct gs) ∧ gs.toList.map (fun f => (f.offset, f.type)) = fs := by
  obtain ⟨x, hx, hk'⟩ := h.desc
  rw [hk] at hk'
  cases x <;> simp [kindOf] at hk'
  exact ⟨_, hx, hk'⟩
end ty
def AV.whole : AV → Bool
  | .agg _ => true
  | x => x.cell
theorem AV.whole_spec {x : AV} (h : x.whole = true) : x.cell = true ∨ ∃ l, x = .agg l := by
  cases x <;> first | exact .inr ⟨_, rfl⟩ | exact .inl h
def partA (d : TD) (l : List AV) (off : Nat) : Option AV := bif d.isAgg then (if off + d.size ≤ l.length then some (.agg ((l.drop off).take d.size)) else none) else l[off]?
theorem part_run {P : Program} {t : TypeId} {d : TD} (h : TI P t d) {σ : Hp} {l : List AV} {vs : List Value} (hv : VRs σ l vs) {off : Nat} {x : AV} (hx : partA d l off = some x) (w : World) :
    ∃ v, (part t vs.toArray off).run P w = .ok v w ∧ VR σ x v := by
  unfold partA at hx
  simp only [part, Sem.run_bind, h.isAgg_run, Result.andThen_ok]
  cases ha : d.isAgg with
  | true =>
    rw [ha] at hx
    simp only [cond_true] at hx
    split at hx
    · cases hx
      simp only [if_true, Sem.run_bind, h.sizeOf_run, Result.andThen_ok, Sem.run_pure]
      refine ⟨_, rfl, ?_⟩
      have := VR.agg_of ((hv.drop off).take d.size)
      simpa [List.extract_eq_take_drop, Nat.add_sub_cancel_left] using this
    · cases hx
  | false =>
    rw [ha] at hx
    simp only [cond_false] at hx
    obtain ⟨y, hy, hxy⟩ := hv.get hx
    refine ⟨y, ?_, hxy⟩
    simp [hy]
theorem cell_at {w : World} {b off : Nat} {c : Array Value} {E : TypeId} {fr : Nat × Nat} (h : w.heap[b]? = some (.cells c E fr)) (j : Nat) : w.cell? ((⟨b, off, none⟩ : Addr).add j) = c[off + j]? := by
  have hadd : (⟨b, off, none⟩ : Addr).add j = ⟨b, off + j, none⟩ := by unfold Addr.add; split <;> simp_all
  rw [hadd]
  simp [World.cell?, h]
theorem load_run {P : Program} {t : TypeId} {d : TD} (h : TI P t d) {σ : Hp} {l : List AV} {w : World} {b off : Nat} {f : Nat → Value}
    (hc : ∀ j x, l[j]? = some x → w.cell? ((⟨b, off, none⟩ : Addr).add j) = some (f j)) (hf : ∀ j x, l[j]? = some x → VR σ x (f j)) {x : AV} (hx : partA d l 0 = some x) :
    ∃ v, (Instr.loadAt t (.pointer (some ⟨b, off, none⟩))).run P w = .ok v w ∧ VR σ x v := by
  unfold partA at hx
  simp only [Instr.loadAt, Instr.sureAddr, pure_bind, loadVar, Sem.run_bind, h.isAgg_run, Result.andThen_ok]
  cases ha : d.isAgg with
  | true =>
    rw [ha] at hx
    simp only [cond_true, Nat.zero_add] at hx
    split at hx
    · rename_i hl
      cases hx
      have hr := run_loadCells (P := P) w ⟨b, off, none⟩ d.size f (fun j hj => by
        exact hc j _ (List.getElem?_eq_getElem (by omega)))
      simp only [if_true, Sem.run_bind, h.sizeOf_run, Result.andThen_ok, hr, Sem.run_pure]
      refine ⟨_, rfl, .agg _ _ f (by simp; omega) (fun j y hy => ?_) (fun j y hy => ?_)⟩
      · simp only [List.drop_zero, List.getElem?_take] at hy
        split at hy
        · rename_i hj; simp [hj]
        · cases hy
      · simp only [List.drop_zero, List.getElem?_take] at hy
        split at hy
        · exact hf j y hy
        · cases hy
    · cases hx
  | false =>
    rw [ha] at hx
    simp only [cond_false] at hx
    have hc0 := hc 0 x hx
    simp only [Addr.add, if_true] at hc0
    exact ⟨f 0, by simp [hc0], hf 0 x hx⟩
def fieldA (tt : List (TypeId × TD)) (T : TypeId) (f : Nat) : Option (Nat × TD) :=
  match lkT tt T with
  | some ⟨.struct fs, _, _, _⟩ =>
    match fs[f]? with
    | some (off, ft) => match lkT tt ft with
      | some d => some (off, d)
      | none => none
    | none => none
  | _ => none
def placesA (tt : List (TypeId × TD)) : List (Nat × TypeId) → Option (List (Nat × Nat))
  | [] => some []
  | (off, t) :: r => match lkT tt t, placesA tt r with
    | some d, some l => some ((off, d.size) :: l)
    | _, _ => none
def setAll : List AV → Nat → List AV → List AV
  | cs, _, [] => cs
  | cs, off, x :: xs => setAll (cs.set off x) (off + 1) xs
def fillA (place : Nat → Option (Nat × Nat)) : List AV → List (Nat × AV) → Option (List AV)
  | cs, [] => some cs
  | cs, (i, x) :: r => match place i with
    | some (off, size) => bif x.cells.length == size && Nat.ble (off + size) cs.length && x.whole then fillA place (setAll cs off x.cells) r else none
    | none => none
def peB (tt : List (TypeId × TD)) : Builtin → List AV → List TypeId → Option AV
  | .len, [x], [T] => match x, lkT tt T with
    | .im sz es, some ⟨.slice _, _, _, _⟩ => some (.lit (.int .i64 es.length))
    | .lit (.slice _ n _), some ⟨.slice _, _, _, _⟩ => some (.lit (.int .i64 n))
    | .lit (.string s), some ⟨.str, _, _, _⟩ => some (.lit (.int .i64 s.size))
    | _, _ => none
  | .min, [.lit (.int k a), .lit (.int _ b)], _ => some (.lit (.int k (min a b)))
  | .max, [.lit (.int k a), .lit (.int _ b)], _ => some (.lit (.int k (max a b)))
  | _, _, _ => none
def pe (tt : List (TypeId × TD)) (st : St) : Op → Option AV
  | .move x | .assign x => some (ev st x)
  | .pick c a b => match ev st c with
    | .lit (.bool true) => some (ev st a)
    | .lit (.bool false) => some (ev st b)
    | _ => none
  | .unOp .not _ x => match ev st x with
    | .lit (.bool b) => some (.lit (.bool (!b)))
    | _ => none
  | .extract x i => match ev st x with
    | .tup l => l[i]?
    | _ => none
  | .field T x f => match ev st x, fieldA tt T f with
    | .agg l, some (off, d) => partA d l off
    | _, _ => none
  | .build T parts => match lkT tt T with
    | some ⟨.struct fs, _, _, z⟩ => match placesA tt fs with
      | some ps => (fillA (ps[·]?) (z.map .lit) (parts.toList.map fun p => (p.1, ev st p.2))).map .agg
      | none => none
    | _ => none
  | .makeFunc g first caps => some (.fn g (first.toList.map (ev st)) (caps.toList.map (ev st)))
  | .load T x => match ev st x, lkT tt T with
    | .ip cells, some d => partA d cells 0
    | _, _ => none
  | .fieldAddr T x f => match ev st x, fieldA tt T f with
    | .ip cells, some (off, d) => bif d.size == 0 then none else some (.ip (cells.drop off))
    | .pt v sz j o, some (off, d) => bif d.size == 0 then none else some (.pt v sz j (o + off))
    | _, _ => none
  | .nilCheck x => match ev st x with
    | .ip c => some (.ip c)
    | .pt v sz j o => some (.pt v sz j o)
    | .fn (.func g) a b => some (.fn (.func g) a b)
    | _ => none
  | .call c => match c.callee with
    | .builtin b => peB tt b (c.args.toList.map (ev st)) c.argTypes.toList
    | _ => none
  | _ => none
theorem fieldA_sound {P : Program} {tt : List (TypeId × TD)} (ok : TOK P tt) {T : TypeId} {f off : Nat} {d : TD} (h : fieldA tt T f = some (off, d)) :
    ∃ (gs : Array Field) (g : Field), P.underlying T = some (.struct gs) ∧ gs[f]? = some g ∧ g.offset = off ∧ TI P g.type d := by
  unfold fieldA at h
  split at h
  · rename_i fs _ _ _ hT
    split at h
    · rename_i o ft hf
      split at h
      · rename_i d' hd
        cases h
        obtain ⟨gs, hgs, hm⟩ := (ok _ _ hT).struct rfl
        rw [← hm] at hf
        simp only [List.getElem?_map, Array.getElem?_toList, Option.map_eq_some_iff] at hf
        obtain ⟨g, hg, he⟩ := hf
        cases he
        exact ⟨gs, g, hgs, hg, rfl, ok _ _ hd⟩
      · cases h
    · cases h
  · cases h
theorem placesA_sound {P : Program} {tt : List (TypeId × TD)} (ok : TOK P tt) : ∀ (fs : List Field) (ps : List (Nat × Nat)), placesA tt (fs.map fun f => (f.offset, f.type)) = some ps →
    ∀ w, (fs.mapM (m := Sem) fun f => do pure (f.offset, ← sizeOf f.type)).run P w = .ok ps w
  | [], ps, h, w => by simp [placesA] at h; subst h; rfl
  | f :: fs, ps, h, w => by
    simp only [List.map_cons, placesA] at h
    split at h
    · rename_i d l hd hl
      cases h
      have ih := placesA_sound ok fs l hl w
      simp only [List.mapM_cons, Sem.run_bind, (ok _ _ hd).sizeOf_run, Result.andThen_ok, Sem.run_pure, ih]
    · cases h
theorem setAll_sound {σ : Hp} : ∀ (xs : List AV) (vs : List Value) (cs : List AV) (us : List Value) (off : Nat), VRs σ xs vs → VRs σ cs us → VRs σ (setAll cs off xs) (vs.zipIdx.foldl (fun cs p => cs.set (off + p.2) p.1) us) := by
  have key : ∀ (xs : List AV) (vs : List Value) (cs : List AV) (us : List Value) (off k : Nat), VRs σ xs vs → VRs σ cs us → VRs σ (setAll cs (off + k) xs) ((vs.zipIdx k).foldl (fun cs p => cs.set (off + p.2) p.1) us) := by
    intro xs
    induction xs with
    | nil => intro vs cs us off k h hc; obtain rfl := h.nil_inv; exact hc
    | cons x xs ih =>
      intro vs cs us off k h hc
      obtain ⟨y, ys, rfl, hy, hys⟩ := h.cons_inv
      simp only [setAll, List.zipIdx_cons, List.foldl_cons]
      rw [Nat.add_assoc]
      exact ih ys _ _ off (k + 1) hys (hc.set _ hy)
  intro xs vs cs us off h hc
  exact key xs vs cs us off 0 h hc
theorem toList_foldl_set (vs : List (Value × Nat)) (off : Nat) : ∀ (us : Array Value), (vs.foldl (fun cs p => cs.setIfInBounds (off + p.2) p.1) us).toList = vs.foldl (fun cs p => cs.set (off + p.2) p.1) us.toList := by
  induction vs with
  | nil => intro us; rfl
  | cons v vs ih => intro us; simp only [List.foldl_cons, ih, Array.toList_setIfInBounds]
theorem length_setAll : ∀ (xs cs : List AV) (off : Nat), (setAll cs off xs).length = cs.length
  | [], cs, off => rfl
  | x :: xs, cs, off => by simp [setAll, length_setAll xs]
theorem fillA_sound {σ : Hp} {place : Nat → Option (Nat × Nat)} : ∀ (ps : List (Nat × AV)) (qs : List (Nat × Value)) (cs : List AV) (us : Array Value) (r : List AV), fillA place cs ps = some r →
    qs.length = ps.length → (∀ (j : Nat) (p : Nat × AV) (q : Nat × Value), ps[j]? = some p → qs[j]? = some q → q.1 = p.1 ∧ VR σ p.2 q.2) → VRs σ cs us.toList → ∃ rs : Array Value, Instr.fill place us qs = some rs ∧ VRs σ r rs.toList
  | [], qs, cs, us, r, h, hl, hp, hc => by
    simp at hl; subst hl; simp [fillA] at h; subst h; exact ⟨us, rfl, hc⟩
  | (i, x) :: ps, [], cs, us, r, h, hl, hp, hc => by simp at hl
  | (i, x) :: ps, (j, v) :: qs, cs, us, r, h, hl, hp, hc => by
    obtain ⟨rfl, hv⟩ := hp 0 (i, x) (j, v) rfl rfl
    simp only [fillA] at h
    cases hpl : place j with
    | none => rw [hpl] at h; cases h
    | some os =>
      obtain ⟨off, size⟩ := os
      rw [hpl] at h
      simp only at h
      cases hb : (x.cells.length == size && Nat.ble (off + size) cs.length && x.whole) with
      | false => rw [hb] at h; cases h
      | true =>
        rw [hb] at h
        simp only [cond_true] at h
        simp only [Bool.and_eq_true, beq_iff_eq, Nat.ble_eq] at hb
        have hx : x.cell = true ∨ ∃ l, x = .agg l := by
          exact AV.whole_spec hb.2
        have hvs := hv.cells hx
        have hsz : v.cells.size = size := by have := hvs.1; simpa [hb.1.1] using this
        have hus : us.size = cs.length := by have := hc.1; simpa using this
        simp only [Instr.fill, hpl, hsz, ne_eq, not_true_eq_false, false_or]
        have hle : ¬ (off + size > us.size) := by have := hb.1.2; omega
        simp only [decide_false, Bool.false_or, decide_eq_true_eq, if_neg hle]
        refine fillA_sound ps qs (setAll cs off x.cells) _ r h (by simpa using hl) (fun j p q a b => hp (j + 1) p q (by simpa using a) (by simpa using b)) ?_
        have := setAll_sound x.cells v.cells.toList cs us.toList off hvs hc
        rw [← toList_foldl_set] at this
        rw [← Array.foldl_toList, Array.toList_zipIdx]
        exact this
theorem min_int (k k' : IntKind) (a b : Int) {P : Program} {w : World} (ts : Array TypeId) (T : TypeId) : (Builtin.min_ ts T #[.int k a, .int k' b]).run P w = .ok (.int k (min a b)) w := by
  simp [Builtin.min_, Builtin.min2]
  omega
theorem max_int (k k' : IntKind) (a b : Int) {P : Program} {w : World} (ts : Array TypeId) (T : TypeId) : (Builtin.max_ ts T #[.int k a, .int k' b]).run P w = .ok (.int k (max a b)) w := by
  simp [Builtin.max_, Builtin.max2]
  omega
theorem peB_sound {P : Program} {tt : List (TypeId × TD)} (ok : TOK P tt) {σ : Hp} {b : Builtin} {as : List AV} {vs : List Value} {ts : List TypeId} {x : AV} {w : World} {ty : TypeId} {cs : Array Bool}
    (h : peB tt b as ts = some x) (hv : VRs σ as vs) : ∃ v, (builtin b ts.toArray ty cs vs.toArray).run P w = .ok (.value v) w ∧ VR σ x v := by
  unfold peB at h
  split at h
  · rename_i y T
    obtain ⟨u, us, rfl, hy, hus⟩ := hv.cons_inv
    obtain rfl := hus.nil_inv
    split at h
    · rename_i sz es e s1 b1 z1 hT
      cases h
      have hu := (ok _ _ hT).slice rfl
      refine ⟨.int .i64 es.length, ?_, .lit _⟩
      cases hy <;> simp [builtin, Builtin.len_, run_underlying hu, goInt]
    · rename_i a n c e s1 b1 z1 hT
      cases h
      have hu := (ok _ _ hT).slice rfl
      refine ⟨.int .i64 n, ?_, .lit _⟩
      simp [builtin, hy.lit_inv, Builtin.len_, run_underlying hu, goInt]
    · rename_i s s1 b1 z1 hT
      cases h
      have hu := (ok _ _ hT).str rfl
      refine ⟨.int .i64 s.size, ?_, .lit _⟩
      simp [builtin, hy.lit_inv, Builtin.len_, run_underlying hu, goInt]
    · cases h
  · rename_i k a k' b
    cases h
    obtain ⟨u, us, rfl, hy, hus⟩ := hv.cons_inv
    obtain ⟨u', us', rfl, hy', hus'⟩ := hus.cons_inv
    obtain rfl := hus'.nil_inv
    refine ⟨.int k (min a b), ?_, .lit _⟩
    simp [builtin, hy.lit_inv, hy'.lit_inv, min_int]
  · rename_i k a k' b
    cases h
    obtain ⟨u, us, rfl, hy, hus⟩ := hv.cons_inv
    obtain ⟨u', us', rfl, hy', hus'⟩ := hus.cons_inv
    obtain rfl := hus'.nil_inv
    refine ⟨.int k (max a b), ?_, .lit _⟩
    simp [builtin, hy.lit_inv, hy'.lit_inv, max_int]
  · cases h
theorem pe_sound {P : Program} {tt : List (TypeId × TD)} (ok : TOK P tt) {o : Oper} {st : St} {x : AV} (h : pe tt st o.op = some x) : AQ P o st [] x := by
  obtain ⟨dst, op, type, pos, after, guard⟩ := o
  refine ⟨fun σ F w ρ hr hρ => ?_⟩
  simp only at h hρ ⊢
  unfold pe at h
  split at h
  · rename_i y
    cases h
    exact ⟨ρ y, rfl, hρ y (by simp [Op.operands])⟩
  · rename_i y
    cases h
    exact ⟨ρ y, rfl, hρ y (by simp [Op.operands])⟩
  · rename_i c a b
    have hc := hρ c (by simp [Op.operands])
    split at h
    · rename_i hcc
      cases h
      rw [hcc] at hc
      exact ⟨ρ a, by simp [execOp, hc.lit_inv, asBool], hρ a (by simp [Op.operands])⟩
    · rename_i hcc
      cases h
      rw [hcc] at hc
      exact ⟨ρ b, by simp [execOp, hc.lit_inv, asBool], hρ b (by simp [Op.operands])⟩
    · cases h
  · rename_i T y
    have hy := hρ y (by simp [Op.operands])
    split at h
    · rename_i b hb
      cases h
      rw [hb] at hy
      exact ⟨.bool (!b), by simp [execOp, hy.lit_inv, Op.unary], .lit _⟩
    · cases h
  · rename_i y i
    have hy := hρ y (by simp [Op.operands])
    split at h
    · rename_i l hl
      rw [hl] at hy
      obtain ⟨vs, hv, hvs⟩ := hy.tup_inv
      obtain ⟨u, hu, hxu⟩ := hvs.get h
      exact ⟨u, by simp [execOp, hv, Instr.extract, hu], hxu⟩
    · cases h
  · rename_i T y f
    have hy := hρ y (by simp [Op.operands])
    split at h
    · rename_i l off d hl hf
      rw [hl] at hy
      obtain ⟨vs, hv, hvs⟩ := hy.agg_inv
      obtain ⟨gs, g, hgs, hg, rfl, hd⟩ := fieldA_sound ok hf
      obtain ⟨u, hu, hxu⟩ := part_run hd hvs h w
      exact ⟨u, by simp [execOp, hv, Instr.field, run_underlying hgs, hg, asAgg, hu], hxu⟩
    · cases h
  · rename_i T parts
    split at h
    · rename_i fs sz by_ z hT
      split at h
      · rename_i ps hps
        simp only [Option.map_eq_some_iff] at h
        obtain ⟨r, hr', rfl⟩ := h
        obtain ⟨gs, hgs, hm⟩ := (ok _ _ hT).struct rfl
        obtain ⟨zv, hz, hzz⟩ := (ok _ _ hT).zero_run w
        have hpl := placesA_sound ok gs.toList ps (by rw [hm]; exact hps) w
        obtain ⟨rs, hrs, hrr⟩ := fillA_sound (σ := σ) (parts.toList.map fun p => (p.1, ev st p.2)) (parts.toList.map fun p => (p.1, ρ p.2)) (z.map .lit) zv.cells r hr' (by simp)
          (fun j p q a b => by
            simp only [List.getElem?_map, Option.map_eq_some_iff] at a b
            obtain ⟨p', hp', rfl⟩ := a
            obtain ⟨q', hq', rfl⟩ := b
            rw [hp'] at hq'
            cases hq'
            exact ⟨rfl, hρ _ (by
              simp only [Op.operands, List.mem_toArray, List.mem_map]
              exact ⟨p', List.mem_of_getElem? hp', rfl⟩)⟩)
          (by rw [hzz]; exact VRs.lits _)
        have hpl' : (gs.mapM (m := Sem) fun f => do pure (f.offset, ← sizeOf f.type)).run P w = .ok ps.toArray w := by
          have e : gs = gs.toList.toArray := by simp
          rw [e, List.mapM_toArray]
          simp only [Sem.run_map, hpl, Result.andThen_ok]
        refine ⟨.agg rs, ?_, ?_⟩
        · simp only [execOp, Instr.build, Sem.run_bind, hz, Result.andThen_ok, run_underlying hgs, hpl', List.getElem?_toArray, Array.toList_map]
          have e : (fun x : Nat => ps.toArray[x]?) = (fun x : Nat => ps[x]?) := by funext x; simp
          simp only [List.getElem?_toArray] at *
          rw [hrs]
          rfl
        · have := VR.agg_of hrr
          simpa using this
      · cases h
    · cases h
  · rename_i g first caps
    cases h
    have h1 : VRs σ (first.toList.map (ev st)) (first.toList.map ρ) := ⟨by simp, fun j a b ha hb => by
      simp only [List.getElem?_map, Option.map_eq_some_iff] at ha hb
      obtain ⟨p, hp, rfl⟩ := ha
      obtain ⟨q, hq, rfl⟩ := hb
      rw [hp] at hq; cases hq
      exact hρ _ (by simp only [Op.operands, Array.mem_append]; exact .inl (by have := List.mem_of_getElem? hp; simpa using this))⟩
    have h2 : VRs σ (caps.toList.map (ev st)) (caps.toList.map ρ) := ⟨by simp, fun j a b ha hb => by
      simp only [List.getElem?_map, Option.map_eq_some_iff] at ha hb
      obtain ⟨p, hp, rfl⟩ := ha
      obtain ⟨q, hq, rfl⟩ := hb
      rw [hp] at hq; cases hq
      exact hρ _ (by simp only [Op.operands, Array.mem_append]; exact .inr (by have := List.mem_of_getElem? hp; simpa using this))⟩
    refine ⟨.func g (first.map ρ) (caps.map ρ), by simp [execOp, Instr.makeFunc], ?_⟩
    have := VR.fn_of (g := g) h1 h2
    rw [show (first.toList.map ρ).toArray = first.map ρ from by apply Array.ext'; simp, show (caps.toList.map ρ).toArray = caps.map ρ from by apply Array.ext'; simp] at this
    exact this
  · rename_i T y
    have hy := hρ y (by simp [Op.operands])
    split at h
    · rename_i cells d hc hT
      rw [hc] at hy
      generalize heq : ρ y = u at hy
      cases hy with
      | ip _ b off c E fr f h1 h2 h3 =>
        have hb := hr.agree _ _ h1
        obtain ⟨v, hv, hxv⟩ := load_run (P := P) (ok _ _ hT) (σ := σ) (l := cells) (w := w) (b := b) (off := off) (f := f)
          (fun j a ha => by rw [cell_at hb]; exact h2 j a ha) h3 h
        exact ⟨v, by simp [execOp, heq, hv], hxv⟩
    · cases h
  · rename_i T y f
    have hy := hρ y (by simp [Op.operands])
    split at h
    · rename_i cells off d hc hf
      cases hs : d.size == 0 with
      | true => rw [hs] at h; cases h
      | false =>
        rw [hs] at h
        simp only [cond_false] at h
        cases h
        rw [hc] at hy
        obtain ⟨gs, g, hgs, hg, rfl, hd⟩ := fieldA_sound ok hf
        generalize heq : ρ y = u at hy
        cases hy with
        | ip _ b o c E fr f' h1 h2 h3 =>
          have hne : d.size ≠ 0 := by simpa using hs
          refine ⟨.pointer (some ⟨b, o + g.offset, none⟩), ?_, .ip _ b (o + g.offset) c E fr (fun j => f' (g.offset + j)) h1 (fun j a ha => ?_) (fun j a ha => ?_)⟩
          · simp only [execOp, heq, Instr.fieldAt, Sem.run_bind, run_underlying hgs, Result.andThen_ok, hg, Instr.sureAddr, Sem.run_pure, fieldPlace, hd.sizeOf_run, if_neg hne]
            have : (⟨b, o, none⟩ : Addr).add g.offset = ⟨b, o + g.offset, none⟩ := by unfold Addr.add; split <;> simp_all
            rw [this]
          · rw [List.getElem?_drop] at ha
            rw [Nat.add_assoc]
            exact h2 _ a ha
          · rw [List.getElem?_drop] at ha
            exact h3 _ a ha
    · rename_i v sz j o off d hc hf
      cases hs : d.size == 0 with
      | true => rw [hs] at h; cases h
      | false =>
        rw [hs] at h
        simp only [cond_false] at h
        cases h
        rw [hc] at hy
        obtain ⟨gs, g, hgs, hg, rfl, hd⟩ := fieldA_sound ok hf
        generalize heq : ρ y = u at hy
        cases hy with
        | pt _ _ _ _ b hb =>
          have hne : d.size ≠ 0 := by simpa using hs
          refine ⟨.pointer (some ⟨b, j * sz + (o + g.offset), none⟩), ?_, .pt v sz j (o + g.offset) b hb⟩
          simp only [execOp, heq, Instr.fieldAt, Sem.run_bind, run_underlying hgs, Result.andThen_ok, hg, Instr.sureAddr, Sem.run_pure, fieldPlace, hd.sizeOf_run, if_neg hne]
          have : (⟨b, j * sz + o, none⟩ : Addr).add g.offset = ⟨b, j * sz + (o + g.offset), none⟩ := by unfold Addr.add; split <;> simp_all [Nat.add_assoc]
          rw [this]
    · cases h
  · rename_i y
    have hy := hρ y (by simp [Op.operands])
    split at h
    · rename_i c hc
      cases h
      rw [hc] at hy
      generalize heq : ρ y = u at hy
      have hy' := hy
      cases hy with
      | ip _ b off c' E fr f h1 h2 h3 => exact ⟨_, by simp only [execOp, heq]; rfl, hy'⟩
    · rename_i v sz j o hc
      cases h
      rw [hc] at hy
      generalize heq : ρ y = u at hy
      have hy' := hy
      cases hy with
      | pt _ _ _ _ b hb => exact ⟨_, by simp only [execOp, heq]; rfl, hy'⟩
    · rename_i g a b hc
      cases h
      rw [hc] at hy
      obtain ⟨vs, us, hv, _, _⟩ := hy.fn_inv
      exact ⟨ρ y, by simp only [execOp, hv]; rfl, hy⟩
    · cases h
  · rename_i c
    split at h
    · rename_i b hcal
      have hargs : VRs σ (c.args.toList.map (ev st)) (c.args.toList.map ρ) := ⟨by simp, fun j a b ha hb => by
        simp only [List.getElem?_map, Option.map_eq_some_iff] at ha hb
        obtain ⟨p, hp, rfl⟩ := ha
        obtain ⟨q, hq, rfl⟩ := hb
        rw [hp] at hq; cases hq
        exact hρ _ (by simp only [Op.operands, Call.operands, Array.mem_append]; exact .inr (by have := List.mem_of_getElem? hp; simpa using this))⟩
      have hrun : ∃ cs, (execOp ρ ⟨dst, .call c, type, pos, after, guard⟩).run P w = (builtin b c.argTypes type cs (c.args.map ρ)).run P w := ⟨_, by
        simp only [execOp, resolve, hcal, invoke, Sem.run_bind, Sem.run_pure, Result.andThen_ok]
        rfl⟩
      obtain ⟨cs, hrun⟩ := hrun
      obtain ⟨v, hv, hx⟩ := peB_sound ok (w := w) (ty := type) (cs := cs) h hargs
      refine ⟨v, ?_, hx⟩
      rw [hrun]
      have e2 : (c.args.toList.map ρ).toArray = c.args.map ρ := by apply Array.ext'; simp
      rw [e2, show c.argTypes.toList.toArray = c.argTypes from by simp] at hv
      exact hv
    · cases h
  · cases h
end Go.Sj
end
