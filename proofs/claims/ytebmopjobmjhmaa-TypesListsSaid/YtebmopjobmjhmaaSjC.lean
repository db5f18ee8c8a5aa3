/-
  Part C: the operations that only look, over trees.
  No condition; nothing here names a program.
-/
import Derived.Test.YtebmopjobmjhmaaSjB
namespace Go.Sj
set_option linter.unusedVariables false
set_option linter.unusedSimpArgs false

/-! ### The program's types, as far as the walks ask -/

inductive TK where
  | int (k : IntKind) | bool | str | slice (e : TypeId) | struct (fs : List (Nat × TypeId)) | array (n : Nat) (e : TypeId) | ptr (e : TypeId) | func | map (k e : TypeId) | iface | other
  deriving DecidableEq

def kindOf : TypeDesc → TK
  | .bool => .bool
  | .int k => .int k
  | .string => .str
  | .pointer e => .ptr e
  | .slice e => .slice e
  | .array n e => .array n e
  | .map k e => .map k e
  | .struct fs => .struct (fs.toList.map fun f => (f.offset, f.type))
  | .func _ _ _ => .func
  | .interface _ => .iface
  | _ => .other

structure TD where
  kind : TK
  size : Nat
  bytes : Nat
  zero : List Value

def TD.isAgg (d : TD) : Bool := match d.kind with
  | .struct _ | .array _ _ => true
  | _ => false

def lkT : List (TypeId × TD) → TypeId → Option TD
  | [], _ => none
  | (i, d) :: r, j => bif Nat.beq i j then some d else lkT r j

structure TI (P : Program) (t : TypeId) (d : TD) : Prop where
  kind : (P.underlying t).map kindOf = some d.kind
  info : (P.info? t).map (fun i => (i.size, i.bytes)) = some (d.size, d.bytes)
  zero : ((P.info? t).bind (·.zero)).map (fun z => z.cells.toList) = some d.zero
  zlen : d.zero.length = d.size

def okL (P : Program) : List (TypeId × TD) → Prop
  | [] => True
  | (t, d) :: r => TI P t d ∧ okL P r

def TOK (P : Program) (tt : List (TypeId × TD)) : Prop := ∀ t d, lkT tt t = some d → TI P t d

theorem tok_of {P : Program} : ∀ {tt : List (TypeId × TD)}, okL P tt → TOK P tt
  | [], _, t, d, h => by simp [lkT] at h
  | (i, x) :: r, hk, t, d, h => by
    simp only [lkT] at h
    cases e : Nat.beq i t with
    | true =>
      rw [e] at h
      simp only [cond_true] at h
      cases h
      obtain rfl := Nat.eq_of_beq_eq_true e
      exact hk.1
    | false =>
      rw [e] at h
      exact tok_of hk.2 t d h

section ty
variable {P : Program} {t : TypeId} {d : TD} (h : TI P t d)
include h
theorem TI.desc : ∃ x, P.underlying t = some x ∧ kindOf x = d.kind := by
  have := h.kind
  cases e : P.underlying t with
  | none => rw [e] at this; cases this
  | some x => rw [e] at this; exact ⟨x, rfl, by simpa using this⟩
theorem TI.get : ∃ i z, P.info? t = some i ∧ i.size = d.size ∧ i.bytes = d.bytes ∧ i.zero = some z ∧ z.cells.toList = d.zero := by
  have h1 := h.info
  have h2 := h.zero
  cases e : P.info? t with
  | none => rw [e] at h1; cases h1
  | some i =>
    rw [e] at h1 h2
    simp at h1 h2
    obtain ⟨z, hz, hzz⟩ := h2
    exact ⟨i, z, rfl, h1.1, h1.2, hz, hzz⟩
theorem TI.sizeOf_run (w : World) : (sizeOf t).run P w = .ok d.size w := by
  obtain ⟨i, z, hi, hs, _⟩ := h.get
  simp [sizeOf, typeInfo, hi, hs]
theorem TI.isAgg_run (w : World) : (isAgg t).run P w = .ok d.isAgg w := by
  obtain ⟨x, hx, hk⟩ := h.desc
  simp only [isAgg, Sem.run_bind, run_underlying hx, Result.andThen_ok, TD.isAgg, ← hk]
  cases x <;> simp [kindOf]
theorem TI.zero_run (w : World) : ∃ z, (zeroValue t).run P w = .ok z w ∧ z.cells.toList = d.zero := by
  obtain ⟨i, z, hi, hs, hb, hz, hzz⟩ := h.get
  exact ⟨z, by simp [zeroValue, typeInfo, hi, hz], hzz⟩
theorem TI.slice {e : TypeId} (hk : d.kind = .slice e) : P.underlying t = some (.slice e) := by
  obtain ⟨x, hx, hk'⟩ := h.desc
  rw [hk] at hk'
  cases x <;> simp [kindOf] at hk'
  rw [hx, hk']
theorem TI.str (hk : d.kind = .str) : P.underlying t = some .string := by
  obtain ⟨x, hx, hk'⟩ := h.desc
  rw [hk] at hk'
  cases x <;> simp [kindOf] at hk'
  rw [hx]
theorem TI.int {k : IntKind} (hk : d.kind = .int k) : P.underlying t = some (.int k) := by
  obtain ⟨x, hx, hk'⟩ := h.desc
  rw [hk] at hk'
  cases x <;> simp [kindOf] at hk'
  rw [hx, hk']
theorem TI.array {n : Nat} {e : TypeId} (hk : d.kind = .array n e) : P.underlying t = some (.array n e) := by
  obtain ⟨x, hx, hk'⟩ := h.desc
  rw [hk] at hk'
  cases x <;> simp [kindOf] at hk'
  rw [hx, hk'.1, hk'.2]
theorem TI.struct {fs : List (Nat × TypeId)} (hk : d.kind = .struct fs) : ∃ gs : Array Field, P.underlying t = some (.struct gs) ∧ gs.toList.map (fun f => (f.offset, f.type)) = fs := by
  obtain ⟨x, hx, hk'⟩ := h.desc
  rw [hk] at hk'
  cases x <;> simp [kindOf] at hk'
  exact ⟨_, hx, hk'⟩
end ty

/-- A tree that can be stored. -/
def AV.whole : AV → Bool
  | .agg _ => true
  | x => x.cell
theorem AV.whole_spec {x : AV} (h : x.whole = true) : x.cell = true ∨ ∃ l, x = .agg l := by
  cases x <;> first | exact .inr ⟨_, rfl⟩ | exact .inl h

/-! ### What a tree's part is -/

def partA (d : TD) (l : List AV) (off : Nat) : Option AV := bif d.isAgg then (if off + d.size ≤ l.length then some (.agg ((l.drop off).take d.size)) else none) else l[off]?

theorem part_run {P : Program} {t : TypeId} {d : TD} (h : TI P t d) {σ : Hp} {l : List AV} {vs : List Value} (hv : VRs σ l vs) {off : Nat} {x : AV} (hx : partA d l off = some x) (w : World) :
    ∃ v, (part t vs.toArray off).run P w = .ok v w ∧ VR σ x v := by
  unfold partA at hx
  simp only [part, Sem.run_bind, h.isAgg_run, Result.andThen_ok]
  cases ha : d.isAgg with
  | true =>
    rw [ha] at hx
    simp only [cond_true] at hx
    split at hx
    · cases hx
      simp only [if_true, Sem.run_bind, h.sizeOf_run, Result.andThen_ok, Sem.run_pure]
      refine ⟨_, rfl, ?_⟩
      have := VR.agg_of ((hv.drop off).take d.size)
      simpa [List.extract_eq_take_drop, Nat.add_sub_cancel_left] using this
    · cases hx
  | false =>
    rw [ha] at hx
    simp only [cond_false] at hx
    obtain ⟨y, hy, hxy⟩ := hv.get hx
    refine ⟨y, ?_, hxy⟩
    simp [hy]

theorem cell_at {w : World} {b off : Nat} {c : Array Value} {E : TypeId} {fr : Nat × Nat} (h : w.heap[b]? = some (.cells c E fr)) (j : Nat) : w.cell? ((⟨b, off, none⟩ : Addr).add j) = c[off + j]? := by
  have hadd : (⟨b, off, none⟩ : Addr).add j = ⟨b, off + j, none⟩ := by unfold Addr.add; split <;> simp_all
  rw [hadd]
  simp [World.cell?, h]
theorem cell_at0 {w : World} {b off : Nat} {c : Array Value} {E : TypeId} {fr : Nat × Nat} (h : w.heap[b]? = some (.cells c E fr)) : w.cell? (⟨b, off, none⟩ : Addr) = c[off]? := by
  simp [World.cell?, h]

/-- A load, from cells that are there. -/
theorem load_run {P : Program} {t : TypeId} {d : TD} (h : TI P t d) {σ : Hp} {l : List AV} {w : World} {b off : Nat} {f : Nat → Value}
    (hc : ∀ j x, l[j]? = some x → w.cell? ((⟨b, off, none⟩ : Addr).add j) = some (f j)) (hf : ∀ j x, l[j]? = some x → VR σ x (f j)) {x : AV} (hx : partA d l 0 = some x) :
    ∃ v, (Instr.loadAt t (.pointer (some ⟨b, off, none⟩))).run P w = .ok v w ∧ VR σ x v := by
  unfold partA at hx
  simp only [Instr.loadAt, Instr.sureAddr, pure_bind, loadVar, Sem.run_bind, h.isAgg_run, Result.andThen_ok]
  cases ha : d.isAgg with
  | true =>
    rw [ha] at hx
    simp only [cond_true, Nat.zero_add] at hx
    split at hx
    · rename_i hl
      cases hx
      have hr := run_loadCells (P := P) w ⟨b, off, none⟩ d.size f (fun j hj => by
        exact hc j _ (List.getElem?_eq_getElem (by omega)))
      simp only [if_true, Sem.run_bind, h.sizeOf_run, Result.andThen_ok, hr, Sem.run_pure]
      refine ⟨_, rfl, .agg _ _ f (by simp; omega) (fun j y hy => ?_) (fun j y hy => ?_)⟩
      · simp only [List.drop_zero, List.getElem?_take] at hy
        split at hy
        · rename_i hj; simp [hj]
        · cases hy
      · simp only [List.drop_zero, List.getElem?_take] at hy
        split at hy
        · exact hf j y hy
        · cases hy
    · cases hx
  | false =>
    rw [ha] at hx
    simp only [cond_false] at hx
    have hc0 := hc 0 x hx
    simp only [Addr.add, if_true] at hc0
    exact ⟨f 0, by simp [hc0], hf 0 x hx⟩

/-! ### The quiet operations in one function -/

def evs (st : St) (l : List Operand) : List AV := l.map (ev st)

/-- The field of a struct type: its place, its own row of the table. -/
def fieldA (tt : List (TypeId × TD)) (T : TypeId) (f : Nat) : Option (Nat × TD) :=
  match lkT tt T with
  | some ⟨.struct fs, _, _, _⟩ =>
    match fs[f]? with
    | some (off, ft) => match lkT tt ft with
      | some d => some (off, d)
      | none => none
    | none => none
  | _ => none

def placesA (tt : List (TypeId × TD)) : List (Nat × TypeId) → Option (List (Nat × Nat))
  | [] => some []
  | (off, t) :: r => match lkT tt t, placesA tt r with
    | some d, some l => some ((off, d.size) :: l)
    | _, _ => none

def setAll : List AV → Nat → List AV → List AV
  | cs, _, [] => cs
  | cs, off, x :: xs => setAll (cs.set off x) (off + 1) xs

def fillA (place : Nat → Option (Nat × Nat)) : List AV → List (Nat × AV) → Option (List AV)
  | cs, [] => some cs
  | cs, (i, x) :: r => match place i with
    | some (off, size) => bif x.cells.length == size && Nat.ble (off + size) cs.length && x.whole then fillA place (setAll cs off x.cells) r else none
    | none => none

/-- The builtins that only look. -/
def peB (tt : List (TypeId × TD)) : Builtin → List AV → List TypeId → Option AV
  | .len, [x], [T] => match x, lkT tt T with
    | .im sz es, some ⟨.slice _, _, _, _⟩ => some (.lit (.int .i64 es.length))
    | .lit (.slice _ n _), some ⟨.slice _, _, _, _⟩ => some (.lit (.int .i64 n))
    | .lit (.string s), some ⟨.str, _, _, _⟩ => some (.lit (.int .i64 s.size))
    | _, _ => none
  | .min, [.lit (.int k a), .lit (.int _ b)], _ => some (.lit (.int k (min a b)))
  | .max, [.lit (.int k a), .lit (.int _ b)], _ => some (.lit (.int k (max a b)))
  | _, _, _ => none

def pe (tt : List (TypeId × TD)) (st : St) : Op → Option AV
  | .move x | .assign x => some (ev st x)
  | .pick c a b => match ev st c with
    | .lit (.bool true) => some (ev st a)
    | .lit (.bool false) => some (ev st b)
    | _ => none
  | .unOp .not _ x => match ev st x with
    | .lit (.bool b) => some (.lit (.bool (!b)))
    | _ => none
  | .extract x i => match ev st x with
    | .tup l => l[i]?
    | _ => none
  | .field T x f => match ev st x, fieldA tt T f with
    | .agg l, some (off, d) => partA d l off
    | _, _ => none
  | .build T parts => match lkT tt T with
    | some ⟨.struct fs, _, _, z⟩ => match placesA tt fs with
      | some ps => (fillA (ps[·]?) (z.map .lit) (parts.toList.map fun p => (p.1, ev st p.2))).map .agg
      | none => none
    | _ => none
  | .makeFunc g first caps => some (.fn g (first.toList.map (ev st)) (caps.toList.map (ev st)))
  | .load T x => match ev st x, lkT tt T with
    | .ip cells, some d => partA d cells 0
    | _, _ => none
  | .fieldAddr T x f => match ev st x, fieldA tt T f with
    | .ip cells, some (off, d) => bif d.size == 0 then none else some (.ip (cells.drop off))
    | .pt v sz j o, some (off, d) => bif d.size == 0 then none else some (.pt v sz j (o + off))
    | _, _ => none
  | .nilCheck x => match ev st x with
    | .ip c => some (.ip c)
    | .pt v sz j o => some (.pt v sz j o)
    | .fn (.func g) a b => some (.fn (.func g) a b)
    | _ => none
  | .call c => match c.callee with
    | .builtin b => peB tt b (c.args.toList.map (ev st)) c.argTypes.toList
    | _ => none
  | _ => none

theorem fieldA_sound {P : Program} {tt : List (TypeId × TD)} (ok : TOK P tt) {T : TypeId} {f off : Nat} {d : TD} (h : fieldA tt T f = some (off, d)) :
    ∃ (gs : Array Field) (g : Field), P.underlying T = some (.struct gs) ∧ gs[f]? = some g ∧ g.offset = off ∧ TI P g.type d := by
  unfold fieldA at h
  split at h
  · rename_i fs _ _ _ hT
    split at h
    · rename_i o ft hf
      split at h
      · rename_i d' hd
        cases h
        obtain ⟨gs, hgs, hm⟩ := (ok _ _ hT).struct rfl
        rw [← hm] at hf
        simp only [List.getElem?_map, Array.getElem?_toList, Option.map_eq_some_iff] at hf
        obtain ⟨g, hg, he⟩ := hf
        cases he
        exact ⟨gs, g, hgs, hg, rfl, ok _ _ hd⟩
      · cases h
    · cases h
  · cases h

theorem placesA_sound {P : Program} {tt : List (TypeId × TD)} (ok : TOK P tt) : ∀ (fs : List Field) (ps : List (Nat × Nat)), placesA tt (fs.map fun f => (f.offset, f.type)) = some ps →
    ∀ w, (fs.mapM (m := Sem) fun f => do pure (f.offset, ← sizeOf f.type)).run P w = .ok ps w
  | [], ps, h, w => by simp [placesA] at h; subst h; rfl
  | f :: fs, ps, h, w => by
    simp only [List.map_cons, placesA] at h
    split at h
    · rename_i d l hd hl
      cases h
      have ih := placesA_sound ok fs l hl w
      simp only [List.mapM_cons, Sem.run_bind, (ok _ _ hd).sizeOf_run, Result.andThen_ok, Sem.run_pure, ih]
    · cases h

theorem setAll_sound {σ : Hp} : ∀ (xs : List AV) (vs : List Value) (cs : List AV) (us : List Value) (off : Nat), VRs σ xs vs → VRs σ cs us → VRs σ (setAll cs off xs) (vs.zipIdx.foldl (fun cs p => cs.set (off + p.2) p.1) us) := by
  have key : ∀ (xs : List AV) (vs : List Value) (cs : List AV) (us : List Value) (off k : Nat), VRs σ xs vs → VRs σ cs us → VRs σ (setAll cs (off + k) xs) ((vs.zipIdx k).foldl (fun cs p => cs.set (off + p.2) p.1) us) := by
    intro xs
    induction xs with
    | nil => intro vs cs us off k h hc; obtain rfl := h.nil_inv; exact hc
    | cons x xs ih =>
      intro vs cs us off k h hc
      obtain ⟨y, ys, rfl, hy, hys⟩ := h.cons_inv
      simp only [setAll, List.zipIdx_cons, List.foldl_cons]
      rw [Nat.add_assoc]
      exact ih ys _ _ off (k + 1) hys (hc.set _ hy)
  intro xs vs cs us off h hc
  exact key xs vs cs us off 0 h hc

theorem toList_foldl_set (vs : List (Value × Nat)) (off : Nat) : ∀ (us : Array Value), (vs.foldl (fun cs p => cs.setIfInBounds (off + p.2) p.1) us).toList = vs.foldl (fun cs p => cs.set (off + p.2) p.1) us.toList := by
  induction vs with
  | nil => intro us; rfl
  | cons v vs ih => intro us; simp only [List.foldl_cons, ih, Array.toList_setIfInBounds]

theorem length_setAll : ∀ (xs cs : List AV) (off : Nat), (setAll cs off xs).length = cs.length
  | [], cs, off => rfl
  | x :: xs, cs, off => by simp [setAll, length_setAll xs]

theorem fillA_sound {σ : Hp} {place : Nat → Option (Nat × Nat)} : ∀ (ps : List (Nat × AV)) (qs : List (Nat × Value)) (cs : List AV) (us : Array Value) (r : List AV), fillA place cs ps = some r →
    qs.length = ps.length → (∀ (j : Nat) (p : Nat × AV) (q : Nat × Value), ps[j]? = some p → qs[j]? = some q → q.1 = p.1 ∧ VR σ p.2 q.2) → VRs σ cs us.toList → ∃ rs : Array Value, Instr.fill place us qs = some rs ∧ VRs σ r rs.toList
  | [], qs, cs, us, r, h, hl, hp, hc => by
    simp at hl; subst hl; simp [fillA] at h; subst h; exact ⟨us, rfl, hc⟩
  | (i, x) :: ps, [], cs, us, r, h, hl, hp, hc => by simp at hl
  | (i, x) :: ps, (j, v) :: qs, cs, us, r, h, hl, hp, hc => by
    obtain ⟨rfl, hv⟩ := hp 0 (i, x) (j, v) rfl rfl
    simp only [fillA] at h
    cases hpl : place j with
    | none => rw [hpl] at h; cases h
    | some os =>
      obtain ⟨off, size⟩ := os
      rw [hpl] at h
      simp only at h
      cases hb : (x.cells.length == size && Nat.ble (off + size) cs.length && x.whole) with
      | false => rw [hb] at h; cases h
      | true =>
        rw [hb] at h
        simp only [cond_true] at h
        simp only [Bool.and_eq_true, beq_iff_eq, Nat.ble_eq] at hb
        have hx : x.cell = true ∨ ∃ l, x = .agg l := by
          exact AV.whole_spec hb.2
        have hvs := hv.cells hx
        have hsz : v.cells.size = size := by have := hvs.1; simpa [hb.1.1] using this
        have hus : us.size = cs.length := by have := hc.1; simpa using this
        simp only [Instr.fill, hpl, hsz, ne_eq, not_true_eq_false, false_or]
        have hle : ¬ (off + size > us.size) := by have := hb.1.2; omega
        simp only [decide_false, Bool.false_or, decide_eq_true_eq, if_neg hle]
        refine fillA_sound ps qs (setAll cs off x.cells) _ r h (by simpa using hl) (fun j p q a b => hp (j + 1) p q (by simpa using a) (by simpa using b)) ?_
        have := setAll_sound x.cells v.cells.toList cs us.toList off hvs hc
        rw [← toList_foldl_set] at this
        rw [← Array.foldl_toList, Array.toList_zipIdx]
        exact this

theorem min_int (k k' : IntKind) (a b : Int) {P : Program} {w : World} (ts : Array TypeId) (T : TypeId) : (Builtin.min_ ts T #[.int k a, .int k' b]).run P w = .ok (.int k (min a b)) w := by
  simp [Builtin.min_, Builtin.min2]
  omega
theorem max_int (k k' : IntKind) (a b : Int) {P : Program} {w : World} (ts : Array TypeId) (T : TypeId) : (Builtin.max_ ts T #[.int k a, .int k' b]).run P w = .ok (.int k (max a b)) w := by
  simp [Builtin.max_, Builtin.max2]
  omega

theorem peB_sound {P : Program} {tt : List (TypeId × TD)} (ok : TOK P tt) {σ : Hp} {b : Builtin} {as : List AV} {vs : List Value} {ts : List TypeId} {x : AV} {w : World} {ty : TypeId} {cs : Array Bool}
    (h : peB tt b as ts = some x) (hv : VRs σ as vs) : ∃ v, (builtin b ts.toArray ty cs vs.toArray).run P w = .ok (.value v) w ∧ VR σ x v := by
  unfold peB at h
  split at h
  · rename_i y T
    obtain ⟨u, us, rfl, hy, hus⟩ := hv.cons_inv
    obtain rfl := hus.nil_inv
    split at h
    · rename_i sz es e s1 b1 z1 hT
      cases h
      have hu := (ok _ _ hT).slice rfl
      refine ⟨.int .i64 es.length, ?_, .lit _⟩
      cases hy <;> simp [builtin, Builtin.len_, run_underlying hu, goInt]
    · rename_i a n c e s1 b1 z1 hT
      cases h
      have hu := (ok _ _ hT).slice rfl
      refine ⟨.int .i64 n, ?_, .lit _⟩
      simp [builtin, hy.lit_inv, Builtin.len_, run_underlying hu, goInt]
    · rename_i s s1 b1 z1 hT
      cases h
      have hu := (ok _ _ hT).str rfl
      refine ⟨.int .i64 s.size, ?_, .lit _⟩
      simp [builtin, hy.lit_inv, Builtin.len_, run_underlying hu, goInt]
    · cases h
  · rename_i k a k' b
    cases h
    obtain ⟨u, us, rfl, hy, hus⟩ := hv.cons_inv
    obtain ⟨u', us', rfl, hy', hus'⟩ := hus.cons_inv
    obtain rfl := hus'.nil_inv
    refine ⟨.int k (min a b), ?_, .lit _⟩
    simp [builtin, hy.lit_inv, hy'.lit_inv, min_int]
  · rename_i k a k' b
    cases h
    obtain ⟨u, us, rfl, hy, hus⟩ := hv.cons_inv
    obtain ⟨u', us', rfl, hy', hus'⟩ := hus.cons_inv
    obtain rfl := hus'.nil_inv
    refine ⟨.int k (max a b), ?_, .lit _⟩
    simp [builtin, hy.lit_inv, hy'.lit_inv, max_int]
  · cases h

theorem pe_sound {P : Program} {tt : List (TypeId × TD)} (ok : TOK P tt) {o : Oper} {st : St} {x : AV} (h : pe tt st o.op = some x) : AQ P o st [] x := by
  obtain ⟨dst, op, type, pos, after, guard⟩ := o
  refine ⟨fun σ F w ρ hr hρ => ?_⟩
  simp only at h hρ ⊢
  unfold pe at h
  split at h
  · rename_i y
    cases h
    exact ⟨ρ y, rfl, hρ y (by simp [Op.operands])⟩
  · rename_i y
    cases h
    exact ⟨ρ y, rfl, hρ y (by simp [Op.operands])⟩
  · rename_i c a b
    have hc := hρ c (by simp [Op.operands])
    split at h
    · rename_i hcc
      cases h
      rw [hcc] at hc
      exact ⟨ρ a, by simp [execOp, hc.lit_inv, asBool], hρ a (by simp [Op.operands])⟩
    · rename_i hcc
      cases h
      rw [hcc] at hc
      exact ⟨ρ b, by simp [execOp, hc.lit_inv, asBool], hρ b (by simp [Op.operands])⟩
    · cases h
  · rename_i T y
    have hy := hρ y (by simp [Op.operands])
    split at h
    · rename_i b hb
      cases h
      rw [hb] at hy
      exact ⟨.bool (!b), by simp [execOp, hy.lit_inv, Op.unary], .lit _⟩
    · cases h
  · rename_i y i
    have hy := hρ y (by simp [Op.operands])
    split at h
    · rename_i l hl
      rw [hl] at hy
      obtain ⟨vs, hv, hvs⟩ := hy.tup_inv
      obtain ⟨u, hu, hxu⟩ := hvs.get h
      exact ⟨u, by simp [execOp, hv, Instr.extract, hu], hxu⟩
    · cases h
  · rename_i T y f
    have hy := hρ y (by simp [Op.operands])
    split at h
    · rename_i l off d hl hf
      rw [hl] at hy
      obtain ⟨vs, hv, hvs⟩ := hy.agg_inv
      obtain ⟨gs, g, hgs, hg, rfl, hd⟩ := fieldA_sound ok hf
      obtain ⟨u, hu, hxu⟩ := part_run hd hvs h w
      exact ⟨u, by simp [execOp, hv, Instr.field, run_underlying hgs, hg, asAgg, hu], hxu⟩
    · cases h
  · rename_i T parts
    split at h
    · rename_i fs sz by_ z hT
      split at h
      · rename_i ps hps
        simp only [Option.map_eq_some_iff] at h
        obtain ⟨r, hr', rfl⟩ := h
        obtain ⟨gs, hgs, hm⟩ := (ok _ _ hT).struct rfl
        obtain ⟨zv, hz, hzz⟩ := (ok _ _ hT).zero_run w
        have hpl := placesA_sound ok gs.toList ps (by rw [hm]; exact hps) w
        obtain ⟨rs, hrs, hrr⟩ := fillA_sound (σ := σ) (parts.toList.map fun p => (p.1, ev st p.2)) (parts.toList.map fun p => (p.1, ρ p.2)) (z.map .lit) zv.cells r hr' (by simp)
          (fun j p q a b => by
            simp only [List.getElem?_map, Option.map_eq_some_iff] at a b
            obtain ⟨p', hp', rfl⟩ := a
            obtain ⟨q', hq', rfl⟩ := b
            rw [hp'] at hq'
            cases hq'
            exact ⟨rfl, hρ _ (by
              simp only [Op.operands, List.mem_toArray, List.mem_map]
              exact ⟨p', List.mem_of_getElem? hp', rfl⟩)⟩)
          (by rw [hzz]; exact VRs.lits _)
        have hpl' : (gs.mapM (m := Sem) fun f => do pure (f.offset, ← sizeOf f.type)).run P w = .ok ps.toArray w := by
          have e : gs = gs.toList.toArray := by simp
          rw [e, List.mapM_toArray]
          simp only [Sem.run_map, hpl, Result.andThen_ok]
        refine ⟨.agg rs, ?_, ?_⟩
        · simp only [execOp, Instr.build, Sem.run_bind, hz, Result.andThen_ok, run_underlying hgs, hpl', List.getElem?_toArray, Array.toList_map]
          have e : (fun x : Nat => ps.toArray[x]?) = (fun x : Nat => ps[x]?) := by funext x; simp
          simp only [List.getElem?_toArray] at *
          rw [hrs]
          rfl
        · have := VR.agg_of hrr
          simpa using this
      · cases h
    · cases h
  · rename_i g first caps
    cases h
    have h1 : VRs σ (first.toList.map (ev st)) (first.toList.map ρ) := ⟨by simp, fun j a b ha hb => by
      simp only [List.getElem?_map, Option.map_eq_some_iff] at ha hb
      obtain ⟨p, hp, rfl⟩ := ha
      obtain ⟨q, hq, rfl⟩ := hb
      rw [hp] at hq; cases hq
      exact hρ _ (by simp only [Op.operands, Array.mem_append]; exact .inl (by have := List.mem_of_getElem? hp; simpa using this))⟩
    have h2 : VRs σ (caps.toList.map (ev st)) (caps.toList.map ρ) := ⟨by simp, fun j a b ha hb => by
      simp only [List.getElem?_map, Option.map_eq_some_iff] at ha hb
      obtain ⟨p, hp, rfl⟩ := ha
      obtain ⟨q, hq, rfl⟩ := hb
      rw [hp] at hq; cases hq
      exact hρ _ (by simp only [Op.operands, Array.mem_append]; exact .inr (by have := List.mem_of_getElem? hp; simpa using this))⟩
    refine ⟨.func g (first.map ρ) (caps.map ρ), by simp [execOp, Instr.makeFunc], ?_⟩
    have := VR.fn_of (g := g) h1 h2
    rw [show (first.toList.map ρ).toArray = first.map ρ from by apply Array.ext'; simp, show (caps.toList.map ρ).toArray = caps.map ρ from by apply Array.ext'; simp] at this
    exact this
  · rename_i T y
    have hy := hρ y (by simp [Op.operands])
    split at h
    · rename_i cells d hc hT
      rw [hc] at hy
      generalize heq : ρ y = u at hy
      cases hy with
      | ip _ b off c E fr f h1 h2 h3 =>
        have hb := hr.agree _ _ h1
        obtain ⟨v, hv, hxv⟩ := load_run (P := P) (ok _ _ hT) (σ := σ) (l := cells) (w := w) (b := b) (off := off) (f := f)
          (fun j a ha => by rw [cell_at hb]; exact h2 j a ha) h3 h
        exact ⟨v, by simp [execOp, heq, hv], hxv⟩
    · cases h
  · rename_i T y f
    have hy := hρ y (by simp [Op.operands])
    split at h
    · rename_i cells off d hc hf
      cases hs : d.size == 0 with
      | true => rw [hs] at h; cases h
      | false =>
        rw [hs] at h
        simp only [cond_false] at h
        cases h
        rw [hc] at hy
        obtain ⟨gs, g, hgs, hg, rfl, hd⟩ := fieldA_sound ok hf
        generalize heq : ρ y = u at hy
        cases hy with
        | ip _ b o c E fr f' h1 h2 h3 =>
          have hne : d.size ≠ 0 := by simpa using hs
          refine ⟨.pointer (some ⟨b, o + g.offset, none⟩), ?_, .ip _ b (o + g.offset) c E fr (fun j => f' (g.offset + j)) h1 (fun j a ha => ?_) (fun j a ha => ?_)⟩
          · simp only [execOp, heq, Instr.fieldAt, Sem.run_bind, run_underlying hgs, Result.andThen_ok, hg, Instr.sureAddr, Sem.run_pure, fieldPlace, hd.sizeOf_run, if_neg hne]
            have : (⟨b, o, none⟩ : Addr).add g.offset = ⟨b, o + g.offset, none⟩ := by unfold Addr.add; split <;> simp_all
            rw [this]
          · rw [List.getElem?_drop] at ha
            rw [Nat.add_assoc]
            exact h2 _ a ha
          · rw [List.getElem?_drop] at ha
            exact h3 _ a ha
    · rename_i v sz j o off d hc hf
      cases hs : d.size == 0 with
      | true => rw [hs] at h; cases h
      | false =>
        rw [hs] at h
        simp only [cond_false] at h
        cases h
        rw [hc] at hy
        obtain ⟨gs, g, hgs, hg, rfl, hd⟩ := fieldA_sound ok hf
        generalize heq : ρ y = u at hy
        cases hy with
        | pt _ _ _ _ b hb =>
          have hne : d.size ≠ 0 := by simpa using hs
          refine ⟨.pointer (some ⟨b, j * sz + (o + g.offset), none⟩), ?_, .pt v sz j (o + g.offset) b hb⟩
          simp only [execOp, heq, Instr.fieldAt, Sem.run_bind, run_underlying hgs, Result.andThen_ok, hg, Instr.sureAddr, Sem.run_pure, fieldPlace, hd.sizeOf_run, if_neg hne]
          have : (⟨b, j * sz + o, none⟩ : Addr).add g.offset = ⟨b, j * sz + (o + g.offset), none⟩ := by unfold Addr.add; split <;> simp_all [Nat.add_assoc]
          rw [this]
    · cases h
  · rename_i y
    have hy := hρ y (by simp [Op.operands])
    split at h
    · rename_i c hc
      cases h
      rw [hc] at hy
      generalize heq : ρ y = u at hy
      have hy' := hy
      cases hy with
      | ip _ b off c' E fr f h1 h2 h3 => exact ⟨_, by simp only [execOp, heq]; rfl, hy'⟩
    · rename_i v sz j o hc
      cases h
      rw [hc] at hy
      generalize heq : ρ y = u at hy
      have hy' := hy
      cases hy with
      | pt _ _ _ _ b hb => exact ⟨_, by simp only [execOp, heq]; rfl, hy'⟩
    · rename_i g a b hc
      cases h
      rw [hc] at hy
      obtain ⟨vs, us, hv, _, _⟩ := hy.fn_inv
      exact ⟨ρ y, by simp only [execOp, hv]; rfl, hy⟩
    · cases h
  · rename_i c
    split at h
    · rename_i b hcal
      have hargs : VRs σ (c.args.toList.map (ev st)) (c.args.toList.map ρ) := ⟨by simp, fun j a b ha hb => by
        simp only [List.getElem?_map, Option.map_eq_some_iff] at ha hb
        obtain ⟨p, hp, rfl⟩ := ha
        obtain ⟨q, hq, rfl⟩ := hb
        rw [hp] at hq; cases hq
        exact hρ _ (by simp only [Op.operands, Call.operands, Array.mem_append]; exact .inr (by have := List.mem_of_getElem? hp; simpa using this))⟩
      have hrun : ∃ cs, (execOp ρ ⟨dst, .call c, type, pos, after, guard⟩).run P w = (builtin b c.argTypes type cs (c.args.map ρ)).run P w := ⟨_, by
        simp only [execOp, resolve, hcal, invoke, Sem.run_bind, Sem.run_pure, Result.andThen_ok]
        rfl⟩
      obtain ⟨cs, hrun⟩ := hrun
      obtain ⟨v, hv, hx⟩ := peB_sound ok (w := w) (ty := type) (cs := cs) h hargs
      refine ⟨v, ?_, hx⟩
      rw [hrun]
      have e2 : (c.args.toList.map ρ).toArray = c.args.map ρ := by apply Array.ext'; simp
      rw [e2, show c.argTypes.toList.toArray = c.argTypes from by simp] at hv
      exact hv
    · cases h
  · cases h

end Go.Sj
