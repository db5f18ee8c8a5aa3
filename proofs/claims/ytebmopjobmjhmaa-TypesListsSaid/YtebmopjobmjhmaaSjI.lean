/-
  Part I: equal structs, maps from structs of numbers to numbers, empty parts of rows, the front of an owned row.
  No condition; nothing here names a program.
-/
import Derived.Test.YtebmopjobmjhmaaSjH
import Derived.Laws.Cover3
namespace Go.Sj
set_option linter.unusedVariables false
set_option linter.unusedSimpArgs false

/-! ### Structs of numbers -/

def vI (xs : List Int) : Value := .agg (xs.map (Value.int .i64)).toArray

/-- Structs of n numbers of a type compare as lists. -/
structure SE (P : Program) (T n : Nat) : Prop where
  eq : ∀ (xs ys : List Int), xs.length = n → ys.length = n → ∀ w, (Op.equal T (vI xs) (vI ys)).run P w = .ok (decide (xs = ys)) w
  guard : P.eqGuardType P.depth T = false

theorem se_one {P : Program} {w : World} {T : TypeId} {xs ys : List Int} {i : Nat} {f : Field} {fs : List Field} (hn : f.name ≠ "_") (ho : f.offset = i) (hu : P.underlying f.type = some (.int .i64)) (hx : i < xs.length) (hy : i < ys.length) :
    (Op.eqFields 9999 (xs.map (Value.int .i64)).toArray (ys.map (Value.int .i64)).toArray (f :: fs)).run P w =
      if xs[i]? = ys[i]? then (Op.eqFields 9999 (xs.map (Value.int .i64)).toArray (ys.map (Value.int .i64)).toArray fs).run P w else .ok false w := by
  subst ho
  have h1 : (isAgg f.type).run P w = .ok false w := by simp [isAgg, run_underlying hu]
  have p1 : ∀ (zs : List Int) (h : f.offset < zs.length), (part f.type (zs.map (Value.int .i64)).toArray f.offset).run P w = .ok (.int .i64 zs[f.offset]) w := by
    intro zs h
    simp [part, h1, h]
  simp only [Op.eqFields, if_pos hn, Sem.run_bind, p1 xs hx, p1 ys hy, Result.andThen_ok, run_equalIn_int w 9998 f.type .i64 .i64 _ _ hu, Sem.run_ite, Sem.run_pure, List.getElem?_eq_getElem hx, List.getElem?_eq_getElem hy, Option.some.injEq]
  by_cases h : xs[f.offset] = ys[f.offset]
  · simp [h]
  · simp [h]

/-- The fields of a struct type that are numbers, one after another. -/
def numF (P : Program) : Nat → List Field → Bool
  | _, [] => true
  | i, f :: fs => (f.name != "_") && f.offset == i && (match P.underlying f.type with | some (.int .i64) => true | _ => false) && numF P (i + 1) fs

theorem se_fields {P : Program} {w : World} {T : TypeId} {xs ys : List Int} : ∀ (fs : List Field) (i : Nat), numF P i fs = true → xs.length = i + fs.length → ys.length = i + fs.length →
    (Op.eqFields 9999 (xs.map (Value.int .i64)).toArray (ys.map (Value.int .i64)).toArray fs).run P w = .ok (decide (xs.drop i = ys.drop i)) w
  | [], i, h, hx, hy => by
    simp at hx hy
    rw [List.drop_of_length_le (by omega), List.drop_of_length_le (by omega)]
    simp [Op.eqFields]
  | f :: fs, i, h, hx, hy => by
    simp only [numF, Bool.and_eq_true, bne_iff_ne, ne_eq, beq_iff_eq] at h
    obtain ⟨⟨⟨h1, h2⟩, h3⟩, h4⟩ := h
    have hu : P.underlying f.type = some (.int .i64) := by
      split at h3
      · assumption
      · cases h3
    simp only [List.length_cons] at hx hy
    have ih := se_fields (P := P) (w := w) (T := T) (xs := xs) (ys := ys) fs (i + 1) h4 (by omega) (by omega)
    have hxi : i < xs.length := by omega
    have hyi : i < ys.length := by omega
    rw [se_one (T := T) h1 h2 hu hxi hyi, ih, List.getElem?_eq_getElem hxi, List.getElem?_eq_getElem hyi, List.drop_eq_getElem_cons hxi, List.drop_eq_getElem_cons hyi]
    by_cases e : xs[i] = ys[i]
    · rw [if_pos (by rw [e])]
      congr 1
      simp only [e, List.cons.injEq, true_and]
    · rw [if_neg (by simpa using e)]
      congr 1
      simp only [e, List.cons.injEq, false_and, decide_false]

theorem se_of {P : Program} {T n : Nat} {fs : Array Field} (hf : P.underlying T = some (.struct fs)) (hp : P.stoodInHeld T = false) (hn : numF P 0 fs.toList = true) (hl : fs.size = n) (hg : P.eqGuardType P.depth T = false) : SE P T n :=
  ⟨fun xs ys hx hy w => by
    have hfo : P.fieldsOf T = fs := by simp [Program.fieldsOf, hf]
    simp only [Op.equal, Op.maxDepth, vI]
    rw [run_equalIn_struct w 9999 T _ _ (by rw [hfo]; exact hf) hp, hfo]
    have := se_fields (P := P) (w := w) (T := T) (xs := xs) (ys := ys) fs.toList 0 hn (by simp [hx, hl]) (by simp [hy, hl])
    simpa using this, hg⟩

section
variable {P : Program} {N : Nat} {ops : List Oper} {Q : St → Own → Prop} {L : Own} {rest : List (Oper × Kd)} {l : List (Nat × AV)} {k : Kd} {q : Nat}

def cIs (xs : List Int) : List AV := xs.map fun x => .lit (.int .i64 x)

theorem VR.aggI {σ : Hp} {xs : List Int} {v : Value} (h : VR σ (.agg (cIs xs)) v) : v = vI xs := by
  obtain ⟨vs, rfl, hl, hv⟩ := h.agg_inv
  have : vs = xs.map (Value.int .i64) := by
    apply List.ext_getElem?
    intro i
    by_cases hi : i < xs.length
    · have h1 : (cIs xs)[i]? = some (.lit (.int .i64 xs[i])) := by simp [cIs, hi]
      have hi' : i < vs.length := by rw [hl]; simp [cIs, hi]
      have h2 := hv i _ _ h1 (List.getElem?_eq_getElem hi')
      rw [List.getElem?_eq_getElem hi', h2.lit_inv]
      simp [hi]
    · have e1 : vs[i]? = none := by simp [hl, cIs]; omega
      have e2 : (xs.map (Value.int .i64))[i]? = none := by simp; omega
      rw [e1, e2]
  rw [this]; rfl

/-- Two structs of numbers: equal or not. -/
theorem s_seq {n T T' : Nat} (hse : SE P T n) {o : Oper} {x y : Operand} {xs ys : List Int} {b : Bool} (ho : o.op = .binOp .eql T x y T') (hdst : o.dst = some q) (hd : Nat.blt q N = true) (hg : guardA ops o (lk l) = some true)
    (hx : ev (lk l) x = .agg (cIs xs)) (hy : ev (lk l) y = .agg (cIs ys)) (hxl : xs.length = n) (hyl : ys.length = n) (hb : decide (xs = ys) = b)
    (nx : AL P N ops Q rest (lk ((q, .lit (.bool b)) :: l)) L) : AL P N ops Q ((o, k) :: rest) (lk l) L := by
  obtain ⟨dst, op', ty, pos, after, g⟩ := o
  simp only at ho
  subst ho
  refine s_pure hdst hd hg ⟨fun σ F w ρ hR hρ => ⟨.bool b, ?_, .lit _⟩⟩ nx
  have e1 := hρ x (by simp [Op.operands])
  have e2 := hρ y (by simp [Op.operands])
  rw [hx] at e1
  rw [hy] at e2
  have h1 := e1.aggI
  have h2 := e2.aggI
  have hq := hse.eq xs ys hxl hyl w
  simp only [vI] at h1 h2 hq
  simp only [execOp, h1, h2, Sem.run_bind, run_eqGuard_agg w .eql T x y _ _ hse.guard, Result.andThen_ok, binOp, hq, hb, Sem.run_pure]
theorem s_sne {n T T' : Nat} (hse : SE P T n) {o : Oper} {x y : Operand} {xs ys : List Int} {b : Bool} (ho : o.op = .binOp .neq T x y T') (hdst : o.dst = some q) (hd : Nat.blt q N = true) (hg : guardA ops o (lk l) = some true)
    (hx : ev (lk l) x = .agg (cIs xs)) (hy : ev (lk l) y = .agg (cIs ys)) (hxl : xs.length = n) (hyl : ys.length = n) (hb : (!decide (xs = ys)) = b)
    (nx : AL P N ops Q rest (lk ((q, .lit (.bool b)) :: l)) L) : AL P N ops Q ((o, k) :: rest) (lk l) L := by
  obtain ⟨dst, op', ty, pos, after, g⟩ := o
  simp only at ho
  subst ho
  refine s_pure hdst hd hg ⟨fun σ F w ρ hR hρ => ⟨.bool b, ?_, .lit _⟩⟩ nx
  have e1 := hρ x (by simp [Op.operands])
  have e2 := hρ y (by simp [Op.operands])
  rw [hx] at e1
  rw [hy] at e2
  have h1 := e1.aggI
  have h2 := e2.aggI
  have hq := hse.eq xs ys hxl hyl w
  simp only [vI] at h1 h2 hq
  simp only [execOp, h1, h2, Sem.run_bind, run_eqGuard_agg w .neq T x y _ _ hse.guard, Result.andThen_ok, binOp, hq, hb, Sem.run_pure]

/-! ### Maps -/

def mpFind (k : List Int) : List (List Int × Int) → Option Int
  | [] => none
  | (j, x) :: r => if k = j then some x else mpFind k r

theorem findKey_run {n T : Nat} (hse : SE P T n) {d : TypeDesc} (hd : P.underlying T = some d) (hs : ∀ a b, Instr.sameNow d (vI a) b = none) {k : List Int} (hk : k.length = n) (w : World) :
    ∀ (m : List (List Int × Int)) (es : List MapEntry), (∀ p ∈ m, p.1.length = n) → es.map (fun e => (e.key, e.val)) = m.map (fun p => (vI p.1, Value.int .i64 p.2)) →
    ∃ r, (Instr.findKey T (vI k) es).run P w = .ok r w ∧ r.map (·.2) = (mpFind k m).map (Value.int .i64) := by
  have ask : ∀ (m : List (List Int × Int)) (es : List MapEntry) (i : Nat), (∀ p ∈ m, p.1.length = n) → es.map (fun e => (e.key, e.val)) = m.map (fun p => (vI p.1, Value.int .i64 p.2)) →
      ∃ r, (Instr.findAsking T (vI k) es i).run P w = .ok r w ∧ r.map (·.2) = (mpFind k m).map (Value.int .i64) := by
    intro m
    induction m with
    | nil => intro es i _ he; simp at he; subst he; exact ⟨none, rfl, rfl⟩
    | cons p m ih =>
      intro es i hl he
      cases es with
      | nil => simp at he
      | cons e es =>
        simp only [List.map_cons, List.cons.injEq, Prod.mk.injEq] at he
        obtain ⟨⟨h1, h2⟩, h3⟩ := he
        have hq := hse.eq k p.1 hk (hl p (by simp)) w
        by_cases hkp : k = p.1
        · rw [decide_eq_true hkp] at hq
          refine ⟨some (i, e.val), ?_, ?_⟩
          · simp only [Instr.findAsking, h1, Sem.run_bind, hq, Result.andThen_ok, if_true, Sem.run_pure]
          · simp [mpFind, hkp, h2]
        · obtain ⟨r, hr, hm⟩ := ih es (i + 1) (fun p hp => hl p (by simp [hp])) h3
          rw [decide_eq_false hkp] at hq
          refine ⟨r, ?_, ?_⟩
          · simp only [Instr.findAsking, h1, Sem.run_bind, hq, Result.andThen_ok, Bool.false_eq_true, if_false, hr]
          · simp [mpFind, hkp, hm]
  intro m es hl he
  cases es with
  | nil =>
    cases m with
    | nil => exact ⟨none, by simp [Instr.findKey, run_underlying hd, Instr.findNow], rfl⟩
    | cons p m => simp at he
  | cons e es =>
    have hnow : Instr.findNow d (vI k) (e :: es) 0 = none := by simp only [Instr.findNow, hs]
    obtain ⟨r, hr, hm⟩ := ask m (e :: es) 0 hl he
    exact ⟨r, by simp only [Instr.findKey, Sem.run_bind, run_underlying hd, Result.andThen_ok, hnow, hr], hm⟩

theorem ck_fields {P : Program} {n : Nat} {e : Bool} {w : World} {xs : List Int} : ∀ (fs : List Field) (i : Nat), numF P i fs = true → xs.length = i + fs.length →
    (forIn (m := Sem) fs PUnit.unit fun f r => if f.name ≠ "_" then do
        let a ← part f.type (xs.map (Value.int .i64)).toArray f.offset
        Instr.checkKey e (n + 1) f.type a
        pure (ForInStep.yield PUnit.unit)
      else pure (ForInStep.yield PUnit.unit)).run P w = .ok PUnit.unit w
  | [], i, h, hx => rfl
  | f :: fs, i, h, hx => by
    simp only [numF, Bool.and_eq_true, bne_iff_ne, ne_eq, beq_iff_eq] at h
    obtain ⟨⟨⟨h1, h2⟩, h3⟩, h4⟩ := h
    have hu : P.underlying f.type = some (.int .i64) := by
      split at h3
      · assumption
      · cases h3
    simp only [List.length_cons] at hx
    have ih := ck_fields (P := P) (n := n) (e := e) (w := w) (xs := xs) fs (i + 1) h4 (by omega)
    subst h2
    have h5 : (isAgg f.type).run P w = .ok false w := by simp [isAgg, run_underlying hu]
    have hlt : f.offset < xs.length := by omega
    have p1 : (part f.type (xs.map (Value.int .i64)).toArray f.offset).run P w = .ok (.int .i64 xs[f.offset]) w := by simp [part, h5, hlt]
    have p2 : (Instr.checkKey e (n + 1) f.type (.int .i64 xs[f.offset])).run P w = .ok () w := by simp [Instr.checkKey, run_underlying hu]
    simp only [List.forIn_cons, ne_eq, h1, not_false_eq_true, if_true, Sem.run_bind, p1, p2, Result.andThen_ok, Sem.run_pure]
    exact ih

theorem ck_structN {P : Program} {T n : Nat} {fs : Array Field} (hf : P.underlying T = some (.struct fs)) (hn : numF P 0 fs.toList = true) (hl : fs.size = n) (e : Bool) (k : List Int) (hk : k.length = n) (w : World) (j : Nat) : (Instr.checkKey e (j + 2) T (vI k)).run P w = .ok () w := by
  have := ck_fields (P := P) (n := j) (e := e) (w := w) (xs := k) fs.toList 0 hn (by simp [hk, hl])
  rw [Array.forIn_toList] at this
  rw [show j + 2 = (j + 1) + 1 from rfl, Instr.checkKey]
  simp only [vI, Sem.run_bind, run_underlying hf, Result.andThen_ok]
  rw [this]
  rfl
theorem ck_struct {P : Program} {T n : Nat} {fs : Array Field} (hf : P.underlying T = some (.struct fs)) (hn : numF P 0 fs.toList = true) (hl : fs.size = n) (e : Bool) (k : List Int) (hk : k.length = n) (w : World) : (Instr.checkKey e 10000 T (vI k)).run P w = .ok () w :=
  ck_structN hf hn hl e k hk w 9998

/-- What a walk asks of a map's type. -/
structure MK (P : Program) (M K E n : Nat) : Prop where
  map : P.underlying M = some (.map K E)
  elem : P.underlying E = some (.int .i64)
  zero : ∀ w, (zeroValue E).run P w = .ok (.int .i64 0) w
  se : SE P K n
  desc : ∃ d, P.underlying K = some d ∧ ∀ a b, Instr.sameNow d (vI a) b = none
  key : ∀ (b : Bool) (k : List Int), k.length = n → ∀ w, (Instr.checkKey b 10000 K (vI k)).run P w = .ok () w

theorem mk_of {P : Program} {M K E n : Nat} {fs : Array Field} (hm : P.underlying M = some (.map K E)) (he : P.underlying E = some (.int .i64)) (hz : ∀ w, (zeroValue E).run P w = .ok (.int .i64 0) w) (hf : P.underlying K = some (.struct fs)) (hp : P.stoodInHeld K = false) (hn : numF P 0 fs.toList = true) (hl : fs.size = n) (hg : P.eqGuardType P.depth K = false) : MK P M K E n :=
  ⟨hm, he, hz, se_of hf hp hn hl hg, ⟨_, hf, fun a b => by cases b <;> rfl⟩, fun b k hk w => ck_struct hf hn hl b k hk w⟩

theorem s_makeMap {o : Oper} {T : TypeId} (ho : o.op = .makeMap T none) (hdst : o.dst = some q) (hd : Nat.blt q N = true) (hg : guardA ops o (lk l) = some true)
    (nx : ∀ v, AL P N ops Q rest (lk ((q, .lit v) :: l)) ((v, .mp []) :: L)) : AL P N ops Q ((o, .eff) :: rest) (lk l) L := by
  obtain ⟨dst, op', ty, pos, after, g⟩ := o
  simp only at ho
  subst ho
  refine s_eff (fun x M => ∃ v, x = .lit v ∧ M = (v, .mp []) :: L) hdst hd hg ⟨fun σ F w ρ hR hρ => ?_⟩ (fun x M ⟨p, e1, e2⟩ => by rw [e1, e2]; exact nx p)
  have hrun : (execOp ρ ⟨dst, .makeMap T none, ty, pos, after, g⟩).run P w = .ok (.value (.map (some w.heap.size))) (w.alloc (.map #[] 0)) := by
    simp [execOp, Instr.makeMap]
  rw [hrun]
  exact ⟨σ, _, _, σ.le_refl, hR.new (v := .map (some w.heap.size)) (ob := .mp []) (b := w.heap.size) rfl (Nat.le_refl _) (alloc_keep w _) rfl rfl ⟨w.heap.size, #[], 0, rfl, heap_alloc_new w _, rfl⟩, .lit _, _, rfl, rfl⟩

theorem own_mp {σ : Hp} {w : World} {v : Value} {m : List (List Int × Int)} (h : Own1 σ w (v, .mp m)) : ∃ b es clock, v = .map (some b) ∧ w.heap[b]? = some (.map es clock) ∧ es.toList.map (fun e => (e.key, e.val)) = m.map fun p => (vI p.1, Value.int .i64 p.2) := h

theorem s_lookup {M K E n : Nat} (hmk : MK P M K E n) (i : Nat) {o : Oper} {x y : Operand} {v : Value} {m : List (List Int × Int)} {ks : List Int} (ho : o.op = .lookup M x y false) (hdst : o.dst = some q) (hd : Nat.blt q N = true) (hg : guardA ops o (lk l) = some true) (hk : k ≠ .pure)
    (hx : ev (lk l) x = .lit v) (hL : L[i]? = some (v, .mp m)) (hy : ev (lk l) y = .agg (cIs ks)) (hkl : ks.length = n) (hml : ∀ p ∈ m, p.1.length = n)
    (nx : AL P N ops Q rest (lk ((q, .lit (.int .i64 ((mpFind ks m).getD 0))) :: l)) L) : AL P N ops Q ((o, k) :: rest) (lk l) L := by
  obtain ⟨dst, op', ty, pos, after, g⟩ := o
  simp only at ho
  subst ho
  refine s_read hdst hd hg hk ⟨fun σ F w ρ hR hρ => ⟨_, ?_, .lit _⟩⟩ nx
  have e1 := hρ x (by simp [Op.operands])
  have e2 := hρ y (by simp [Op.operands])
  rw [hx] at e1
  rw [hy] at e2
  have h2 := e2.aggI
  obtain ⟨b, es, clock, hv, hb, hes⟩ := own_mp (hR.own1 hL)
  obtain ⟨d, hd, hs⟩ := hmk.desc
  obtain ⟨r, hr, hm⟩ := findKey_run hmk.se hd hs hkl w m es.toList hml hes
  have hobj : (getObj b).run P w = .ok (.map es clock) w := by simp [getObj, Sem.run, hb]
  have hck := hmk.key es.isEmpty ks hkl w
  cases hf : mpFind ks m with
  | none =>
    rw [hf] at hm
    cases r with
    | some p => simp at hm
    | none => simp only [execOp, e1.lit_inv, hv, h2, Instr.lookup, Sem.run_bind, run_underlying hmk.map, Result.andThen_ok, hobj, hck, hr, hmk.zero, Sem.run_pure, Option.getD_none, Bool.false_eq_true, if_false]
  | some z =>
    rw [hf] at hm
    cases r with
    | none => simp at hm
    | some p =>
      obtain ⟨j, u⟩ := p
      simp at hm
      subst hm
      simp only [execOp, e1.lit_inv, hv, h2, Instr.lookup, Sem.run_bind, run_underlying hmk.map, Result.andThen_ok, hobj, hck, hr, Sem.run_pure, Option.getD_some, Bool.false_eq_true, if_false]

theorem s_lookupOk {M K E n : Nat} (hmk : MK P M K E n) (i : Nat) {o : Oper} {x y : Operand} {v : Value} {m : List (List Int × Int)} {ks : List Int} (ho : o.op = .lookup M x y true) (hdst : o.dst = some q) (hd : Nat.blt q N = true) (hg : guardA ops o (lk l) = some true) (hk : k ≠ .pure)
    (hx : ev (lk l) x = .lit v) (hL : L[i]? = some (v, .mp m)) (hy : ev (lk l) y = .agg (cIs ks)) (hkl : ks.length = n) (hml : ∀ p ∈ m, p.1.length = n)
    (nx : AL P N ops Q rest (lk ((q, .tup [.lit (.int .i64 ((mpFind ks m).getD 0)), .lit (.bool (mpFind ks m).isSome)]) :: l)) L) : AL P N ops Q ((o, k) :: rest) (lk l) L := by
  obtain ⟨dst, op', ty, pos, after, g⟩ := o
  simp only at ho
  subst ho
  refine s_read hdst hd hg hk ⟨fun σ F w ρ hR hρ => ⟨.tuple #[.int .i64 ((mpFind ks m).getD 0), .bool (mpFind ks m).isSome], ?_, VR.tup_of (vs := [.int .i64 ((mpFind ks m).getD 0), .bool (mpFind ks m).isSome]) (VRs.lits [.int .i64 ((mpFind ks m).getD 0), .bool (mpFind ks m).isSome])⟩⟩ nx
  have e1 := hρ x (by simp [Op.operands])
  have e2 := hρ y (by simp [Op.operands])
  rw [hx] at e1
  rw [hy] at e2
  have h2 := e2.aggI
  obtain ⟨b, es, clock, hv, hb, hes⟩ := own_mp (hR.own1 hL)
  obtain ⟨d, hd, hs⟩ := hmk.desc
  obtain ⟨r, hr, hm⟩ := findKey_run hmk.se hd hs hkl w m es.toList hml hes
  have hobj : (getObj b).run P w = .ok (.map es clock) w := by simp [getObj, Sem.run, hb]
  have hck := hmk.key es.isEmpty ks hkl w
  cases hf : mpFind ks m with
  | none =>
    rw [hf] at hm
    cases r with
    | some p => simp at hm
    | none => simp only [execOp, e1.lit_inv, hv, h2, Instr.lookup, Sem.run_bind, run_underlying hmk.map, Result.andThen_ok, hobj, hck, hr, hmk.zero, Sem.run_pure, Option.getD_none, if_true, Option.isSome_none]
  | some z =>
    rw [hf] at hm
    cases r with
    | none => simp at hm
    | some p =>
      obtain ⟨j, u⟩ := p
      simp at hm
      subst hm
      simp only [execOp, e1.lit_inv, hv, h2, Instr.lookup, Sem.run_bind, run_underlying hmk.map, Result.andThen_ok, hobj, hck, hr, Sem.run_pure, Option.getD_some, if_true, Option.isSome_some]

/-- A new key. -/
theorem s_mapNew {M K E n : Nat} (hmk : MK P M K E n) (i : Nat) {o : Oper} {x y z : Operand} {v : Value} {m : List (List Int × Int)} {ks : List Int} {a : Int} (ho : o.op = .mapUpdate M x y z) (hdst : o.dst = none) (hg : guardA ops o (lk l) = some true)
    (hx : ev (lk l) x = .lit v) (hL : L[i]? = some (v, .mp m)) (hy : ev (lk l) y = .agg (cIs ks)) (hz : ev (lk l) z = .lit (.int .i64 a)) (hkl : ks.length = n) (hml : ∀ p ∈ m, p.1.length = n) (hno : mpFind ks m = none)
    (nx : AL P N ops Q rest (lk l) (L.set i (v, .mp (m ++ [(ks, a)])))) : AL P N ops Q ((o, .eff) :: rest) (lk l) L := by
  obtain ⟨dst, op', ty, pos, after, g⟩ := o
  simp only at ho
  subst ho
  refine s_eff0 (fun x' M' => M' = L.set i (v, .mp (m ++ [(ks, a)]))) hdst hg ⟨fun σ F w ρ hR hρ => ?_⟩ (fun x' M' e => by rw [e]; exact nx)
  have e1 := hρ x (by simp [Op.operands])
  have e2 := hρ y (by simp [Op.operands])
  have e3 := hρ z (by simp [Op.operands])
  rw [hx] at e1
  rw [hy] at e2
  rw [hz] at e3
  have h2 := e2.aggI
  obtain ⟨b, es, clock, hv, hb, hes⟩ := own_mp (hR.own1 hL)
  obtain ⟨d, hd, hs⟩ := hmk.desc
  obtain ⟨r, hr, hm⟩ := findKey_run hmk.se hd hs hkl w m es.toList hml hes
  have hobj : (getObj b).run P w = .ok (.map es clock) w := by simp [getObj, Sem.run, hb]
  have hck := hmk.key false ks hkl w
  rw [hno] at hm
  have hrn : r = none := by cases r <;> simp at hm; rfl
  subst hrn
  have hlt : b < w.heap.size := (Array.getElem?_eq_some_iff.1 hb).1
  have hset : (setObj b (.map (es.push { key := vI ks, val := .int .i64 a, born := clock }) (clock + 1))).run P w = .ok () { w with heap := w.heap.setIfInBounds b (.map (es.push { key := vI ks, val := .int .i64 a, born := clock }) (clock + 1)) } := by
    simp [setObj, Sem.run, hb]
  have hrun : (execOp ρ ⟨dst, .mapUpdate M x y z, ty, pos, after, g⟩).run P w = .ok .skip { w with heap := w.heap.setIfInBounds b (.map (es.push { key := vI ks, val := .int .i64 a, born := clock }) (clock + 1)) } := by
    simp only [execOp, e1.lit_inv, hv, h2, e3.lit_inv, Instr.mapUpdate, Sem.run_bind, run_underlying hmk.map, Result.andThen_ok, hobj, hck, hr, hset, Sem.run_pure]
  rw [hrun]
  refine ⟨σ, _, _, σ.le_refl, hR.writeAt (v' := v) (ob' := .mp (m ++ [(ks, a)])) hL (by simp) (fun j hj hne => ?_) rfl rfl (fun b hb => .inl hb) ⟨b, es.push { key := vI ks, val := .int .i64 a, born := clock }, clock + 1, hv, by simp [hlt], ?_⟩, .lit _, rfl⟩
  · have : b ≠ j := fun e => hne (by rw [hv, e]; rfl)
    simp [Array.getElem?_setIfInBounds_ne this]
  · simp only [Array.toList_push, List.map_append, hes, List.map_cons, List.map_nil]
    rfl

/-! ### Empty parts, and the front of an owned row -/

/-- 's[:0:0]'. -/
theorem s_clip0 {tt : List (TypeId × TD)} (ok : TOK P tt) {o : Oper} {T : TypeId} {x : Operand} {y z : Operand} {E s1 b1 : Nat} {z1 : List Value} {d : TD} {sz : Nat} {es : List (List AV)} {k1 k2 : IntKind}
    (ho : o.op = .slice T x none (some y) (some z)) (hdst : o.dst = some q) (hd : Nat.blt q N = true) (hg : guardA ops o (lk l) = some true)
    (hT : lkT tt T = some ⟨.slice E, s1, b1, z1⟩) (hE : lkT tt E = some d) (hx : ev (lk l) x = .im sz es) (hy : ev (lk l) y = .lit (.int k1 0)) (hz : ev (lk l) z = .lit (.int k2 0))
    (n : AL P N ops Q rest (lk ((q, .z0) :: l)) L) : AL P N ops Q ((o, k) :: rest) (lk l) L := by
  obtain ⟨dst, op', ty, pos, after, g⟩ := o
  simp only at ho
  subst ho
  refine s_pure hdst hd hg ⟨fun σ F w ρ hR hρ => ?_⟩ n
  have h1 := hρ x (by simp [Op.operands])
  have h2 := hρ y (by simp [Op.operands])
  have h3 := hρ z (by simp [Op.operands])
  rw [hx] at h1
  rw [hy] at h2
  rw [hz] at h3
  obtain ⟨ad, cap, hv, hc⟩ := VR.im_len h1
  have hu := (ok _ _ hT).slice rfl
  have hsz := (ok _ _ hE).sizeOf_run
  have hb1 : (Instr.sliceBound (.int k2 0) cap .slice3Acap).run P w = .ok 0 w := by simp [Instr.sliceBound, asIntOf]
  have hb2 : (Instr.sliceBound (.int k1 0) 0 .slice3B).run P w = .ok 0 w := by simp [Instr.sliceBound, asIntOf]
  refine ⟨.slice ad 0 0, ?_, .z0 ad⟩
  simp only [execOp, hv, h2.lit_inv, h3.lit_inv, Option.map_none, Option.map_some, Instr.sliceAt, Sem.run_bind, run_underlying hu, Result.andThen_ok, Instr.slice, Instr.sliceBounds, hb1, hb2, if_true, hsz, Sem.run_pure, Nat.sub_self]

/-- An empty part without room may be appended to. -/
theorem s_appendZ {tt : List (TypeId × TD)} (ok : TOK P tt) {o : Oper} {T : TypeId} {x y : Operand} {E s1 b1 : Nat} {z1 : List Value} {d : TD} {sz : Nat} {es2 : List (List AV)} (ho : o.op = .call ⟨.builtin .append, #[x, y], #[T, T]⟩) (hdst : o.dst = some q) (hd : Nat.blt q N = true) (hg : guardA ops o (lk l) = some true)
    (hT : lkT tt T = some ⟨.slice E, s1, b1, z1⟩) (hE : lkT tt E = some d) (hpos : 0 < d.size) (hx : Sub (ev (lk l) x) .z0) (hs : sz = d.size) (hy : ev (lk l) y = .im sz es2)
    (hcell : es2.all (fun e => e.all AV.cell) = true) (hlen : es2.length ≤ 140737488355328) (hby : es2.length * d.bytes ≤ 140737488355328)
    (nx : ∀ v', AL P N ops Q rest (lk ((q, .lit v') :: l)) ((v', .row E sz es2) :: L)) : AL P N ops Q ((o, .eff) :: rest) (lk l) L := by
  obtain ⟨dst, op', ty, pos, after, g⟩ := o
  simp only at ho
  subst ho
  refine s_eff (fun x M => ∃ v', x = .lit v' ∧ M = (v', .row E sz es2) :: L) hdst hd hg ⟨fun σ F w ρ hR hρ => ?_⟩ (fun x M ⟨p, e1, e2⟩ => by rw [e1, e2]; exact nx p)
  have e1 := hx σ _ (hρ x (by simp [Op.operands, Call.operands]))
  have e2 := hρ y (by simp [Op.operands, Call.operands])
  rw [hy] at e2
  generalize hv : ρ x = v at e1
  cases e1 with
  | z0 a =>
    have hR2 := hR.nil E sz a
    have hu := (ok _ _ hT).slice rfl
    obtain ⟨v', w', hr, hown, h1, h2, h3, h4, h5⟩ := own_append (P := P) (ty := ty) (hR2.own1 (i := 0) rfl) (SrcA.im hR.agree e2) hu (ok _ _ hE) hs hpos hcell (by simp only [maxLen, List.length_nil]; omega) (by simpa using hby)
    have hrun : (execOp ρ ⟨dst, .call ⟨.builtin .append, #[x, y], #[T, T]⟩, ty, pos, after, g⟩).run P w = .ok (.value v') w' := by
      simp [execOp, resolve, invoke, builtin, hv, hr]
    rw [hrun]
    exact ⟨σ, _, _, σ.le_refl, hR2.writeAt (i := 0) rfl h1 h2 h3 h4 h5 hown, .lit _, _, rfl, by simp⟩
theorem Sub.z0nil : Sub (.lit (.slice none 0 0)) .z0 := fun _ v h => by rw [h.lit_inv]; exact .z0 _

/-- 's[:n]' of what is owned: the front is owned, the rest forgotten. -/
theorem s_front {tt : List (TypeId × TD)} (ok : TOK P tt) (i : Nat) {o : Oper} {T : TypeId} {x y : Operand} {E0 s1 b1 : Nat} {z1 : List Value} {d : TD} {E sz : Nat} {v : Value} {es : List (List AV)} {k1 : IntKind} {n : Nat}
    (ho : o.op = .slice T x none (some y) none) (hdst : o.dst = some q) (hd : Nat.blt q N = true) (hg : guardA ops o (lk l) = some true)
    (hT : lkT tt T = some ⟨.slice E0, s1, b1, z1⟩) (hE : lkT tt E0 = some d) (hx : ev (lk l) x = .lit v) (hL : L[i]? = some (v, .row E sz es)) (hy : ev (lk l) y = .lit (.int k1 n)) (hn : n ≤ es.length)
    (nx : ∀ v', AL P N ops Q rest (lk ((q, .lit v') :: l)) (L.set i (v', .row E sz (es.take n)))) : AL P N ops Q ((o, .eff) :: rest) (lk l) L := by
  obtain ⟨dst, op', ty, pos, after, g⟩ := o
  simp only at ho
  subst ho
  refine s_eff (fun x M => ∃ v', x = .lit v' ∧ M = L.set i (v', .row E sz (es.take n))) hdst hd hg ⟨fun σ F w ρ hR hρ => ?_⟩ (fun x M ⟨p, e1, e2⟩ => by rw [e1, e2]; exact nx p)
  have e1 := hρ x (by simp [Op.operands])
  have e2 := hρ y (by simp [Op.operands])
  rw [hx] at e1
  rw [hy] at e2
  have hu := (ok _ _ hT).slice rfl
  have hsz := (ok _ _ hE).sizeOf_run
  have hown := hR.own1 hL
  obtain ⟨a, cap, hv, hcap⟩ := own_row_val hown
  have hb : (Instr.sliceBound (.int k1 (n : Int)) cap .sliceAcap).run P w = .ok n w := by
    have : n ≤ cap := by omega
    simp [Instr.sliceBound, asIntOf, this]
  have hrun : (execOp ρ ⟨dst, .slice T x none (some y) none, ty, pos, after, g⟩).run P w = .ok (.value (.slice a n cap)) w := by
    simp only [execOp, e1.lit_inv, hv, e2.lit_inv, Option.map_none, Option.map_some, Instr.sliceAt, Sem.run_bind, run_underlying hu, Result.andThen_ok, Instr.slice, Instr.sliceBounds, if_true, hb, hsz, Sem.run_pure, Nat.sub_zero, Nat.zero_mul]
    by_cases hc : cap = 0
    · rw [if_pos hc]
    · rw [if_neg hc]
      have : (a.map (·.add 0)) = a := by cases a <;> simp [Addr.add]
      rw [this]
  rw [hrun]
  refine ⟨σ, _, _, σ.le_refl, hR.writeAt (v' := .slice a n cap) (ob' := .row E sz (es.take n)) hL (Nat.le_refl _) (fun _ _ _ => rfl) rfl rfl (fun b hb => .inl ?_) ?_, .lit _, _, rfl, rfl⟩
  · rw [hv]
    cases a with
    | none => simp [blk] at hb
    | some a => simpa [blk] using hb
  · obtain ⟨xs, h1, h2, h3⟩ := hown
    have hlen : (es.take n).length = n := by rw [List.length_take]; omega
    refine ⟨xs.take (n * sz), ?_, fun e he => h2 e (List.mem_of_mem_take he), ?_⟩
    · rcases h1 with ⟨h0, a0, hv0⟩ | ⟨g, cap', cur, hv0, hc0, hg, hn', hm, hcs, ht⟩
      · rw [hv] at hv0
        injection hv0 with _ _ hc0
        exact .inl ⟨by rw [hlen]; omega, a, by rw [hc0, show n = 0 by omega]⟩
      · rw [hv] at hv0
        cases hv0
        refine .inr ⟨g, cap, cur, by rw [hlen], hc0, hg, by rw [hlen]; omega, hm, hcs, ?_⟩
        rw [hlen, ← ht, List.take_take, Nat.min_eq_left (Nat.mul_le_mul_right _ hn)]
    · rw [← flatten_take h2 hn]
      exact h3.take _

/-! ### A slice against nil -/

theorem eqNil_run {P : Program} {T e : TypeId} (h : P.underlying T = some (.slice e)) (a : Option Addr) (n c : Nat) (w : World) : (Op.equal T (.slice a n c) (.slice none 0 0)).run P w = .ok a.isNone w := by
  have := run_equal_slice_nil (P := P) w T e a n c h
  exact this

theorem s_eqNil {tt : List (TypeId × TD)} (ok : TOK P tt) {o : Oper} {T T' : TypeId} {x : Operand} {E s1 b1 : Nat} {z1 : List Value} {sz : Nat} {es : List (List AV)}
    (ho : o.op = .binOp .eql T x (.const (.slice none 0 0)) T') (hdst : o.dst = some q) (hd : Nat.blt q N = true) (hg : guardA ops o (lk l) = some true) (hT : lkT tt T = some ⟨.slice E, s1, b1, z1⟩) (hx : ev (lk l) x = .im sz es)
    (n0 : es = [] → AL P N ops Q rest (lk ((q, .lit (.bool true)) :: l)) L) (n1 : AL P N ops Q rest (lk ((q, .lit (.bool false)) :: l)) L) : AL P N ops Q ((o, .eff) :: rest) (lk l) L := by
  obtain ⟨dst, op', ty, pos, after, g⟩ := o
  simp only at ho
  subst ho
  refine s_eff (fun y M => M = L ∧ ((y = .lit (.bool true) ∧ es = []) ∨ y = .lit (.bool false))) hdst hd hg ⟨fun σ F w ρ hR hρ => ?_⟩ (fun y M ⟨e, h⟩ => by
    subst e
    rcases h with ⟨rfl, he⟩ | rfl
    · exact n0 he
    · exact n1)
  have h1 := hρ x (by simp [Op.operands])
  have h2 := hρ (.const (.slice none 0 0)) (by simp [Op.operands])
  rw [hx] at h1
  have h2' : ρ (.const (.slice none 0 0)) = .slice none 0 0 := h2.lit_inv
  have hu := (ok _ _ hT).slice rfl
  obtain ⟨a, cap, hv, _⟩ := VR.im_len h1
  have hrun : (execOp ρ ⟨dst, .binOp .eql T x (.const (.slice none 0 0)) T', ty, pos, after, g⟩).run P w = .ok (.value (.bool a.isNone)) w := by
    simp [execOp, hv, h2', eqGuard, binOp, eqNil_run hu]
  rw [hrun]
  refine ⟨σ, _, L, σ.le_refl, hR, .lit _, rfl, ?_⟩
  cases a with
  | some a => exact .inr rfl
  | none =>
    refine .inl ⟨rfl, ?_⟩
    rw [hv] at h1
    cases es with
    | nil => rfl
    | cons e es => cases h1

theorem s_eqNilOwn {tt : List (TypeId × TD)} (ok : TOK P tt) (i : Nat) {o : Oper} {T T' : TypeId} {x : Operand} {E0 s1 b1 : Nat} {z1 : List Value} {E sz : Nat} {v : Value} {es : List (List AV)}
    (ho : o.op = .binOp .eql T x (.const (.slice none 0 0)) T') (hdst : o.dst = some q) (hd : Nat.blt q N = true) (hg : guardA ops o (lk l) = some true) (hT : lkT tt T = some ⟨.slice E0, s1, b1, z1⟩) (hx : ev (lk l) x = .lit v) (hL : L[i]? = some (v, .row E sz es))
    (n0 : es = [] → AL P N ops Q rest (lk ((q, .lit (.bool true)) :: l)) L) (n1 : AL P N ops Q rest (lk ((q, .lit (.bool false)) :: l)) L) : AL P N ops Q ((o, .eff) :: rest) (lk l) L := by
  obtain ⟨dst, op', ty, pos, after, g⟩ := o
  simp only at ho
  subst ho
  refine s_eff (fun y M => M = L ∧ ((y = .lit (.bool true) ∧ es = []) ∨ y = .lit (.bool false))) hdst hd hg ⟨fun σ F w ρ hR hρ => ?_⟩ (fun y M ⟨e, h⟩ => by
    subst e
    rcases h with ⟨rfl, he⟩ | rfl
    · exact n0 he
    · exact n1)
  have h1 := hρ x (by simp [Op.operands])
  have h2 := hρ (.const (.slice none 0 0)) (by simp [Op.operands])
  rw [hx] at h1
  have h2' : ρ (.const (.slice none 0 0)) = .slice none 0 0 := h2.lit_inv
  have hu := (ok _ _ hT).slice rfl
  obtain ⟨a, cap, hv, _⟩ := own_row_val (hR.own1 hL)
  have hrun : (execOp ρ ⟨dst, .binOp .eql T x (.const (.slice none 0 0)) T', ty, pos, after, g⟩).run P w = .ok (.value (.bool a.isNone)) w := by
    simp [execOp, h1.lit_inv, hv, h2', eqGuard, binOp, eqNil_run hu]
  rw [hrun]
  refine ⟨σ, _, L, σ.le_refl, hR, .lit _, rfl, ?_⟩
  cases a with
  | some a => exact .inr rfl
  | none =>
    refine .inl ⟨rfl, ?_⟩
    by_cases hne : es = []
    · exact hne
    · obtain ⟨g, cap', cur, hv', _⟩ := own_row_cells (hR.own1 hL) hne
      rw [hv] at hv'
      cases hv'
end

end Go.Sj
