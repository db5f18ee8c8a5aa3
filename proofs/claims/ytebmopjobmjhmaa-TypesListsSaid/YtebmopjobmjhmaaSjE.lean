/-
  Part E: memory that the call owns: its lengths, its cells, its writes; new memory; append; calls; what no longer changes.
  No condition; nothing here names a program.
-/
import Derived.Test.YtebmopjobmjhmaaSjD
namespace Go.Sj
set_option linter.unusedVariables false
set_option linter.unusedSimpArgs false

/-! ### Lists of elements of one length -/

theorem flatten_len {α : Type} {sz : Nat} : ∀ {es : List (List α)}, (∀ e ∈ es, e.length = sz) → es.flatten.length = es.length * sz
  | [], _ => by simp
  | e :: es, h => by
    have h1 := h e (by simp)
    have h2 := flatten_len (es := es) (fun x hx => h x (by simp [hx]))
    simp only [List.flatten_cons, List.length_append, h1, h2, List.length_cons, Nat.add_mul, Nat.one_mul]
    omega

theorem flatten_split {α : Type} {es : List (List α)} {j : Nat} {e : List α} (h : es[j]? = some e) : es.flatten = (es.take j).flatten ++ e ++ (es.drop (j + 1)).flatten := by
  obtain ⟨hj, rfl⟩ := List.getElem?_eq_some_iff.1 h
  have : es = es.take j ++ es[j] :: es.drop (j + 1) := by rw [← List.drop_eq_getElem_cons hj, List.take_append_drop]
  conv => lhs; rw [this]
  rw [List.flatten_append, List.flatten_cons, List.append_assoc]
theorem flatten_set {α : Type} {es : List (List α)} {j : Nat} {e : List α} (h : es[j]? = some e) (e' : List α) : (es.set j e').flatten = (es.take j).flatten ++ e' ++ (es.drop (j + 1)).flatten := by
  obtain ⟨hj, rfl⟩ := List.getElem?_eq_some_iff.1 h
  have := flatten_split (es := es.set j e') (j := j) (e := e') (by simp [hj])
  rw [this, List.take_set_of_le (Nat.le_refl j), List.drop_set_of_lt (by omega)]

theorem flatten_take_len {α : Type} {sz : Nat} {es : List (List α)} (h : ∀ e ∈ es, e.length = sz) {j : Nat} (hj : j ≤ es.length) : (es.take j).flatten.length = j * sz := by
  rw [flatten_len (fun e he => h e (List.mem_of_mem_take he)), List.length_take, Nat.min_eq_left hj]

theorem flatten_take {α : Type} {sz : Nat} {es : List (List α)} (h : ∀ e ∈ es, e.length = sz) {j : Nat} (hj : j ≤ es.length) : es.flatten.take (j * sz) = (es.take j).flatten := by
  have : es.flatten = (es.take j).flatten ++ (es.drop j).flatten := by rw [← List.flatten_append, List.take_append_drop]
  rw [this, ← flatten_take_len h hj, List.take_left]

theorem flatten_get {α : Type} {sz : Nat} {es : List (List α)} (h : ∀ e ∈ es, e.length = sz) {j : Nat} {e : List α} (hj : es[j]? = some e) {k : Nat} (hk : k < e.length) : es.flatten[j * sz + k]? = e[k]? := by
  have hlt : j < es.length := (List.getElem?_eq_some_iff.1 hj).1
  have hl := flatten_take_len h (Nat.le_of_lt hlt)
  rw [flatten_split hj, List.append_assoc, List.getElem?_append_right (by omega), hl, Nat.add_sub_cancel_left, List.getElem?_append_left hk]

theorem setAll_eq : ∀ (ys l : List AV) (k : Nat), k + ys.length ≤ l.length → setAll l k ys = l.take k ++ ys ++ l.drop (k + ys.length)
  | [], l, k, h => by simp [setAll]
  | y :: ys, l, k, h => by
    have hk : k < l.length := by simp at h; omega
    have ih := setAll_eq ys (l.set k y) (k + 1) (by simp at h ⊢; omega)
    simp only [setAll, ih, List.length_cons]
    rw [List.take_succ_eq_append_getElem (by simpa using hk), List.take_set_of_le (Nat.le_refl k), List.drop_set_of_lt (by omega)]
    simp only [List.getElem_set_self, List.append_assoc, List.cons_append, List.nil_append]
    congr 4
    omega

/-! ### At a place in the list of what is owned -/

theorem own_perm {α : Type} {L : List α} {i : Nat} {p : α} (h : L[i]? = some p) : (p :: L.eraseIdx i).Perm L := by
  obtain ⟨hi, rfl⟩ := List.getElem?_eq_some_iff.1 h
  have e : L = L.take i ++ L[i] :: L.drop (i + 1) := by rw [← List.drop_eq_getElem_cons hi, List.take_append_drop]
  rw [List.eraseIdx_eq_take_drop_succ]
  conv => rhs; rw [e]
  exact List.perm_middle.symm
theorem own_set_perm {α : Type} {L : List α} {i : Nat} {p : α} (h : L[i]? = some p) (q : α) : (q :: L.eraseIdx i).Perm (L.set i q) := by
  have hi := (List.getElem?_eq_some_iff.1 h).1
  have := own_perm (L := L.set i q) (i := i) (p := q) (by simp [hi])
  rwa [List.eraseIdx_set_eq] at this
theorem splice_take {α : Type} (A vs : List α) (p n : Nat) (h : p + vs.length ≤ n) (h2 : n ≤ A.length) : (A.take p ++ vs ++ A.drop (p + vs.length)).take n = (A.take n).take p ++ vs ++ (A.take n).drop (p + vs.length) := by
  have h1 : (A.take p).length = p := by rw [List.length_take]; omega
  have h3 : (A.take p ++ vs).length = p + vs.length := by rw [List.length_append, h1]
  rw [List.take_append, h3, List.take_of_length_le (by omega), List.take_take, Nat.min_eq_left (by omega), List.drop_take]

theorem HRel.at {σ : Hp} {L : Own} {F : Fr} {w : World} (h : HRel σ L F w) {i : Nat} {p : Value × OB} (hp : L[i]? = some p) : HRel σ (p :: L.eraseIdx i) F w := h.perm (own_perm hp).symm
theorem HRel.own1 {σ : Hp} {L : Own} {F : Fr} {w : World} (h : HRel σ L F w) {i : Nat} {p : Value × OB} (hp : L[i]? = some p) : Own1 σ w p := h.own p (List.mem_of_getElem? hp)

/-- What is owned at place i is written. -/
theorem HRel.writeAt {σ : Hp} {L : Own} {F : Fr} {w w' : World} {i : Nat} {v v' : Value} {ob ob' : OB} (h : HRel σ L F w) (hp : L[i]? = some (v, ob))
    (hsz : w.heap.size ≤ w'.heap.size) (hk : ∀ i, i < w.heap.size → some i ≠ blk v → w'.heap[i]? = w.heap[i]?) (ho : w'.os = w.os) (hout : w'.output = w.output)
    (hv : ∀ b, blk v' = some b → blk v = some b ∨ w.heap.size ≤ b) (hown : Own1 σ w' (v', ob')) : HRel σ (L.set i (v', ob')) F w' :=
  ((h.at hp).write hsz hk ho hout hv hown).perm (own_set_perm hp _)

/-- A tree each of whose cells can be stored. -/
def AV.storable : AV → Bool
  | .agg l => l.all AV.cell
  | x => x.cell
theorem AV.storable_whole {x : AV} (h : x.storable = true) : x.cell = true ∨ ∃ l, x = .agg l := by
  cases x <;> first | exact .inr ⟨_, rfl⟩ | exact .inl h
theorem VRs.oneCell {σ : Hp} {ys : List AV} {vs : List Value} (h : VRs σ ys vs) (hc : ys.all AV.cell = true) : ∀ u ∈ vs, u.oneCell' = true := by
  intro u hu
  obtain ⟨j, hj⟩ := List.getElem?_of_mem hu
  have hlt : j < ys.length := by rw [← h.1]; exact (List.getElem?_eq_some_iff.1 hj).1
  exact (h.2 j _ u (List.getElem?_eq_getElem hlt) hj).cell (List.all_eq_true.1 hc _ (List.getElem_mem hlt))
theorem AV.storable_cells {x : AV} (h : x.storable = true) : x.cells.all AV.cell = true := by
  cases x <;> first | exact h | (simp only [AV.cells, List.all_cons, List.all_nil, Bool.and_true]; exact h)

/-! ### Reading what is owned -/

theorem own_row_val {σ : Hp} {w : World} {v : Value} {E sz : Nat} {es : List (List AV)} (h : Own1 σ w (v, .row E sz es)) : ∃ a cap, v = .slice a es.length cap ∧ es.length ≤ cap := by
  obtain ⟨xs, h1, _⟩ := h
  rcases h1 with ⟨h0, a, rfl⟩ | ⟨g, cap, cur, rfl, h0, hg, hn, _⟩
  · exact ⟨a, 0, by rw [h0], by omega⟩
  · exact ⟨_, cap, rfl, hn⟩

/-- An owned row with elements: its block and its cells. -/
theorem own_row_cells {σ : Hp} {w : World} {v : Value} {E sz : Nat} {es : List (List AV)} (h : Own1 σ w (v, .row E sz es)) (hne : es ≠ []) :
    ∃ g cap cur, v = .slice (some ⟨g, 0, none⟩) es.length cap ∧ 0 < cap ∧ w.heap[g]? = some (.cells cur E (0, 0)) ∧ es.length ≤ cap ∧ cap ≤ maxLen ∧ cur.size = cap * sz ∧ (∀ e ∈ es, e.length = sz) ∧ VRs σ es.flatten (cur.toList.take (es.length * sz)) := by
  obtain ⟨xs, h1, h2, h3⟩ := h
  rcases h1 with ⟨h0, a, rfl⟩ | ⟨g, cap, cur, rfl, h0, hg, hn, hm, hc, ht⟩
  · exact absurd (List.eq_nil_of_length_eq_zero h0) hne
  · exact ⟨g, cap, cur, rfl, h0, hg, hn, hm, hc, h2, by rw [ht]; exact h3⟩

section
variable {P : Program} {N : Nat} {ops : List Oper} {Q : St → Own → Prop} {L : Own} {rest : List (Oper × Kd)} {l : List (Nat × AV)} {k : Kd} {q : Nat}

theorem q_ownLen {tt : List (TypeId × TD)} (ok : TOK P tt) {dst : Option Tmp} {T : TypeId} {x : Operand} {ty : TypeId} {pos : String} {after : Array Edge} {g : Option (Nat × Bool)} {st : St} {E0 : TypeId} {s1 b1 : Nat} {z1 : List Value}
    {i E sz : Nat} {v : Value} {es : List (List AV)} (hT : lkT tt T = some ⟨.slice E0, s1, b1, z1⟩) (hx : ev st x = .lit v) (hL : L[i]? = some (v, .row E sz es)) :
    AQ P ⟨dst, .call ⟨.builtin .len, #[x], #[T]⟩, ty, pos, after, g⟩ st L (.lit (.int .i64 es.length)) := by
  refine ⟨fun σ F w ρ hR hρ => ⟨_, ?_, .lit _⟩⟩
  have h1 := hρ x (by simp [Op.operands, Call.operands])
  rw [hx] at h1
  obtain ⟨a, cap, hv, _⟩ := own_row_val (hR.own1 hL)
  have hu := (ok _ _ hT).slice rfl
  simp [execOp, resolve, invoke, builtin, h1.lit_inv, hv, Builtin.len_, run_underlying hu, goInt]

theorem s_ownLen {tt : List (TypeId × TD)} (ok : TOK P tt) (i : Nat) {o : Oper} {T : TypeId} {x : Operand} {E0 : TypeId} {s1 b1 : Nat} {z1 : List Value} {E sz : Nat} {v : Value} {es : List (List AV)}
    (ho : o.op = .call ⟨.builtin .len, #[x], #[T]⟩) (hdst : o.dst = some q) (hd : Nat.blt q N = true) (hg : guardA ops o (lk l) = some true) (hk : k ≠ .pure) (hT : lkT tt T = some ⟨.slice E0, s1, b1, z1⟩) (hx : ev (lk l) x = .lit v) (hL : L[i]? = some (v, .row E sz es))
    (n : AL P N ops Q rest (lk ((q, .lit (.int .i64 es.length)) :: l)) L) : AL P N ops Q ((o, k) :: rest) (lk l) L := by
  obtain ⟨dst, op', ty, pos, after, g⟩ := o
  simp only at ho
  subst ho
  exact s_read hdst hd hg hk (q_ownLen ok hT hx hL) n

theorem s_ownIndex {tt : List (TypeId × TD)} (ok : TOK P tt) (i : Nat) {o : Oper} {T : TypeId} {x y : Operand} {E0 : TypeId} {s1 b1 : Nat} {z1 : List Value} {d : TD} {E sz : Nat} {v : Value} {es : List (List AV)} {kk : IntKind} {j : Int}
    (ho : o.op = .indexAddr T x y) (hdst : o.dst = some q) (hd : Nat.blt q N = true) (hg : guardA ops o (lk l) = some true) (hk : k ≠ .pure) (hT : lkT tt T = some ⟨.slice E0, s1, b1, z1⟩) (hE : lkT tt E0 = some d) (hx : ev (lk l) x = .lit v) (hL : L[i]? = some (v, .row E sz es)) (hs : sz = d.size)
    (hy : ev (lk l) y = .lit (.int kk j)) (h0 : 0 ≤ j) (h1 : j < es.length)
    (n : AL P N ops Q rest (lk ((q, .pt v sz j.toNat 0) :: l)) L) : AL P N ops Q ((o, k) :: rest) (lk l) L := by
  obtain ⟨dst, op', ty, pos, after, g⟩ := o
  simp only at ho
  subst ho
  subst hs
  refine s_read hdst hd hg hk ⟨fun σ F w ρ hR hρ => ?_⟩ n
  have e1 := hρ x (by simp [Op.operands])
  have e2 := hρ y (by simp [Op.operands])
  rw [hx] at e1
  rw [hy] at e2
  have hu := (ok _ _ hT).slice rfl
  have hsz := (ok _ _ hE).sizeOf_run
  obtain ⟨g, cap, cur, hv, hc0, _⟩ := own_row_cells (hR.own1 hL) (by intro h; subst h; simp at h1; omega)
  refine ⟨.pointer (some ⟨g, j.toNat * d.size + 0, none⟩), ?_, .pt v d.size j.toNat 0 g (by rw [hv]; simp [blk]; omega)⟩
  have hadd : (⟨g, 0, none⟩ : Addr).add (j.toNat * d.size) = ⟨g, j.toNat * d.size, none⟩ := by unfold Addr.add; split <;> simp_all
  simp [execOp, e1.lit_inv, hv, e2.lit_inv, Instr.indexAt, asIntOf, run_underlying hu, h0, h1, hsz, hadd]

/-- The cells of what is owned, from a place on. -/
def obAt : OB → Nat → Nat → Option (List AV)
  | .row _ _ es, j, off => match es[j]? with
    | some e => some (e.drop off)
    | none => none
  | .box cells, _, off => some (cells.drop off)
  | .mp _, _, _ => none

/-- 'pt v sz j off' fits what v owns. -/
def obFit : OB → Nat → Nat → Bool
  | .row _ s _, sz, _ => Nat.beq s sz
  | .box _, _, j => Nat.beq j 0
  | .mp _, _, _ => false

theorem own_at {σ : Hp} {w : World} {v : Value} {ob : OB} (h : Own1 σ w (v, ob)) {sz j off : Nat} {cells : List AV} (hf : obFit ob sz j = true) (hc : obAt ob j off = some cells) (hne : cells ≠ []) :
    ∃ g E cur, blk v = some g ∧ w.heap[g]? = some (.cells cur E (0, 0)) ∧ ∀ k x, cells[k]? = some x → ∃ y, cur[j * sz + off + k]? = some y ∧ VR σ x y := by
  cases ob with
  | row E s es =>
    simp only [obFit] at hf
    obtain rfl := Nat.eq_of_beq_eq_true hf
    simp only [obAt] at hc
    cases he : es[j]? with
    | none => rw [he] at hc; cases hc
    | some e =>
      rw [he] at hc
      cases hc
      have hes : es ≠ [] := by intro hh; subst hh; simp at he
      obtain ⟨g, cap, cur, hv, h0, hg, hn, hm, hcs, hl, hvr⟩ := own_row_cells h hes
      refine ⟨g, E, cur, by rw [hv]; simp [blk]; omega, hg, fun k x hx => ?_⟩
      rw [List.getElem?_drop] at hx
      have hk : off + k < e.length := (List.getElem?_eq_some_iff.1 hx).1
      have hfl := flatten_get hl he hk
      rw [hx] at hfl
      obtain ⟨y, hy, hxy⟩ := hvr.get hfl
      refine ⟨y, ?_, hxy⟩
      rw [List.getElem?_take] at hy
      split at hy
      · rw [Nat.add_assoc]; simpa using hy
      · cases hy
  | box cs =>
    simp only [obFit] at hf
    obtain rfl := Nat.eq_of_beq_eq_true hf
    simp only [obAt] at hc
    cases hc
    obtain ⟨b, c, E, hv, hg, hvr⟩ := h
    refine ⟨b, E, c, by rw [hv]; rfl, hg, fun k x hx => ?_⟩
    rw [List.getElem?_drop] at hx
    obtain ⟨y, hy, hxy⟩ := hvr.get hx
    exact ⟨y, by simpa using hy, hxy⟩
  | mp m => simp [obFit] at hf

theorem s_ownLoad {tt : List (TypeId × TD)} (ok : TOK P tt) (i : Nat) {o : Oper} {T : TypeId} {x : Operand} {d : TD} {v : Value} {ob : OB} {sz j off : Nat} {cells : List AV} {a : AV}
    (ho : o.op = .load T x) (hdst : o.dst = some q) (hd : Nat.blt q N = true) (hg : guardA ops o (lk l) = some true) (hk : k ≠ .pure) (hT : lkT tt T = some d) (hx : ev (lk l) x = .pt v sz j off) (hL : L[i]? = some (v, ob)) (hf : obFit ob sz j = true) (hc : obAt ob j off = some cells) (hp : partA d cells 0 = some a) (hne : cells ≠ [])
    (n : AL P N ops Q rest (lk ((q, a) :: l)) L) : AL P N ops Q ((o, k) :: rest) (lk l) L := by
  obtain ⟨dst, op', ty, pos, after, g⟩ := o
  simp only at ho
  subst ho
  refine s_read hdst hd hg hk ⟨fun σ F w ρ hR hρ => ?_⟩ n
  have e1 := hρ x (by simp [Op.operands])
  rw [hx] at e1
  obtain ⟨b, E, cur, hb, hg, hcell⟩ := own_at (hR.own1 hL) hf hc hne
  generalize hu : ρ x = u at e1
  cases e1 with
  | pt _ _ _ _ b' hb' =>
    rw [hb] at hb'
    cases hb'
    have key : ∀ k y, cells[k]? = some y → cur[j * sz + off + k]? = some (cur.getD (j * sz + off + k) undef) ∧ VR σ y (cur.getD (j * sz + off + k) undef) := by
      intro k y hy
      obtain ⟨u, hu, hyu⟩ := hcell k y hy
      simp only [Array.getD_eq_getD_getElem?, hu, Option.getD_some]
      exact ⟨trivial, hyu⟩
    obtain ⟨r, hr, hxr⟩ := load_run (P := P) (ok _ _ hT) (σ := σ) (l := cells) (w := w) (b := b) (off := j * sz + off) (f := fun k => cur.getD (j * sz + off + k) undef)
      (fun k y hy => by rw [cell_at hg]; exact (key k y hy).1) (fun k y hy => (key k y hy).2) hp
    exact ⟨r, by simp [execOp, hu, hr], hxr⟩

/-! ### Writing what is owned -/

def obSet : OB → Nat → Nat → List AV → OB
  | .row E sz es, j, off, ys => .row E sz (es.set j (setAll (es.getD j []) off ys))
  | .box cells, _, off, ys => .box (setAll cells off ys)
  | .mp m, _, _, _ => .mp m

theorem own_set {σ : Hp} {w : World} {v : Value} {ob : OB} (h : Own1 σ w (v, ob)) {sz j off : Nat} {cells : List AV} (hf : obFit ob sz j = true) (hc : obAt ob j off = some cells) {ys : List AV} {vs : List Value} (hvs : VRs σ ys vs) (hne : ys ≠ []) (hlen : ys.length ≤ cells.length) :
    ∃ g E cur, blk v = some g ∧ w.heap[g]? = some (.cells cur E (0, 0)) ∧ j * sz + off + vs.length ≤ cur.size ∧
      ∀ w' : World, w'.heap[g]? = some (.cells (cur.toList.take (j * sz + off) ++ vs ++ cur.toList.drop (j * sz + off + vs.length)).toArray E (0, 0)) → Own1 σ w' (v, obSet ob j off ys) := by
  have hpos : 0 < ys.length := List.length_pos_iff.2 hne
  cases ob with
  | row E s es =>
    simp only [obFit] at hf
    obtain rfl := Nat.eq_of_beq_eq_true hf
    simp only [obAt] at hc
    cases he : es[j]? with
    | none => rw [he] at hc; cases hc
    | some e =>
      rw [he] at hc
      cases hc
      have hes : es ≠ [] := by intro hh; subst hh; simp at he
      have hj : j < es.length := (List.getElem?_eq_some_iff.1 he).1
      obtain ⟨g, cap, cur, hv, h0, hg, hn, hm, hcs, hl, hvr⟩ := own_row_cells h hes
      have hel := hl e (List.mem_of_getElem? he)
      simp only [List.length_drop] at hlen
      have hfit : j * s + off + vs.length ≤ es.length * s := by
        have h1 : (j + 1) * s ≤ es.length * s := Nat.mul_le_mul_right _ hj
        rw [Nat.add_mul, Nat.one_mul] at h1
        rw [hvs.1]
        omega
      have hfit2 : es.length * s ≤ cur.size := by rw [hcs]; exact Nat.mul_le_mul_right _ hn
      refine ⟨g, E, cur, by rw [hv]; simp [blk]; omega, hg, by omega, fun w' hw' => ?_⟩
      have hflat : es.flatten.length = es.length * s := flatten_len hl
      have htl := flatten_take_len hl (Nat.le_of_lt hj)
      have hnew : (es.set j (setAll (es.getD j []) off ys)).flatten = es.flatten.take (j * s + off) ++ ys ++ es.flatten.drop (j * s + off + ys.length) := by
        rw [flatten_set he, List.getD_eq_getElem?_getD, he, Option.getD_some, setAll_eq ys e off (by omega)]
        have hsp := flatten_split he
        have e1 : es.flatten.take (j * s + off) = (es.take j).flatten ++ e.take off := by
          rw [hsp, List.append_assoc, List.take_append, htl, List.take_of_length_le (by omega), Nat.add_sub_cancel_left, List.take_append_of_le_length (by omega)]
        have e2 : es.flatten.drop (j * s + off + ys.length) = e.drop (off + ys.length) ++ (es.drop (j + 1)).flatten := by
          rw [hsp, List.append_assoc, List.drop_append, htl, List.drop_of_length_le (by omega), List.nil_append, show j * s + off + ys.length - j * s = off + ys.length by omega, List.drop_append_of_le_length (by omega)]
        rw [e1, e2]
        simp [List.append_assoc]
      refine ⟨_, .inr ⟨g, cap, _, by simpa using hv, h0, hw', by simpa using hn, hm, ?_, rfl⟩, fun e' he' => ?_, ?_⟩
      · simp only [List.size_toArray, List.length_append, List.length_take, List.length_drop, Array.length_toList]
        omega
      · rcases List.mem_or_eq_of_mem_set he' with h1 | h1
        · exact hl e' h1
        · rw [h1, length_setAll, List.getD_eq_getElem?_getD, he]; exact hel
      · rw [hnew]
        have hlen' : (es.set j (setAll (es.getD j []) off ys)).length * s = es.length * s := by simp
        rw [hlen']
        have e3 := splice_take cur.toList vs (j * s + off) (es.length * s) hfit (by simpa using hfit2)
        simp only [List.toList_toArray]
        rw [e3, hvs.1]
        exact ((hvr.take _).append hvs).append (hvr.drop _)
  | box cs =>
    simp only [obFit] at hf
    obtain rfl := Nat.eq_of_beq_eq_true hf
    simp only [obAt] at hc
    cases hc
    obtain ⟨b, c, E, hv, hg, hvr⟩ := h
    simp only [List.length_drop] at hlen
    have hsz : c.size = cs.length := by have := hvr.1; simpa using this
    refine ⟨b, E, c, by rw [hv]; rfl, hg, by rw [hvs.1]; omega, fun w' hw' => ?_⟩
    refine ⟨b, _, E, hv, hw', ?_⟩
    rw [setAll_eq ys cs off (by omega)]
    simp only [Nat.zero_mul, Nat.zero_add, List.toList_toArray]
    rw [hvs.1]
    exact ((hvr.take _).append hvs).append (hvr.drop _)
  | mp m => simp [obFit] at hf

/-- A store into what is owned. -/
theorem s_store {tt : List (TypeId × TD)} (ok : TOK P tt) (i : Nat) {o : Oper} {T : TypeId} {x y : Operand} {d : TD} {v : Value} {ob : OB} {sz j off : Nat} {cells : List AV} {a : AV}
    (ho : o.op = .store T x y) (hdst : o.dst = none) (hg : guardA ops o (lk l) = some true) (hT : lkT tt T = some d) (hx : ev (lk l) x = .pt v sz j off) (hy : ev (lk l) y = a) (ha : a.storable = true) (hal : a.cells.length = d.size) (hd0 : 0 < d.size)
    (hL : L[i]? = some (v, ob)) (hf : obFit ob sz j = true) (hc : obAt ob j off = some cells) (hle : a.cells.length ≤ cells.length)
    (n : AL P N ops Q rest (lk l) (L.set i (v, obSet ob j off a.cells))) : AL P N ops Q ((o, .eff) :: rest) (lk l) L := by
  obtain ⟨dst, op', ty, pos, after, g⟩ := o
  simp only at ho
  subst ho
  refine s_eff0 (fun x M => x = .lit undef ∧ M = L.set i (v, obSet ob j off a.cells)) hdst hg ⟨fun σ F w ρ hR hρ => ?_⟩ (fun x M ⟨e1, e2⟩ => by rw [e2]; exact n)
  have e1 := hρ x (by simp [Op.operands])
  have e2 := hρ y (by simp [Op.operands])
  rw [hx] at e1
  rw [hy] at e2
  have hcells := e2.cells (AV.storable_whole ha)
  have hone := hcells.oneCell (AV.storable_cells ha)
  have hvlen : (ρ y).cells.size = d.size := by have := hcells.1; simp at this; omega
  obtain ⟨gb, E, cur, hb, hgb, hfit, hnew⟩ := own_set (hR.own1 hL) hf hc hcells (by intro h; rw [h] at hal; simp at hal; omega) hle
  generalize hu : ρ x = u at e1
  cases e1 with
  | pt _ _ _ _ b' hb' =>
    rw [hb] at hb'
    cases hb'
    have hst := run_storeCells_at P gb (j * sz + off) E (ρ y).cells.toList 0 cur w hgb (by simpa using hfit) hone
    simp only [Nat.add_zero] at hst
    have hrun : (execOp ρ ⟨dst, .store T x y, ty, pos, after, g⟩).run P w = .ok .skip (w.setRow gb (cur.toList.take (j * sz + off) ++ (ρ y).cells.toList ++ cur.toList.drop (j * sz + off + (ρ y).cells.toList.length)).toArray) := by
      simp only [execOp, hu, Instr.storeAt, Instr.sureAddr, pure_bind, storeVar, Sem.run_bind, (ok _ _ hT).sizeOf_run, Result.andThen_ok, hvlen, ne_eq, not_true_eq_false, if_false, hst, Sem.run_pure]
    rw [hrun]
    refine ⟨σ, _, _, σ.le_refl, hR.writeAt hL (by simp) (fun q hq hne => setRow_other w gb q _ (fun e => hne (by rw [hb, e]))) rfl rfl (fun b hb => .inl hb) (hnew _ (setRow_heap w gb cur _ E _ hgb)), .lit _, rfl, rfl⟩
end

end Go.Sj
