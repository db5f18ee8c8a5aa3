/-
  Part D: steps: operations with a condition, owned memory, calls.
  No condition; nothing here names a program.
-/
import Derived.Test.YtebmopjobmjhmaaSjC
namespace Go.Sj
set_option linter.unusedVariables false
set_option linter.unusedSimpArgs false

/-! ### Steps of a region -/

section steps
variable {P : Program} {N : Nat} {ops : List Oper} {Q : St → Own → Prop} {L : Own} {rest : List (Oper × Kd)} {l : List (Nat × AV)} {k : Kd} {q : Nat}

theorem dst_spec {o : Oper} (h : o.dst = some q) (hd : Nat.blt q N = true) : ∀ d, o.dst = some d → d < N := by
  intro d he
  rw [h] at he
  cases he
  simpa using hd
theorem upd_dst {o : Oper} (h : o.dst = some q) (x : AV) : updO (lk l) o.dst x = lk ((q, x) :: l) := by rw [h]; rfl

/-- An operation that looks only. -/
theorem s_pe {tt : List (TypeId × TD)} (ok : TOK P tt) {o : Oper} {x : AV} (hdst : o.dst = some q) (hd : Nat.blt q N = true) (hg : guardA ops o (lk l) = some true) (h : pe tt (lk l) o.op = some x)
    (n : AL P N ops Q rest (lk ((q, x) :: l)) L) : AL P N ops Q ((o, k) :: rest) (lk l) L :=
  .pure (dst_spec hdst hd) hg (pe_sound ok h) (by rw [upd_dst hdst]; exact n)
theorem s_skip {o : Oper} (hdst : o.dst = some q) (hd : Nat.blt q N = true) (hg : guardA ops o (lk l) = some false) (n : AL P N ops Q rest (lk ((q, .lit (.tuple #[])) :: l)) L) : AL P N ops Q ((o, k) :: rest) (lk l) L :=
  .skip (dst_spec hdst hd) hg (by rw [upd_dst hdst]; exact n)
theorem s_skip0 {o : Oper} (hdst : o.dst = none) (hg : guardA ops o (lk l) = some false) (n : AL P N ops Q rest (lk l) L) : AL P N ops Q ((o, k) :: rest) (lk l) L :=
  .skip (fun d h => by rw [hdst] at h; cases h) hg (by rw [hdst]; exact n)
theorem s_pure {o : Oper} {x : AV} (hdst : o.dst = some q) (hd : Nat.blt q N = true) (hg : guardA ops o (lk l) = some true) (h : AQ P o (lk l) [] x) (n : AL P N ops Q rest (lk ((q, x) :: l)) L) : AL P N ops Q ((o, k) :: rest) (lk l) L :=
  .pure (dst_spec hdst hd) hg h (by rw [upd_dst hdst]; exact n)
theorem s_read {o : Oper} {x : AV} (hdst : o.dst = some q) (hd : Nat.blt q N = true) (hg : guardA ops o (lk l) = some true) (hk : k ≠ .pure) (h : AQ P o (lk l) L x) (n : AL P N ops Q rest (lk ((q, x) :: l)) L) : AL P N ops Q ((o, k) :: rest) (lk l) L :=
  .read (dst_spec hdst hd) hg hk h (by rw [upd_dst hdst]; exact n)
theorem s_eff {o : Oper} (K : AV → Own → Prop) (hdst : o.dst = some q) (hd : Nat.blt q N = true) (hg : guardA ops o (lk l) = some true) (h : AOp P o K (lk l) L) (n : ∀ x L', K x L' → AL P N ops Q rest (lk ((q, x) :: l)) L') : AL P N ops Q ((o, .eff) :: rest) (lk l) L :=
  .eff (dst_spec hdst hd) hg h (fun x L' hx => by rw [upd_dst hdst]; exact n x L' hx)
theorem s_eff0 {o : Oper} (K : AV → Own → Prop) (hdst : o.dst = none) (hg : guardA ops o (lk l) = some true) (h : AOp P o K (lk l) L) (n : ∀ x L', K x L' → AL P N ops Q rest (lk l) L') : AL P N ops Q ((o, .eff) :: rest) (lk l) L :=
  .eff (fun d h => by rw [hdst] at h; cases h) hg h (fun x L' hx => by rw [hdst]; exact n x L' hx)

/-! The same, with the tree's head written out. -/
section heads
variable {tt : List (TypeId × TD)} (ok : TOK P tt) {o : Oper} (hdst : o.dst = some q) (hd : Nat.blt q N = true) (hg : guardA ops o (lk l) = some true)
include ok hdst hd hg
theorem t_lit {v : Value} (h : pe tt (lk l) o.op = some (.lit v)) (n : AL P N ops Q rest (lk ((q, .lit v) :: l)) L) : AL P N ops Q ((o, k) :: rest) (lk l) L := s_pe ok hdst hd hg h n
theorem t_im {sz : Nat} {es : List (List AV)} (h : pe tt (lk l) o.op = some (.im sz es)) (n : AL P N ops Q rest (lk ((q, .im sz es) :: l)) L) : AL P N ops Q ((o, k) :: rest) (lk l) L := s_pe ok hdst hd hg h n
theorem t_ip {c : List AV} (h : pe tt (lk l) o.op = some (.ip c)) (n : AL P N ops Q rest (lk ((q, .ip c) :: l)) L) : AL P N ops Q ((o, k) :: rest) (lk l) L := s_pe ok hdst hd hg h n
theorem t_pt {v : Value} {sz j off : Nat} (h : pe tt (lk l) o.op = some (.pt v sz j off)) (n : AL P N ops Q rest (lk ((q, .pt v sz j off) :: l)) L) : AL P N ops Q ((o, k) :: rest) (lk l) L := s_pe ok hdst hd hg h n
theorem t_agg {c : List AV} (h : pe tt (lk l) o.op = some (.agg c)) (n : AL P N ops Q rest (lk ((q, .agg c) :: l)) L) : AL P N ops Q ((o, k) :: rest) (lk l) L := s_pe ok hdst hd hg h n
theorem t_tup {c : List AV} (h : pe tt (lk l) o.op = some (.tup c)) (n : AL P N ops Q rest (lk ((q, .tup c) :: l)) L) : AL P N ops Q ((o, k) :: rest) (lk l) L := s_pe ok hdst hd hg h n
theorem t_fn {f : Fn} {a b : List AV} (h : pe tt (lk l) o.op = some (.fn f a b)) (n : AL P N ops Q rest (lk ((q, .fn f a b) :: l)) L) : AL P N ops Q ((o, k) :: rest) (lk l) L := s_pe ok hdst hd hg h n
theorem t_z0 (h : pe tt (lk l) o.op = some .z0) (n : AL P N ops Q rest (lk ((q, .z0) :: l)) L) : AL P N ops Q ((o, k) :: rest) (lk l) L := s_pe ok hdst hd hg h n
end heads

/-! ### Numbers -/

def cmpB : BinOp → Int → Int → Option Bool
  | .eql, a, b => some (decide (a = b))
  | .neq, a, b => some (decide (a ≠ b))
  | .lss, a, b => some (decide (a < b))
  | .leq, a, b => some (decide (a ≤ b))
  | .gtr, a, b => some (decide (b < a))
  | .geq, a, b => some (decide (b ≤ a))
  | _, _, _ => none
def cmpP : BinOp → Int → Int → Prop
  | .eql, a, b => a = b
  | .neq, a, b => a ≠ b
  | .lss, a, b => a < b
  | .leq, a, b => a ≤ b
  | .gtr, a, b => b < a
  | .geq, a, b => b ≤ a
  | _, _, _ => False
def isCmp : BinOp → Bool
  | .eql | .neq | .lss | .leq | .gtr | .geq => true
  | _ => false

theorem q_cmp {op : BinOp} {T T' : TypeId} {x y : Operand} {dst : Option Tmp} {ty : TypeId} {pos : String} {after : Array Edge} {g : Option (Nat × Bool)} {st : St} {kk : IntKind} {a b : Int} {r : Bool}
    (hx : ev st x = .lit (.int kk a)) (hy : ev st y = .lit (.int kk b)) (hc : isCmp op = true) (hr : cmpP op a b ↔ r = true) : AQ P ⟨dst, .binOp op T x y T', ty, pos, after, g⟩ st L (.lit (.bool r)) := by
  refine ⟨fun σ F w ρ hR hρ => ?_⟩
  have h1 := hρ x (by simp [Op.operands])
  have h2 := hρ y (by simp [Op.operands])
  rw [hx] at h1
  rw [hy] at h2
  refine ⟨.bool r, ?_, .lit _⟩
  cases op <;> simp [isCmp] at hc <;> simp only [cmpP] at hr <;>
    (simp [execOp, h1.lit_inv, h2.lit_inv, eqGuard, binOp, Op.intCmp]
     cases r <;> simp_all)

theorem s_cmpT {o : Oper} {op : BinOp} {T T' : TypeId} {x y : Operand} {kk : IntKind} {a b : Int} (ho : o.op = .binOp op T x y T') (hdst : o.dst = some q) (hd : Nat.blt q N = true) (hg : guardA ops o (lk l) = some true)
    (hx : ev (lk l) x = .lit (.int kk a)) (hy : ev (lk l) y = .lit (.int kk b)) (hc : isCmp op = true) (h : cmpP op a b)
    (n : AL P N ops Q rest (lk ((q, .lit (.bool true)) :: l)) L) : AL P N ops Q ((o, k) :: rest) (lk l) L := by
  obtain ⟨dst, op', ty, pos, after, g⟩ := o
  simp only at ho
  subst ho
  exact s_pure hdst hd hg (q_cmp hx hy hc (by simp [h])) n
theorem s_cmpF {o : Oper} {op : BinOp} {T T' : TypeId} {x y : Operand} {kk : IntKind} {a b : Int} (ho : o.op = .binOp op T x y T') (hdst : o.dst = some q) (hd : Nat.blt q N = true) (hg : guardA ops o (lk l) = some true)
    (hx : ev (lk l) x = .lit (.int kk a)) (hy : ev (lk l) y = .lit (.int kk b)) (hc : isCmp op = true) (h : ¬ cmpP op a b)
    (n : AL P N ops Q rest (lk ((q, .lit (.bool false)) :: l)) L) : AL P N ops Q ((o, k) :: rest) (lk l) L := by
  obtain ⟨dst, op', ty, pos, after, g⟩ := o
  simp only at ho
  subst ho
  exact s_pure hdst hd hg (q_cmp hx hy hc (by simp [h])) n
/-- A test: both ways. -/
theorem s_cmp {o : Oper} {op : BinOp} {T T' : TypeId} {x y : Operand} {kk : IntKind} {a b : Int} (ho : o.op = .binOp op T x y T') (hdst : o.dst = some q) (hd : Nat.blt q N = true) (hg : guardA ops o (lk l) = some true)
    (hx : ev (lk l) x = .lit (.int kk a)) (hy : ev (lk l) y = .lit (.int kk b)) (hc : isCmp op = true)
    (n : cmpP op a b → AL P N ops Q rest (lk ((q, .lit (.bool true)) :: l)) L) (m : ¬ cmpP op a b → AL P N ops Q rest (lk ((q, .lit (.bool false)) :: l)) L) : AL P N ops Q ((o, k) :: rest) (lk l) L := by
  by_cases h : cmpP op a b
  · exact s_cmpT ho hdst hd hg hx hy hc h (n h)
  · exact s_cmpF ho hdst hd hg hx hy hc h (m h)

def arI : BinOp → Int → Int → Option Int
  | .add, a, b => some (a + b)
  | .sub, a, b => some (a - b)
  | .mul, a, b => some (a * b)
  | _, _, _ => none

theorem q_arith {op : BinOp} {T T' : TypeId} {x y : Operand} {dst : Option Tmp} {ty : TypeId} {pos : String} {after : Array Edge} {g : Option (Nat × Bool)} {st : St} {kk : IntKind} {a b r : Int}
    (hx : ev st x = .lit (.int kk a)) (hy : ev st y = .lit (.int kk b)) (hc : arI op a b = some r) : AQ P ⟨dst, .binOp op T x y T', ty, pos, after, g⟩ st L (.lit (.int kk (kk.wrap r))) := by
  refine ⟨fun σ F w ρ hR hρ => ?_⟩
  have h1 := hρ x (by simp [Op.operands])
  have h2 := hρ y (by simp [Op.operands])
  rw [hx] at h1
  rw [hy] at h2
  refine ⟨.int kk (kk.wrap r), ?_, .lit _⟩
  cases op <;> simp [arI] at hc <;> subst hc <;> simp [execOp, h1.lit_inv, h2.lit_inv, eqGuard, binOp, Op.intArith]

/-- A sum, a difference or a product that fits. -/
theorem s_arith {o : Oper} {op : BinOp} {T T' : TypeId} {x y : Operand} {kk : IntKind} {a b r : Int} (ho : o.op = .binOp op T x y T') (hdst : o.dst = some q) (hd : Nat.blt q N = true) (hg : guardA ops o (lk l) = some true)
    (hx : ev (lk l) x = .lit (.int kk a)) (hy : ev (lk l) y = .lit (.int kk b)) (hc : arI op a b = some r) (h : kk.wrap r = r)
    (n : AL P N ops Q rest (lk ((q, .lit (.int kk r)) :: l)) L) : AL P N ops Q ((o, k) :: rest) (lk l) L := by
  obtain ⟨dst, op', ty, pos, after, g⟩ := o
  simp only at ho
  subst ho
  have := q_arith (P := P) (L := []) (dst := dst) (T := T) (T' := T') (ty := ty) (pos := pos) (after := after) (g := g) hx hy hc
  rw [h] at this
  exact s_pure hdst hd hg this n

/-- A remainder of numbers that are not negative. -/
theorem s_rem {o : Oper} {T T' : TypeId} {x y : Operand} {kk : IntKind} {a b : Int} (ho : o.op = .binOp .rem T x y T') (hdst : o.dst = some q) (hd : Nat.blt q N = true) (hg : guardA ops o (lk l) = some true)
    (hx : ev (lk l) x = .lit (.int kk a)) (hy : ev (lk l) y = .lit (.int kk b)) (ha : 0 ≤ a) (hb : 0 < b)
    (n : AL P N ops Q rest (lk ((q, .lit (.int kk (a % b))) :: l)) L) : AL P N ops Q ((o, k) :: rest) (lk l) L := by
  obtain ⟨dst, op', ty, pos, after, g⟩ := o
  simp only at ho
  subst ho
  refine s_pure hdst hd hg ⟨fun σ F w ρ hR hρ => ⟨.int kk (a % b), ?_, .lit _⟩⟩ n
  have h1 := hρ x (by simp [Op.operands])
  have h2 := hρ y (by simp [Op.operands])
  rw [hx] at h1
  rw [hy] at h2
  have hb0 : b ≠ 0 := by omega
  simp [execOp, h1.lit_inv, h2.lit_inv, eqGuard, binOp, Op.intDiv, hb0, Int.tmod_eq_emod_of_nonneg ha]
/-- A quotient of numbers that are not negative. -/
theorem s_quo {o : Oper} {T T' : TypeId} {x y : Operand} {kk : IntKind} {a b : Int} (ho : o.op = .binOp .quo T x y T') (hdst : o.dst = some q) (hd : Nat.blt q N = true) (hg : guardA ops o (lk l) = some true)
    (hx : ev (lk l) x = .lit (.int kk a)) (hy : ev (lk l) y = .lit (.int kk b)) (ha : 0 ≤ a) (hb : 0 < b) (hw : kk.wrap (a / b) = a / b)
    (n : AL P N ops Q rest (lk ((q, .lit (.int kk (a / b))) :: l)) L) : AL P N ops Q ((o, k) :: rest) (lk l) L := by
  obtain ⟨dst, op', ty, pos, after, g⟩ := o
  simp only at ho
  subst ho
  refine s_pure hdst hd hg ⟨fun σ F w ρ hR hρ => ⟨.int kk (a / b), ?_, .lit _⟩⟩ n
  have h1 := hρ x (by simp [Op.operands])
  have h2 := hρ y (by simp [Op.operands])
  rw [hx] at h1
  rw [hy] at h2
  have hb0 : b ≠ 0 := by omega
  simp [execOp, h1.lit_inv, h2.lit_inv, eqGuard, binOp, Op.intDiv, hb0, Int.tdiv_eq_ediv_of_nonneg ha, hw]
/-- A number, turned into another kind where it fits. -/
theorem s_conv {tt : List (TypeId × TD)} (ok : TOK P tt) {o : Oper} {S D : TypeId} {x : Operand} {k1 k2 : IntKind} {a : Int} {s1 b1 s2 b2 : Nat} {z1 z2 : List Value} (ho : o.op = .convert S D x) (hdst : o.dst = some q) (hd : Nat.blt q N = true) (hg : guardA ops o (lk l) = some true)
    (hS : lkT tt S = some ⟨.int k1, s1, b1, z1⟩) (hD : lkT tt D = some ⟨.int k2, s2, b2, z2⟩) (hx : ev (lk l) x = .lit (.int k1 a)) (hw : k2.wrap a = a)
    (n : AL P N ops Q rest (lk ((q, .lit (.int k2 a)) :: l)) L) : AL P N ops Q ((o, k) :: rest) (lk l) L := by
  obtain ⟨dst, op', ty, pos, after, g⟩ := o
  simp only at ho
  subst ho
  refine s_pure hdst hd hg ⟨fun σ F w ρ hR hρ => ⟨.int k2 a, ?_, .lit _⟩⟩ n
  have h1 := hρ x (by simp [Op.operands])
  rw [hx] at h1
  have e1 := (ok _ _ hS).int rfl
  have e2 := (ok _ _ hD).int rfl
  simp [execOp, h1.lit_inv, convert, run_underlying e1, run_underlying e2, Conv.intToInt, hw]
/-- The negative. -/
theorem s_neg {o : Oper} {T : TypeId} {x : Operand} {kk : IntKind} {a : Int} (ho : o.op = .unOp .neg T x) (hdst : o.dst = some q) (hd : Nat.blt q N = true) (hg : guardA ops o (lk l) = some true)
    (hx : ev (lk l) x = .lit (.int kk a)) (hw : kk.wrap (-a) = -a) (n : AL P N ops Q rest (lk ((q, .lit (.int kk (-a))) :: l)) L) : AL P N ops Q ((o, k) :: rest) (lk l) L := by
  obtain ⟨dst, op', ty, pos, after, g⟩ := o
  simp only at ho
  subst ho
  refine s_pure hdst hd hg ⟨fun σ F w ρ hR hρ => ⟨.int kk (-a), ?_, .lit _⟩⟩ n
  have h1 := hρ x (by simp [Op.operands])
  rw [hx] at h1
  simp [execOp, h1.lit_inv, Op.unary, Op.intArith, hw]
/-- Two strings. -/
theorem s_strEq {o : Oper} {T T' : TypeId} {x y : Operand} {a b : ByteArray} (ho : o.op = .binOp .eql T x y T') (hdst : o.dst = some q) (hd : Nat.blt q N = true) (hg : guardA ops o (lk l) = some true)
    (hx : ev (lk l) x = .lit (.string a)) (hy : ev (lk l) y = .lit (.string b))
    (n : AL P N ops Q rest (lk ((q, .lit (.bool (a == b))) :: l)) L) : AL P N ops Q ((o, k) :: rest) (lk l) L := by
  obtain ⟨dst, op', ty, pos, after, g⟩ := o
  simp only at ho
  subst ho
  refine s_pure hdst hd hg ⟨fun σ F w ρ hR hρ => ⟨.bool (a == b), ?_, .lit _⟩⟩ n
  have h1 := hρ x (by simp [Op.operands])
  have h2 := hρ y (by simp [Op.operands])
  rw [hx] at h1
  rw [hy] at h2
  simp [execOp, h1.lit_inv, h2.lit_inv, eqGuard, binOp, Op.stringOp, beq_toListBytes]

/-! ### Rows that never change -/

theorem q_index {tt : List (TypeId × TD)} (ok : TOK P tt) {dst : Option Tmp} {T : TypeId} {x y : Operand} {ty : TypeId} {pos : String} {after : Array Edge} {g : Option (Nat × Bool)} {st : St} {E : TypeId} {s1 b1 : Nat} {z1 : List Value} {d : TD}
    {es : List (List AV)} {e : List AV} {kk : IntKind} {i : Int} (hT : lkT tt T = some ⟨.slice E, s1, b1, z1⟩) (hE : lkT tt E = some d) (hx : ev st x = .im d.size es) (hy : ev st y = .lit (.int kk i)) (h0 : 0 ≤ i) (he : es[i.toNat]? = some e) :
    AQ P ⟨dst, .indexAddr T x y, ty, pos, after, g⟩ st L (.ip e) := by
  refine ⟨fun σ F w ρ hR hρ => ?_⟩
  have h1 := hρ x (by simp [Op.operands])
  have h2 := hρ y (by simp [Op.operands])
  rw [hx] at h1
  rw [hy] at h2
  have hu := (ok _ _ hT).slice rfl
  have hs := (ok _ _ hE).sizeOf_run
  have hlt : i.toNat < es.length := (List.getElem?_eq_some_iff.1 he).1
  generalize hv : ρ x = u at h1
  cases h1 with
  | imNil _ a cap => simp at he
  | im _ _ b off cap c E' fr f h1 h2' h3 h4 h5 h6 =>
    refine ⟨.pointer (some ⟨b, off + i.toNat * d.size, none⟩), ?_, .ip e b (off + i.toNat * d.size) c E' fr (f i.toNat) h1 (fun j y hy => by rw [Nat.add_assoc]; exact h5 _ _ j y he hy) (fun j y hy => h6 _ _ j y he hy)⟩
    have hadd : (⟨b, off, none⟩ : Addr).add (i.toNat * d.size) = ⟨b, off + i.toNat * d.size, none⟩ := by unfold Addr.add; split <;> simp_all
    have hin : 0 ≤ i ∧ i < (es.length : Int) := ⟨h0, by omega⟩
    simp [execOp, hv, h2.lit_inv, Instr.indexAt, asIntOf, run_underlying hu, hin.1, hin.2, hs, hadd]

theorem s_index {tt : List (TypeId × TD)} (ok : TOK P tt) {o : Oper} {T : TypeId} {x y : Operand} {E : TypeId} {s1 b1 : Nat} {z1 : List Value} {d : TD} {sz : Nat}
    {es : List (List AV)} {e : List AV} {kk : IntKind} {i : Int} (ho : o.op = .indexAddr T x y) (hdst : o.dst = some q) (hd : Nat.blt q N = true) (hg : guardA ops o (lk l) = some true)
    (hT : lkT tt T = some ⟨.slice E, s1, b1, z1⟩) (hE : lkT tt E = some d) (hx : ev (lk l) x = .im sz es) (hs : sz = d.size) (hy : ev (lk l) y = .lit (.int kk i)) (h0 : 0 ≤ i) (he : es[i.toNat]? = some e)
    (n : AL P N ops Q rest (lk ((q, .ip e) :: l)) L) : AL P N ops Q ((o, k) :: rest) (lk l) L := by
  obtain ⟨dst, op', ty, pos, after, g⟩ := o
  simp only at ho
  subst ho
  subst hs
  exact s_pure hdst hd hg (q_index ok hT hE hx hy h0 he) n

theorem VR.im_len {σ : Hp} {sz : Nat} {es : List (List AV)} {v : Value} (h : VR σ (.im sz es) v) : ∃ a cap, v = .slice a es.length cap ∧ es.length ≤ cap := by
  cases h with
  | imNil _ a cap => exact ⟨a, cap, rfl, Nat.zero_le _⟩
  | im _ _ b off cap c E fr f h1 h2 h3 h4 h5 h6 => exact ⟨_, cap, rfl, h3⟩

/-- A part of a row that never changes. -/
theorem VR.im_sub {σ : Hp} {sz : Nat} {es : List (List AV)} {a : Option Addr} {n cap : Nat} (h : VR σ (.im sz es) (.slice a n cap)) {lo hi : Nat} (h1 : lo ≤ hi) (h2 : hi ≤ es.length) (m : Nat) (hm : hi ≤ m) (hmc : m ≤ cap) :
    VR σ (.im sz ((es.take hi).drop lo)) (.slice (if m = lo then a else a.map (·.add (lo * sz))) (hi - lo) (m - lo)) := by
  by_cases he : lo = hi
  · subst he
    have : (es.take lo).drop lo = [] := by simp
    rw [this, Nat.sub_self]
    exact .imNil _ _ _
  · cases h with
    | imNil _ a cap => simp at h2; omega
    | im _ _ b off cap c E fr f g1 g2 g3 g4 g5 g6 =>
      have hml : m ≠ lo := by omega
      rw [if_neg hml]
      have hadd : (⟨b, off, none⟩ : Addr).add (lo * sz) = ⟨b, off + lo * sz, none⟩ := by unfold Addr.add; split <;> simp_all
      have hlen : hi - lo = ((es.take hi).drop lo).length := by simp; omega
      simp only [Option.map_some, hadd]
      rw [hlen]
      have hget : ∀ (i : Nat) (e : List AV), ((es.take hi).drop lo)[i]? = some e → es[lo + i]? = some e := by
        intro i e h
        rw [List.getElem?_drop, List.getElem?_take] at h
        split at h
        · exact h
        · cases h
      refine .im sz _ b (off + lo * sz) (m - lo) c E fr (fun i j => f (lo + i) j) g1 (by intro h; rw [h] at hlen; simp at hlen; omega) (by rw [← hlen]; omega) (fun i e h => g4 _ e (hget i e h)) (fun i e j x h hx => ?_) (fun i e j x h hx => g6 _ e j x (hget i e h) hx)
      have := g5 (lo + i) e j x (hget i e h) hx
      rw [Nat.add_mul] at this
      rw [← this]
      congr 1
      omega

/-- 's[lo:hi]', either bound given or not. -/
theorem s_slice {tt : List (TypeId × TD)} (ok : TOK P tt) {o : Oper} {T : TypeId} {x : Operand} {lo hi : Option Operand} {E : TypeId} {s1 b1 : Nat} {z1 : List Value} {d : TD} {sz : Nat} {es : List (List AV)} {a b : Nat}
    (ho : o.op = .slice T x lo hi none) (hdst : o.dst = some q) (hd : Nat.blt q N = true) (hg : guardA ops o (lk l) = some true)
    (hT : lkT tt T = some ⟨.slice E, s1, b1, z1⟩) (hE : lkT tt E = some d) (hx : ev (lk l) x = .im sz es) (hs : sz = d.size)
    (hlo : match lo with | none => a = 0 | some y => ∃ kk, ev (lk l) y = .lit (.int kk a)) (hhi : match hi with | none => b = es.length | some y => ∃ kk, ev (lk l) y = .lit (.int kk b)) (hab : a ≤ b) (hb : b ≤ es.length)
    (n : AL P N ops Q rest (lk ((q, .im sz ((es.take b).drop a)) :: l)) L) : AL P N ops Q ((o, k) :: rest) (lk l) L := by
  obtain ⟨dst, op', ty, pos, after, g⟩ := o
  simp only at ho
  subst ho
  subst hs
  refine s_pure hdst hd hg ⟨fun σ F w ρ hR hρ => ?_⟩ n
  have h1 := hρ x (by simp [Op.operands])
  rw [hx] at h1
  obtain ⟨ad, cap, hv, hc⟩ := VR.im_len h1
  rw [hv] at h1
  have hu := (ok _ _ hT).slice rfl
  have hsz := (ok _ _ hE).sizeOf_run
  refine ⟨_, ?_, h1.im_sub hab hb cap (by omega) (Nat.le_refl _)⟩
  have hbnd : (Instr.sliceBounds true es.length cap (lo.map ρ) (hi.map ρ) none).run P w = .ok (a, b, cap) w := by
    have e2 : ∀ y, hi = some y → ∃ kk, ρ y = .int kk b := fun y hy => by
      subst hy
      obtain ⟨kk, hk⟩ := hhi
      have := hρ y (by simp [Op.operands])
      rw [hk] at this
      exact ⟨kk, this.lit_inv⟩
    have e1 : ∀ y, lo = some y → ∃ kk, ρ y = .int kk a := fun y hy => by
      subst hy
      obtain ⟨kk, hk⟩ := hlo
      have := hρ y (by simp [Op.operands])
      rw [hk] at this
      exact ⟨kk, this.lit_inv⟩
    have i1 : b ≤ cap := by omega
    cases lo with
    | none =>
      cases hi with
      | none => simp only at hlo hhi; subst hlo; subst hhi; simp [Instr.sliceBounds]
      | some y =>
        obtain ⟨kk, hk⟩ := e2 y rfl
        simp only at hlo; subst hlo
        simp [Instr.sliceBounds, hk, Instr.sliceBound, asIntOf, Int.ofNat_le, i1]
    | some z =>
      obtain ⟨kz, hz⟩ := e1 z rfl
      cases hi with
      | none => simp only at hhi; subst hhi; simp [Instr.sliceBounds, hz, Instr.sliceBound, asIntOf, hab]
      | some y =>
        obtain ⟨kk, hk⟩ := e2 y rfl
        simp [Instr.sliceBounds, hk, hz, Instr.sliceBound, asIntOf, i1, hab]
  simp only [execOp, hv, Option.map_none, Instr.sliceAt, Sem.run_bind, run_underlying hu, Result.andThen_ok, Instr.slice, hbnd, hsz, Sem.run_pure]

end steps

end Go.Sj
