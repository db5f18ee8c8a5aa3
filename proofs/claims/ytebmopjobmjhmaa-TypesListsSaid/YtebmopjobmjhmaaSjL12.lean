/-
  Strings: bytes, parts, sums, comparisons.
-/
import Derived.Test.YtebmopjobmjhmaaSjL11
import Derived.Laws.Runes
namespace Go.Sj
set_option linter.unusedVariables false
set_option linter.unusedSimpArgs false

/-- The byte at a place of a string. -/
def byt (s : ByteArray) (i : Nat) : Int := ((s.data.toList.getD i 0).toNat : Nat)
theorem byt_rng (s : ByteArray) (i : Nat) : 0 ≤ byt s i ∧ byt s i ≤ 255 := by
  unfold byt
  have := (s.data.toList.getD i 0).toNat_lt
  omega
theorem byt_get {s : ByteArray} {i : Nat} (h : i < s.size) : ∃ b : UInt8, s[i]? = some b ∧ (b.toNat : Int) = byt s i := by
  refine ⟨s[i], by simp [h], ?_⟩
  unfold byt
  rw [List.getD_eq_getElem?_getD]
  have h' : i < s.data.size := h
  have : s.data.toList[i]? = some s[i] := by
    rw [Array.getElem?_toList, Array.getElem?_eq_getElem h']
    rfl
  rw [this]; rfl
theorem extract_list (s : ByteArray) (a b : Nat) : (s.extract a b).data.toList = (s.data.toList.take b).drop a := by
  simp [List.extract, List.take_drop]
  by_cases h : a ≤ b
  · rw [show a + (b - a) = b by omega]
  · rw [show a + (b - a) = a by omega, List.drop_of_length_le (by rw [List.length_take]; omega), List.drop_of_length_le (by rw [List.length_take]; omega)]
theorem size_list (s : ByteArray) : s.size = s.data.toList.length := by simp
theorem byt_extract {s : ByteArray} {a b i : Nat} (h : a + i < b) : byt (s.extract a b) i = byt s (a + i) := by
  unfold byt
  rw [extract_list]
  congr 2
  simp only [List.getD_eq_getElem?_getD, List.getElem?_drop, List.getElem?_take, if_pos h]
theorem size_extract {s : ByteArray} {a b : Nat} (h : a ≤ b) (h2 : b ≤ s.size) : (s.extract a b).size = b - a := by
  rw [size_list, extract_list, List.length_drop, List.length_take, ← size_list]
  omega

section
variable {P : Program} {N : Nat} {ops : List Oper} {Q : St → Own → Prop} {L : Own} {rest : List (Oper × Kd)} {l : List (Nat × AV)} {k : Kd} {q : Nat}

/-- A byte of a string. -/
theorem s_strIx {tt : List (TypeId × TD)} (ok : TOK P tt) {o : Oper} {T : TypeId} {x y : Operand} {s1 b1 : Nat} {z1 : List Value} {s : ByteArray} {kk : IntKind} {i : Int} (ho : o.op = .index T x y) (hdst : o.dst = some q) (hd : Nat.blt q N = true) (hg : guardA ops o (lk l) = some true)
    (hT : lkT tt T = some ⟨.str, s1, b1, z1⟩) (hx : ev (lk l) x = .lit (.string s)) (hy : ev (lk l) y = .lit (.int kk i)) (h0 : 0 ≤ i) (h1 : i < s.size)
    (n : AL P N ops Q rest (lk ((q, .lit (.int .u8 (byt s i.toNat))) :: l)) L) : AL P N ops Q ((o, k) :: rest) (lk l) L := by
  obtain ⟨dst, op', ty, pos, after, g⟩ := o
  simp only at ho
  subst ho
  refine s_pure hdst hd hg ⟨fun σ F w ρ hR hρ => ⟨.int .u8 (byt s i.toNat), ?_, .lit _⟩⟩ n
  have e1 := hρ x (by simp [Op.operands])
  have e2 := hρ y (by simp [Op.operands])
  rw [hx] at e1
  rw [hy] at e2
  have hu := (ok _ _ hT).str rfl
  obtain ⟨b, hb, hbb⟩ := byt_get (s := s) (i := i.toNat) (by omega)
  have hget : (if 0 ≤ i then s[i.toNat]? else none) = some b := by rw [if_pos h0]; exact hb
  simp only [execOp, e1.lit_inv, e2.lit_inv, Instr.index, asIntOf, Sem.run_bind, Sem.run_pure, Result.andThen_ok, run_underlying hu, hget, hbb]

/-- 's[lo:hi]' of a string. -/
theorem s_strSub {tt : List (TypeId × TD)} (ok : TOK P tt) {o : Oper} {T : TypeId} {x : Operand} {lo hi : Option Operand} {s1 b1 : Nat} {z1 : List Value} {s : ByteArray} (a b : Nat)
    (ho : o.op = .slice T x lo hi none) (hdst : o.dst = some q) (hd : Nat.blt q N = true) (hg : guardA ops o (lk l) = some true)
    (hT : lkT tt T = some ⟨.str, s1, b1, z1⟩) (hx : ev (lk l) x = .lit (.string s))
    (hlo : match lo with | none => a = 0 | some y => ∃ kk, ev (lk l) y = .lit (.int kk a)) (hhi : match hi with | none => b = s.size | some y => ∃ kk, ev (lk l) y = .lit (.int kk b)) (hab : a ≤ b) (hb : b ≤ s.size)
    (n : AL P N ops Q rest (lk ((q, .lit (.string (s.extract a b))) :: l)) L) : AL P N ops Q ((o, k) :: rest) (lk l) L := by
  obtain ⟨dst, op', ty, pos, after, g⟩ := o
  simp only at ho
  subst ho
  refine s_pure hdst hd hg ⟨fun σ F w ρ hR hρ => ⟨.string (s.extract a b), ?_, .lit _⟩⟩ n
  have h1 := hρ x (by simp [Op.operands])
  rw [hx] at h1
  have hu := (ok _ _ hT).str rfl
  have hbnd : (Instr.sliceBounds false s.size s.size (lo.map ρ) (hi.map ρ) none).run P w = .ok (a, b, s.size) w := by
    have e2 : ∀ y, hi = some y → ∃ kk, ρ y = .int kk b := fun y hy => by
      subst hy
      obtain ⟨kk, hk⟩ := hhi
      have := hρ y (by simp [Op.operands])
      rw [hk] at this
      exact ⟨kk, this.lit_inv⟩
    have e1 : ∀ y, lo = some y → ∃ kk, ρ y = .int kk a := fun y hy => by
      subst hy
      obtain ⟨kk, hk⟩ := hlo
      have := hρ y (by simp [Op.operands])
      rw [hk] at this
      exact ⟨kk, this.lit_inv⟩
    cases lo with
    | none =>
      cases hi with
      | none => simp only at hlo hhi; subst hlo; subst hhi; simp [Instr.sliceBounds]
      | some y =>
        obtain ⟨kk, hk⟩ := e2 y rfl
        simp only at hlo; subst hlo
        simp [Instr.sliceBounds, hk, Instr.sliceBound, asIntOf, Int.ofNat_le, hb]
    | some z =>
      obtain ⟨kz, hz⟩ := e1 z rfl
      cases hi with
      | none => simp only at hhi; subst hhi; simp [Instr.sliceBounds, hz, Instr.sliceBound, asIntOf, hab]
      | some y =>
        obtain ⟨kk, hk⟩ := e2 y rfl
        simp [Instr.sliceBounds, hk, hz, Instr.sliceBound, asIntOf, hb, hab]
  simp only [execOp, h1.lit_inv, Option.map_none, Instr.sliceAt, Sem.run_bind, run_underlying hu, Result.andThen_ok, Instr.slice, hbnd, Sem.run_pure, Option.isSome_none, Bool.false_eq_true, if_false]

/-- The sum of two strings. -/
theorem s_strCat {o : Oper} {T T' : TypeId} {x y : Operand} {a b : ByteArray} (ho : o.op = .binOp .add T x y T') (hdst : o.dst = some q) (hd : Nat.blt q N = true) (hg : guardA ops o (lk l) = some true)
    (hx : ev (lk l) x = .lit (.string a)) (hy : ev (lk l) y = .lit (.string b)) (hs : a.size + b.size ≤ 1099511627776)
    (n : AL P N ops Q rest (lk ((q, .lit (.string (a ++ b))) :: l)) L) : AL P N ops Q ((o, k) :: rest) (lk l) L := by
  obtain ⟨dst, op', ty, pos, after, g⟩ := o
  simp only at ho
  subst ho
  refine s_pure hdst hd hg ⟨fun σ F w ρ hR hρ => ⟨.string (a ++ b), ?_, .lit _⟩⟩ n
  have h1 := hρ x (by simp [Op.operands])
  have h2 := hρ y (by simp [Op.operands])
  rw [hx] at h1
  rw [hy] at h2
  have hno : ¬ (((a.size + b.size : Nat) : Int) > IntKind.i64.max) := by
    rw [show IntKind.i64.max = 9223372036854775807 by decide]; omega
  simp [execOp, h1.lit_inv, h2.lit_inv, eqGuard, binOp, Op.stringOp, hno]
  omega
theorem s_strNe {o : Oper} {T T' : TypeId} {x y : Operand} {a b : ByteArray} (ho : o.op = .binOp .neq T x y T') (hdst : o.dst = some q) (hd : Nat.blt q N = true) (hg : guardA ops o (lk l) = some true)
    (hx : ev (lk l) x = .lit (.string a)) (hy : ev (lk l) y = .lit (.string b))
    (n : AL P N ops Q rest (lk ((q, .lit (.bool (!(a == b)))) :: l)) L) : AL P N ops Q ((o, k) :: rest) (lk l) L := by
  obtain ⟨dst, op', ty, pos, after, g⟩ := o
  simp only at ho
  subst ho
  refine s_pure hdst hd hg ⟨fun σ F w ρ hR hρ => ⟨.bool (!(a == b)), ?_, .lit _⟩⟩ n
  have h1 := hρ x (by simp [Op.operands])
  have h2 := hρ y (by simp [Op.operands])
  rw [hx] at h1
  rw [hy] at h2
  simp [execOp, h1.lit_inv, h2.lit_inv, eqGuard, binOp, Op.stringOp, beq_toListBytes]
/-- 'internal/bytealg.IndexByteString'. -/
theorem s_indexByte {o : Oper} {x a b : Operand} {tys : Array TypeId} {f : FuncId} {fn : Func} {s : ByteArray} {c : Int} (ho : o.op = .call ⟨.value x, #[a, b], tys⟩) (hdst : o.dst = some q) (hd : Nat.blt q N = true) (hg : guardA ops o (lk l) = some true)
    (hx : ev (lk l) x = .fn (.func f) [] []) (hf : P.funcs[f]? = some fn) (hn : (fn.name == "runtime.NumGoroutine") = false) (hb : fn.body.isNone = true) (hnx : Extern.findNext fn = none) (he : Extern.find fn = some Extern.BytealgIndexByte.indexByte)
    (ha : ev (lk l) a = .lit (.string s)) (hbb : ev (lk l) b = .lit (.int .u8 c))
    (n : AL P N ops Q rest (lk ((q, .lit (.int .i64 (firstIdx s c.toNat.toUInt8))) :: l)) L) : AL P N ops Q ((o, k) :: rest) (lk l) L := by
  obtain ⟨dst, op', ty, pos, after, g⟩ := o
  simp only at ho
  subst ho
  refine s_pure hdst hd hg ⟨fun σ F w ρ hR hρ => ⟨.int .i64 (firstIdx s c.toNat.toUInt8), ?_, .lit _⟩⟩ n
  have h0 := hρ x (by simp [Op.operands, Call.operands])
  have h1 := hρ a (by simp [Op.operands, Call.operands])
  have h2 := hρ b (by simp [Op.operands, Call.operands])
  rw [hx] at h0
  rw [ha] at h1
  rw [hbb] at h2
  obtain ⟨vs, us, hv, hvs, hus⟩ := h0.fn_inv
  obtain rfl : vs = [] := List.length_eq_zero_iff.1 hvs.1
  obtain rfl : us = [] := List.length_eq_zero_iff.1 hus.1
  simp only [execOp, resolve, hv, Deferred.ofValue, Sem.run_bind, Sem.run_pure, Result.andThen_ok, invoke, List.map_toArray, List.map_cons, List.map_nil, h1.lit_inv, h2.lit_inv]
  simp only [Array.empty_append, Array.append_empty, run_callFunc_extern hf hn hb hnx he, run_indexByte_string, Result.andThen_ok]
end
end Go.Sj
