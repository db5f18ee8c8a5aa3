/-
  Steps that part in two: calls that give a truth value, comparisons of strings.
-/
import Derived.Test.YtebmopjobmjhmaaSjL12
namespace Go.Sj
set_option linter.unusedVariables false
set_option linter.unusedSimpArgs false
theorem ABt {p : Prop} [Decidable p] (h : p) : AB true = AB (decide p) := by rw [decide_eq_true h]
theorem ABf {p : Prop} [Decidable p] (h : ¬ p) : AB false = AB (decide p) := by rw [decide_eq_false h]
theorem byt_beq (a b : ByteArray) : (a == b) = decide (a = b) := by
  by_cases h : a = b
  · subst h
    rw [decide_eq_true rfl]
    cases a with | mk d =>
    show (d == d) = true
    simp
  · rw [decide_eq_false h]
    cases a with | mk d => cases b with | mk e =>
    show (d == e) = false
    simp
    intro hh
    apply h
    rw [hh]
instance : LawfulBEq ByteArray where
  rfl := by intro a; rw [byt_beq]; exact decide_eq_true rfl
  eq_of_beq := by intro a b h; rw [byt_beq] at h; exact of_decide_eq_true h
section
variable {P : Program} {N : Nat} {ops : List Oper} {Q : St → Own → Prop} {L : Own} {rest : List (Oper × Kd)} {l : List (Nat × AV)} {k : Kd} {q : Nat}

/-- A call that gives a truth value. -/
theorem s_callB {o : Oper} {x : Operand} {args : List Operand} {tys : Array TypeId} {f : FuncId} {first caps as : List AV} {b : Bool} (ho : o.op = .call ⟨.value x, args.toArray, tys⟩) (hdst : o.dst = some q) (hd : Nat.blt q N = true) (hg : guardA ops o (lk l) = some true)
    (hx : ev (lk l) x = .fn (.func f) first caps) (hc : Pure P f as (AB b)) (has : SubL (first ++ args.map (ev (lk l)) ++ caps) as)
    (n : b = true → AL P N ops Q rest (lk ((q, AB true) :: l)) L) (m : b = false → AL P N ops Q rest (lk ((q, AB false) :: l)) L) : AL P N ops Q ((o, .eff) :: rest) (lk l) L := by
  refine s_callP ho hdst hd hg hx hc has ?_
  cases b with
  | true => exact n rfl
  | false => exact m rfl
/-- Two strings, both ways. -/
theorem s_strEqB {o : Oper} {T T' : TypeId} {x y : Operand} {a b : ByteArray} (ho : o.op = .binOp .eql T x y T') (hdst : o.dst = some q) (hd : Nat.blt q N = true) (hg : guardA ops o (lk l) = some true)
    (hx : ev (lk l) x = .lit (.string a)) (hy : ev (lk l) y = .lit (.string b))
    (n : a = b → AL P N ops Q rest (lk ((q, AB true) :: l)) L) (m : a ≠ b → AL P N ops Q rest (lk ((q, AB false) :: l)) L) : AL P N ops Q ((o, k) :: rest) (lk l) L := by
  refine s_strEq ho hdst hd hg hx hy ?_
  by_cases h : a = b
  · rw [byt_beq, decide_eq_true h]
    exact n h
  · rw [byt_beq, decide_eq_false h]
    exact m h
theorem s_strNeB {o : Oper} {T T' : TypeId} {x y : Operand} {a b : ByteArray} (ho : o.op = .binOp .neq T x y T') (hdst : o.dst = some q) (hd : Nat.blt q N = true) (hg : guardA ops o (lk l) = some true)
    (hx : ev (lk l) x = .lit (.string a)) (hy : ev (lk l) y = .lit (.string b))
    (n : a = b → AL P N ops Q rest (lk ((q, AB false) :: l)) L) (m : a ≠ b → AL P N ops Q rest (lk ((q, AB true) :: l)) L) : AL P N ops Q ((o, k) :: rest) (lk l) L := by
  refine s_strNe ho hdst hd hg hx hy ?_
  by_cases h : a = b
  · rw [byt_beq, decide_eq_true h]
    exact n h
  · rw [byt_beq, decide_eq_false h]
    exact m h
theorem s_strEqT {o : Oper} {T T' : TypeId} {x y : Operand} {a b : ByteArray} (ho : o.op = .binOp .eql T x y T') (hdst : o.dst = some q) (hd : Nat.blt q N = true) (hg : guardA ops o (lk l) = some true)
    (hx : ev (lk l) x = .lit (.string a)) (hy : ev (lk l) y = .lit (.string b)) (h : a = b)
    (n : AL P N ops Q rest (lk ((q, AB true) :: l)) L) : AL P N ops Q ((o, k) :: rest) (lk l) L :=
  s_strEqB ho hdst hd hg hx hy (fun _ => n) (fun h' => absurd h h')
theorem s_strEqF {o : Oper} {T T' : TypeId} {x y : Operand} {a b : ByteArray} (ho : o.op = .binOp .eql T x y T') (hdst : o.dst = some q) (hd : Nat.blt q N = true) (hg : guardA ops o (lk l) = some true)
    (hx : ev (lk l) x = .lit (.string a)) (hy : ev (lk l) y = .lit (.string b)) (h : a ≠ b)
    (n : AL P N ops Q rest (lk ((q, AB false) :: l)) L) : AL P N ops Q ((o, k) :: rest) (lk l) L :=
  s_strEqB ho hdst hd hg hx hy (fun h' => absurd h' h) (fun _ => n)
theorem s_strNeF {o : Oper} {T T' : TypeId} {x y : Operand} {a b : ByteArray} (ho : o.op = .binOp .neq T x y T') (hdst : o.dst = some q) (hd : Nat.blt q N = true) (hg : guardA ops o (lk l) = some true)
    (hx : ev (lk l) x = .lit (.string a)) (hy : ev (lk l) y = .lit (.string b)) (h : a = b)
    (n : AL P N ops Q rest (lk ((q, AB false) :: l)) L) : AL P N ops Q ((o, k) :: rest) (lk l) L :=
  s_strNeB ho hdst hd hg hx hy (fun _ => n) (fun h' => absurd h h')
end
end Go.Sj
