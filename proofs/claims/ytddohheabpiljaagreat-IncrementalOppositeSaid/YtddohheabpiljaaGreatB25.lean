/-
  Parts of the proof of the law IncrementalOpposite (texts L25, M4, M7, M8, N2, L27): steps, plain mathematics, contracts of functions. Each theorem states its own conditions.
-/
import Derived.Test.YtddohheabpiljaaGreatB03
import Derived.Test.YtddohheabpiljaaGreatB05
import Derived.Test.YtddohheabpiljaaGreatB09
section
/-
  New rows said in our own words; what is owned, in another order.
-/
namespace Go.Sj
set_option maxRecDepth 8000
set_option linter.unusedVariables false
section
variable {P : Program} {N : Nat} {ops : List Oper} {Q : St → Own → Prop} {L : Own} {rest : List (Oper × Kd)} {l : List (Nat × AV)} {q : Nat}
/-- 'make([]E, n, c)', its elements said in our own words. -/
theorem s_makeQ {tt : List (TypeId × TD)} (ok : TOK P tt) {o : Oper} {T : TypeId} {x y : Operand} {E s1 b1 : Nat} {z1 : List Value} {d : TD} {k1 k2 : IntKind} {n c : Int} {es : List (List AV)}
    (ho : o.op = .makeSlice T x y) (hdst : o.dst = some q) (hd : Nat.blt q N = true) (hg : guardA ops o (lk l) = some true) (hT : lkT tt T = some ⟨.slice E, s1, b1, z1⟩) (hE : lkT tt E = some d)
    (hx : ev (lk l) x = .lit (.int k1 n)) (hy : ev (lk l) y = .lit (.int k2 c)) (hr : List.replicate n.toNat (d.zero.map .lit) = es) (h0 : 0 ≤ n) (hnc : n ≤ c) (hb : (d.bytes : Int) * c ≤ 140737488355328) (h63 : c ≤ 140737488355328)
    (nx : ∀ a m j, AL P N ops Q rest (lk ((q, .lit (.slice a m j)) :: l)) ((.slice a m j, .row E d.size es) :: L)) : AL P N ops Q ((o, .eff) :: rest) (lk l) L := by
  subst hr
  obtain ⟨dst, op', ty, pos, after, g⟩ := o
  simp only at ho
  subst ho
  refine s_eff (fun x M => ∃ a m j, x = .lit (.slice a m j) ∧ M = (.slice a m j, .row E d.size (List.replicate n.toNat (d.zero.map .lit))) :: L) hdst hd hg ⟨fun σ F w ρ hR hρ => ?_⟩ (fun x M ⟨a, m, j, e1, e2⟩ => by rw [e1, e2]; exact nx a m j)
  have e1 := hρ x (by simp [Op.operands])
  have e2 := hρ y (by simp [Op.operands])
  rw [hx] at e1
  rw [hy] at e2
  obtain ⟨i, z, hi, his, hib, hz, hzz⟩ := (ok _ _ hE).get
  have hu := (ok _ _ hT).slice rfl
  have hr := run_make (P := P) w T E i z hu hi hz k1 k2 n c h0 hnc (by rw [hib]; omega) (by omega)
  have hrun : (execOp ρ ⟨dst, .makeSlice T x y, ty, pos, after, g⟩).run P w = .ok (.value (.slice (some ⟨w.heap.size, 0, none⟩) n.toNat c.toNat)) (w.alloc (.cells (madeCells z.cells (c.toNat * i.size)) E)) := by
    simp only [execOp, e1.lit_inv, e2.lit_inv, Sem.run_bind, hr, Result.andThen_ok, Sem.run_pure]
  rw [hrun, his]
  have hown := own_new (σ := σ) (w := w) (E := E) (sz := d.size) (n := n.toNat) (c := c.toNat) (cur := madeCells z.cells (c.toNat * d.size)) (es := List.replicate n.toNat (d.zero.map .lit)) (by simp) (by omega) (by simp only [maxLen]; omega) (size_madeCells _ _)
    (fun e he => by rw [(List.mem_replicate.1 he).2]; simpa using (ok _ _ hE).zlen) (made_rep hzz (ok _ _ hE).zlen (by omega))
  exact ⟨σ, _, _, σ.le_refl, hR.newRow hown, .lit _, _, _, _, rfl, rfl⟩
end
theorem perm3 {A : Type} (a b c : A) : List.Perm [a, b, c] [b, a, c] ∧ List.Perm [a, b, c] [a, c, b] ∧ List.Perm [a, b, c] [c, b, a] ∧ List.Perm [a, b, c] [b, c, a] ∧ List.Perm [a, b, c] [c, a, b] ∧ List.Perm [a, b, c] [a, b, c] := by
  refine ⟨.swap _ _ _, .cons _ (.swap _ _ _), ?_, ?_, ?_, .refl _⟩
  · exact (List.Perm.cons _ (.swap _ _ _)).trans ((List.Perm.swap _ _ _).trans (.cons _ (.swap _ _ _)))
  · exact (List.Perm.swap _ _ _).trans (.cons _ (.swap _ _ _))
  · exact (List.Perm.cons _ (.swap _ _ _)).trans (.swap _ _ _)
end Go.Sj

end
section
/-
  What pairs generate; all partitions; quotients: plain mathematics, no program.
-/
namespace Go.Sj
end Go.Sj
namespace Go.Sj.Part
set_option maxRecDepth 8000
set_option linter.unusedVariables false
set_option linter.unusedSimpArgs false

/-! ### All partitions -/
/-- One row and what may follow it at element i. -/
def nextRow (i : Nat) (row : List Nat) (v : Nat) : Bool := v == i || row.getD v 0 == v
def nextTo (i : Nat) (row : List Nat) (k : Nat) : List (List Nat) := ((List.range k).filter (nextRow i row)).map fun v => row ++ [v]
def nextAll (i : Nat) (rows : List (List Nat)) : List (List Nat) := rows.flatMap fun row => nextTo i row (i + 1)
def allTo : Nat → List (List Nat)
  | 0 => [[]]
  | i + 1 => nextAll i (allTo i)
def allR (n : Int) : List (List Nat) × Int := if 7 < n then ([], 3) else if n < 0 then ([], 6) else (allTo n.toNat, 0)

end Go.Sj.Part

end
section
/-
  Difference constraints: walks, potentials, the in-place relaxation: plain mathematics, no program.
-/
namespace Go.Sj.Dif
set_option maxRecDepth 8000
set_option linter.unusedVariables false
set_option linter.unusedSimpArgs false
set_option linter.unusedSectionVars false

/-- An arc: the test and the sign of its use, its places, its number. -/
structure Ar where
  u : Int
  s : Int
  f : Nat
  t : Nat
  c : Int
  deriving DecidableEq

def Inr (N : Nat) (l : List Ar) : Prop := ∀ a ∈ l, a.f < N ∧ a.t < N

section
variable {N : Nat} {l : List Ar} (hl : Inr N l)
include hl
end

end Go.Sj.Dif

end
section
/-
  Difference constraints: tests, their arcs, their errors; tables of least sums: plain mathematics, no program.
-/
namespace Go.Sj
end Go.Sj
namespace Go.Sj.Dif
set_option maxRecDepth 8000
set_option linter.unusedVariables false
set_option linter.unusedSimpArgs false
set_option linter.unusedSectionVars false

structure Tst where
  k : Int
  lv : Int
  la : Int
  rv : Int
  ra : Int
def cT (x : Tst) : List AV := [AI x.k, AI x.lv, AI x.la, AI x.rv, AI x.ra]
def cA (a : Ar) : List AV := [AI a.u, AI a.s, AI a.f, AI a.t, AI a.c]
/-- What is known of an arc of right tests. -/
def AOk (n : Nat) (a : Ar) : Prop := a.f < n + 1 ∧ a.t < n + 1 ∧ -2000000 ≤ a.c ∧ a.c ≤ 2000000
section
variable {n : Nat} {l : List Ar} (hl : ∀ a ∈ l, AOk n a)
include hl
end
section
variable {n : Nat} {l : List Ar} (hl : ∀ a ∈ l, AOk n a)
include hl
end
section
variable {n : Nat} {l : List Ar} (hl : ∀ a ∈ l, AOk n a) (hn : n ≤ 100)
include hl hn
end
end Go.Sj.Dif

end
section
/-
  Square tables that the call owns: rows of rows.
-/
namespace Go.Sj
set_option maxRecDepth 8000
set_option linter.unusedVariables false

theorem Turn.perm {x : AV} {L M : Own} (h : L.Perm M) : Turn x L x M := fun τ F w u a b => ⟨τ, τ.le_refl, a.perm h, b⟩
namespace Dif
def cRow (xs : List Int) : List AV := [ints xs]
end Dif
end Go.Sj

end
section
/-
  Square tables of rows that the call owns: rows of rows of rows. No condition; nothing here names a program.
-/
namespace Go.Sj
set_option maxRecDepth 8000
set_option linter.unusedVariables false
set_option linter.unusedSimpArgs false

/-! What lies within what never changes. -/
theorem FZL.len {v : Value} {sz : Nat} {es : List (List AV)} : ∀ {l m : List AV}, FZL v sz es l m → l.length = m.length
  | [], [], _ => rfl
  | x :: l, y :: m, h => by rw [List.length_cons, List.length_cons, FZL.len h.2]
  | [], _ :: _, h => h.elim
  | _ :: _, [], h => h.elim
theorem FZL.at {v : Value} {sz : Nat} {es : List (List AV)} : ∀ {l m : List AV}, FZL v sz es l m → ∀ {j : Nat} {y : AV}, m[j]? = some y → ∃ x, l[j]? = some x ∧ FZ v sz es x y
  | [], [], _, j, y, hy => by simp at hy
  | x :: l, z :: m, h, 0, y, hy => by simp at hy; subst hy; exact ⟨x, rfl, h.1⟩
  | x :: l, z :: m, h, j + 1, y, hy => by
    obtain ⟨x', h1, h2⟩ := FZL.at h.2 (j := j) (by simpa using hy)
    exact ⟨x', by simpa using h1, h2⟩
  | [], _ :: _, h, _, _, _ => h.elim
  | _ :: _, [], h, _, _, _ => h.elim
/-! Rows of one cell each. -/
section
variable {P : Program} {N : Nat} {ops : List Oper} {Q : St → Own → Prop} {L : Own} {rest : List (Oper × Kd)} {l : List (Nat × AV)} {k : Kd} {q : Nat}
end

/-! The table. -/
section
variable (E2 E3 : Nat) (n : Nat)
def up1 {A : Type} (f : Nat → A) (j : Nat) (x : A) : Nat → A := fun b => if b = j then x else f b
variable {E2 E3 n}
theorem range_set {A : Type} (f : Nat → A) (i : Nat) (x : A) : ((List.range n).map f).set i x = (List.range n).map (up1 f i x) := by
  refine List.ext_getElem? fun k => ?_
  rw [List.getElem?_set, List.getElem?_map, List.getElem?_map]
  rcases Nat.lt_or_ge k n with h | h
  · rw [List.getElem?_range h]
    unfold up1
    by_cases e : i = k
    · subst e; simp [h]
    · simp [e, Ne.symm e]
  · rw [List.getElem?_eq_none (by simpa using h)]
    by_cases e : i = k
    · subst e; simp; omega
    · simp [e]
end
end Go.Sj

end
