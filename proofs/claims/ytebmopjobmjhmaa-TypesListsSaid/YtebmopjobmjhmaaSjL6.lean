/-
  Structs of numbers that hold structs of numbers compare as lists.
-/
import Derived.Test.YtebmopjobmjhmaaSjL5
namespace Go.Sj
set_option linter.unusedVariables false
set_option linter.unusedSimpArgs false

abbrev arV (xs : List Int) : Array Value := (xs.map (Value.int .i64)).toArray

theorem sd_one {P : Program} {w : World} (d : Nat) {xs ys : List Int} {i : Nat} {f : Field} {fs : List Field} (hn : f.name ≠ "_") (ho : f.offset = i) (hu : P.underlying f.type = some (.int .i64)) (hx : i < xs.length) (hy : i < ys.length) :
    (Op.eqFields (d + 1) (arV xs) (arV ys) (f :: fs)).run P w = if xs[i]? = ys[i]? then (Op.eqFields (d + 1) (arV xs) (arV ys) fs).run P w else .ok false w := by
  subst ho
  have h1 : (isAgg f.type).run P w = .ok false w := by simp [isAgg, run_underlying hu]
  have p1 : ∀ (zs : List Int) (h : f.offset < zs.length), (part f.type (arV zs) f.offset).run P w = .ok (.int .i64 zs[f.offset]) w := by
    intro zs h
    simp [part, h1, h]
  simp only [Op.eqFields, if_pos hn, Sem.run_bind, p1 xs hx, p1 ys hy, Result.andThen_ok, run_equalIn_int w d f.type .i64 .i64 _ _ hu, Sem.run_ite, Sem.run_pure, List.getElem?_eq_getElem hx, List.getElem?_eq_getElem hy, Option.some.injEq]
  by_cases h : xs[f.offset] = ys[f.offset]
  · simp [h]
  · simp [h]
theorem sd_fields {P : Program} {w : World} (d : Nat) {xs ys : List Int} : ∀ (fs : List Field) (i : Nat), numF P i fs = true → xs.length = i + fs.length → ys.length = i + fs.length →
    (Op.eqFields (d + 1) (arV xs) (arV ys) fs).run P w = .ok (decide (xs.drop i = ys.drop i)) w
  | [], i, h, hx, hy => by
    simp at hx hy
    rw [List.drop_of_length_le (by omega), List.drop_of_length_le (by omega)]
    simp [Op.eqFields]
  | f :: fs, i, h, hx, hy => by
    simp only [numF, Bool.and_eq_true, bne_iff_ne, ne_eq, beq_iff_eq] at h
    obtain ⟨⟨⟨h1, h2⟩, h3⟩, h4⟩ := h
    have hu : P.underlying f.type = some (.int .i64) := by
      split at h3
      · assumption
      · cases h3
    simp only [List.length_cons] at hx hy
    have ih := sd_fields (P := P) (w := w) d (xs := xs) (ys := ys) fs (i + 1) h4 (by omega) (by omega)
    have hxi : i < xs.length := by omega
    have hyi : i < ys.length := by omega
    rw [sd_one d h1 h2 hu hxi hyi, ih, List.getElem?_eq_getElem hxi, List.getElem?_eq_getElem hyi, List.drop_eq_getElem_cons hxi, List.drop_eq_getElem_cons hyi]
    by_cases e : xs[i] = ys[i]
    · rw [if_pos (by rw [e])]
      congr 1
      simp only [e, List.cons.injEq, true_and]
    · rw [if_neg (by simpa using e)]
      congr 1
      simp only [e, List.cons.injEq, false_and, decide_false]

/-- A field that is a struct of numbers. -/
theorem sd_nest {P : Program} {w : World} (d : Nat) {xs ys : List Int} {i m : Nat} {f : Field} {fs : List Field} {gs : Array Field} {td : TD} (hn : f.name ≠ "_") (ho : f.offset = i) (hu : P.underlying f.type = some (.struct gs)) (hp : P.stoodInHeld f.type = false) (hg : numF P 0 gs.toList = true) (hm : gs.size = m)
    (hi : TI P f.type td) (hsz : td.size = m) (hx : i + m ≤ xs.length) (hy : i + m ≤ ys.length) :
    (Op.eqFields (d + 2) (arV xs) (arV ys) (f :: fs)).run P w = if (xs.drop i).take m = (ys.drop i).take m then (Op.eqFields (d + 2) (arV xs) (arV ys) fs).run P w else .ok false w := by
  subst ho
  have h1 : (isAgg f.type).run P w = .ok true w := by simp [isAgg, run_underlying hu]
  have hs : (sizeOf f.type).run P w = .ok m w := by rw [← hsz]; exact hi.sizeOf_run w
  have p1 : ∀ (zs : List Int) (h : f.offset + m ≤ zs.length), (part f.type (arV zs) f.offset).run P w = .ok (.agg (arV ((zs.drop f.offset).take m))) w := by
    intro zs h
    have e : (arV zs).extract f.offset (f.offset + m) = arV ((zs.drop f.offset).take m) := by
      simp [arV, List.map_drop, List.map_take]
    simp [part, h1, hs, h, e]
  have hfo : P.fieldsOf f.type = gs := by simp [Program.fieldsOf, hu]
  have hq : (Op.equalIn (d + 2) f.type (.agg (arV ((xs.drop f.offset).take m))) (.agg (arV ((ys.drop f.offset).take m)))).run P w = .ok (decide ((xs.drop f.offset).take m = (ys.drop f.offset).take m)) w := by
    rw [run_equalIn_struct w (d + 1) f.type _ _ (by rw [hfo]; exact hu) hp, hfo]
    have := sd_fields (P := P) (w := w) d (xs := (xs.drop f.offset).take m) (ys := (ys.drop f.offset).take m) gs.toList 0 hg (by simp [hm]; omega) (by simp [hm]; omega)
    simpa using this
  simp only [Op.eqFields, if_pos hn, Sem.run_bind, p1 xs hx, p1 ys hy, Result.andThen_ok, hq, Sem.run_ite, Sem.run_pure]
  by_cases h : (xs.drop f.offset).take m = (ys.drop f.offset).take m
  · simp [h]
  · simp [h]

/-- A struct of a number and two structs of two numbers. -/
theorem se_of122 {P : Program} {T : TypeId} {f0 f1 f2 : Field} {g1 g2 : Array Field} {d1 d2 : TD} (ht : P.underlying T = some (.struct #[f0, f1, f2])) (hp : P.stoodInHeld T = false) (hg : P.eqGuardType P.depth T = false)
    (n0 : f0.name ≠ "_") (o0 : f0.offset = 0) (u0 : P.underlying f0.type = some (.int .i64))
    (n1 : f1.name ≠ "_") (o1 : f1.offset = 1) (u1 : P.underlying f1.type = some (.struct g1)) (p1 : P.stoodInHeld f1.type = false) (m1 : numF P 0 g1.toList = true) (s1 : g1.size = 2) (i1 : TI P f1.type d1) (z1 : d1.size = 2)
    (n2 : f2.name ≠ "_") (o2 : f2.offset = 3) (u2 : P.underlying f2.type = some (.struct g2)) (p2 : P.stoodInHeld f2.type = false) (m2 : numF P 0 g2.toList = true) (s2 : g2.size = 2) (i2 : TI P f2.type d2) (z2 : d2.size = 2) : SE P T 5 :=
  ⟨fun xs ys hx hy w => by
    have hfo : P.fieldsOf T = #[f0, f1, f2] := by simp [Program.fieldsOf, ht]
    simp only [Op.equal, Op.maxDepth, vI]
    rw [run_equalIn_struct w 9999 T _ _ (by rw [hfo]; exact ht) hp, hfo]
    have e := sd_one (P := P) (w := w) 9998 (xs := xs) (ys := ys) (fs := [f1, f2]) n0 o0 u0 (by omega) (by omega)
    rw [sd_nest (P := P) (w := w) 9997 (xs := xs) (ys := ys) (fs := [f2]) n1 o1 u1 p1 m1 s1 i1 z1 (by omega) (by omega),
      sd_nest (P := P) (w := w) 9997 (xs := xs) (ys := ys) (fs := []) n2 o2 u2 p2 m2 s2 i2 z2 (by omega) (by omega)] at e
    refine e.trans ?_
    match xs, hx, ys, hy with
    | [a, b, c, d, f], _, [a', b', c', d', f'], _ =>
      simp [Op.eqFields]
      by_cases h1 : a = a' <;> by_cases h2 : b = b' <;> by_cases h3 : c = c' <;> by_cases h4 : d = d' <;> by_cases h5 : f = f' <;> simp [h1, h2, h3, h4, h5], hg⟩
end Go.Sj
