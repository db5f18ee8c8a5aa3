/-
  Several results, some of them in cells.
-/
import Derived.Test.YtebmopjobmjhmaaSjL13
namespace Go.Sj
set_option linter.unusedVariables false
set_option linter.unusedSimpArgs false

def resM (tt : List (TypeId × TD)) (st : St) : List ResultVar → Option (List AV)
  | [] => some []
  | .tmp t :: l => match resM tt st l with
    | some xs => some (st t :: xs)
    | none => none
  | .cell a T :: l => match st a, lkT tt T, resM tt st l with
    | .ip cells, some d, some xs => match partA d cells 0 with
      | some x => some (x :: xs)
      | none => none
    | _, _, _ => none
theorem resM_run {P : Program} {tt : List (TypeId × TD)} (ok : TOK P tt) {σ : Hp} {L : Own} {F : Fr} {w : World} (hr : HRel σ L F w) {N : Nat} {st : St} {a : Act} (ht : TR σ N st a) : ∀ (l : List ResultVar) (xs : List AV), resM tt st l = some xs →
    ∃ vs : List Value, (l.mapM (resOne a.tmps)).run P w = .ok vs w ∧ VRs σ xs vs ∧ xs.length = l.length
  | [], xs, h => by
    simp [resM] at h
    subst h
    exact ⟨[], rfl, .nil, rfl⟩
  | .tmp t :: l, xs, h => by
    simp only [resM] at h
    cases hl : resM tt st l with
    | none => rw [hl] at h; cases h
    | some ys =>
      rw [hl] at h
      cases h
      obtain ⟨vs, hv, hr', he⟩ := resM_run ok hr ht l ys hl
      refine ⟨a.tmps.getD t undef :: vs, ?_, .cons (ht.vals t) hr', by simp [he]⟩
      simp only [List.mapM_cons, Sem.run_bind, resOne, Sem.run_pure, Result.andThen_ok, hv]
  | .cell c T :: l, xs, h => by
    simp only [resM] at h
    split at h
    · rename_i cells d ys hc hT hl
      split at h
      · rename_i x hx
        cases h
        have hca := ht.vals c
        rw [hc] at hca
        obtain ⟨u, hu, hxu⟩ := cell_run (ok _ _ hT) hr hca hx
        obtain ⟨vs, hv, hr', he⟩ := resM_run ok hr ht l ys hl
        refine ⟨u :: vs, ?_, .cons hxu hr', by simp [he]⟩
        simp only [Sem.run_bind] at hu
        simp only [List.mapM_cons, Sem.run_bind, resOne, hu, Sem.run_pure, Result.andThen_ok, hv]
      · cases h
    · cases h
/-- What is asked at the end of a body with several results. -/
def FinM (tt : List (TypeId × TD)) (rs : List ResultVar) (R : AV → Own → Prop) (e : Exit) (st : St) (L : Own) : Prop :=
  (e = .normal ∨ e = .ret) ∧ ∃ xs y M, resM tt st rs = some xs ∧ Turn (.tup xs) L y M ∧ R y M
theorem a_enterM {P : Program} {tt : List (TypeId × TD)} (ok : TOK P tt) {f : FuncId} {fn : Func} {c : Code} {N : Nat} {rs : List ResultVar} {args : List AV} {L : Own} {R : AV → Own → Prop}
    (hf : P.funcs[f]? = some fn) (hname : (fn.name == "runtime.NumGoroutine") = false) (hb : fn.body = some c) (hn : fn.ntmps = N) (hr : fn.results = rs.toArray) (h2 : rs.length ≠ 1) (ha : args.length ≤ N)
    (h : AWp P N c (FinM tt rs R) (lk (enum 0 args)) L) : ACalls P f args L R :=
  ⟨⟨fn, hf, hname, by rw [hb]; rfl⟩, fun σ F w vs hL hvs => by
    refine calls_of_wp hf hb (wp_mono (h.out σ F w _ hL ?_) ?_)
    · refine ⟨rfl, ?_, fun i => ?_⟩
      · simp [hn]; have := hvs.1; omega
      · have h1 := lk_enum σ args vs 0 i undef hvs (Nat.zero_le _)
        simp only [Nat.sub_zero] at h1
        simp only [Array.getD_eq_getD_getElem?, Array.getElem?_append, List.size_toArray, List.getElem?_toArray, Array.getElem?_replicate]
        split
        · rename_i hi; simpa [List.getD_eq_getElem?_getD] using h1
        · rename_i hi
          have hn : vs[i]? = none := by simp at hi ⊢; omega
          rw [List.getD_eq_getElem?_getD, hn] at h1
          split <;> exact h1
    · rintro e a w' ⟨τ, st, L', a1, a2, a3, he, xs, y, M, hx, ht, hR⟩
      obtain ⟨us, hus, hvu, hlen⟩ := resM_run ok a2 a3 rs xs hx
      have hres : (results fn a.tmps).run P w' = .ok (.tuple us.toArray) w' := by
        rw [results_eq, hr]
        simp only [List.mapM_toArray, Sem.run_bind, Sem.run_map, hus, Result.andThen_ok, Sem.run_pure]
        rw [dif_neg (by simp [hvu.1, hlen, h2])]
      obtain ⟨υ, b1, b2, b3⟩ := ht τ F w' _ a2 (VR.tup_of hvu)
      have : a.defers = [] ∧ ∃ v, (results fn a.tmps).run P w' = .ok v w' ∧ ∃ u, Ending.returned v = .returned u ∧ ∃ τ x L', σ.le τ ∧ HRel τ L' F w' ∧ VR τ x u ∧ R x L' :=
        ⟨a3.defers, _, hres, _, rfl, υ, y, M, Hp.le_trans a1 b1, b2, b3, hR⟩
      rcases he with rfl | rfl
      · exact this
      · exact this⟩
theorem finM {tt : List (TypeId × TD)} {rs : List ResultVar} {R : AV → Own → Prop} {e : Exit} {st : St} {L : Own} {xs : List AV} (he : e = .normal ∨ e = .ret) (hx : resM tt st rs = some xs) (hr : R (.tup xs) []) : FinM tt rs R e st L :=
  ⟨he, xs, _, [], hx, .of (Sub.refl _) (OSub.none _), hr⟩
section
variable {P : Program} {N : Nat} {ops : List Oper} {Q : St → Own → Prop} {L : Own} {rest : List (Oper × Kd)} {l : List (Nat × AV)} {k : Kd} {q : Nat}
/-- 's[lo:hi]' of a string, its bounds said in our own words. -/
theorem s_strSubI {tt : List (TypeId × TD)} (ok : TOK P tt) {o : Oper} {T : TypeId} {x : Operand} {lo hi : Option Operand} {s1 b1 : Nat} {z1 : List Value} {s : ByteArray} (a b : Nat)
    (ho : o.op = .slice T x lo hi none) (hdst : o.dst = some q) (hd : Nat.blt q N = true) (hg : guardA ops o (lk l) = some true)
    (hT : lkT tt T = some ⟨.str, s1, b1, z1⟩) (hx : ev (lk l) x = .lit (.string s))
    (hlo : match lo with | none => a = 0 | some y => ∃ kk i, ev (lk l) y = .lit (.int kk i) ∧ i = a) (hhi : match hi with | none => b = s.size | some y => ∃ kk i, ev (lk l) y = .lit (.int kk i) ∧ i = b) (hab : a ≤ b) (hb : b ≤ s.size)
    (n : AL P N ops Q rest (lk ((q, .lit (.string (s.extract a b))) :: l)) L) : AL P N ops Q ((o, k) :: rest) (lk l) L := by
  refine s_strSub ok a b ho hdst hd hg hT hx ?_ ?_ hab hb n
  · cases lo with
    | none => exact hlo
    | some y => obtain ⟨kk, i, h, rfl⟩ := hlo; exact ⟨kk, h⟩
  · cases hi with
    | none => exact hhi
    | some y => obtain ⟨kk, i, h, rfl⟩ := hhi; exact ⟨kk, h⟩
/-- 's[lo:hi]' of a row, its bounds said in our own words. -/
theorem s_sliceI {tt : List (TypeId × TD)} (ok : TOK P tt) {o : Oper} {T : TypeId} {x : Operand} {lo hi : Option Operand} {E : TypeId} {s1 b1 : Nat} {z1 : List Value} {d : TD} {sz : Nat} {es : List (List AV)} {a b : Nat}
    (ho : o.op = .slice T x lo hi none) (hdst : o.dst = some q) (hd : Nat.blt q N = true) (hg : guardA ops o (lk l) = some true)
    (hT : lkT tt T = some ⟨.slice E, s1, b1, z1⟩) (hE : lkT tt E = some d) (hx : ev (lk l) x = .im sz es) (hs : sz = d.size)
    (hlo : match lo with | none => a = 0 | some y => ∃ kk i, ev (lk l) y = .lit (.int kk i) ∧ i = a) (hhi : match hi with | none => b = es.length | some y => ∃ kk i, ev (lk l) y = .lit (.int kk i) ∧ i = b) (hab : a ≤ b) (hb : b ≤ es.length)
    (n : AL P N ops Q rest (lk ((q, .im sz ((es.take b).drop a)) :: l)) L) : AL P N ops Q ((o, k) :: rest) (lk l) L := by
  refine s_slice ok (a := a) (b := b) ho hdst hd hg hT hE hx hs ?_ ?_ hab hb n
  · cases lo with
    | none => exact hlo
    | some y => obtain ⟨kk, i, h, rfl⟩ := hlo; exact ⟨kk, h⟩
  · cases hi with
    | none => exact hhi
    | some y => obtain ⟨kk, i, h, rfl⟩ := hhi; exact ⟨kk, h⟩
end
end Go.Sj
