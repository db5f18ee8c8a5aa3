/-
  A result that is read out of a cell.
-/
import Derived.Test.YtebmopjobmjhmaaSjL10
namespace Go.Sj
set_option linter.unusedVariables false
set_option linter.unusedSimpArgs false

/-- What is asked at the end of a body whose result lies in a cell. -/
def FinC (ca : Nat) (d : TD) (R : AV → Own → Prop) (e : Exit) (st : St) (L : Own) : Prop :=
  (e = .normal ∨ e = .ret) ∧ ∃ cells x y M, st ca = .ip cells ∧ partA d cells 0 = some x ∧ Turn x L y M ∧ R y M
theorem cell_run {P : Program} {T : TypeId} {d : TD} (hT : TI P T d) {σ : Hp} {L : Own} {F : Fr} {w : World} (hr : HRel σ L F w) {cells : List AV} {v : Value} (hv : VR σ (.ip cells) v) {x : AV} (hx : partA d cells 0 = some x) :
    ∃ u, (do loadVar T (← asAddr v)).run P w = .ok u w ∧ VR σ x u := by
  cases hv with
  | ip _ b off c E fr f h1 h2 h3 =>
    have hb := hr.agree _ _ h1
    obtain ⟨u, hu, hxu⟩ := load_run (P := P) hT (σ := σ) (l := cells) (w := w) (b := b) (off := off) (f := f)
      (fun j a ha => by rw [cell_at hb]; exact h2 j a ha) h3 hx
    refine ⟨u, ?_, hxu⟩
    simpa [Instr.loadAt, Instr.sureAddr, asAddr] using hu
theorem a_enterC {P : Program} {f : FuncId} {fn : Func} {c : Code} {N : Nat} {ca : Nat} {T : TypeId} {d : TD} {args : List AV} {L : Own} {R : AV → Own → Prop}
    (hf : P.funcs[f]? = some fn) (hname : (fn.name == "runtime.NumGoroutine") = false) (hb : fn.body = some c) (hn : fn.ntmps = N) (hr : fn.results = #[.cell ca T]) (hT : TI P T d) (ha : args.length ≤ N)
    (h : AWp P N c (FinC ca d R) (lk (enum 0 args)) L) : ACalls P f args L R :=
  ⟨⟨fn, hf, hname, by rw [hb]; rfl⟩, fun σ F w vs hL hvs => by
    refine calls_of_wp hf hb (wp_mono (h.out σ F w _ hL ?_) ?_)
    · refine ⟨rfl, ?_, fun i => ?_⟩
      · simp [hn]; have := hvs.1; omega
      · have h1 := lk_enum σ args vs 0 i undef hvs (Nat.zero_le _)
        simp only [Nat.sub_zero] at h1
        simp only [Array.getD_eq_getD_getElem?, Array.getElem?_append, List.size_toArray, List.getElem?_toArray, Array.getElem?_replicate]
        split
        · rename_i hi; simpa [List.getD_eq_getElem?_getD] using h1
        · rename_i hi
          have hn : vs[i]? = none := by simp at hi ⊢; omega
          rw [List.getD_eq_getElem?_getD, hn] at h1
          split <;> exact h1
    · rintro e a w' ⟨τ, st, L', a1, a2, a3, he, cells, x, y, M, hc, hx, ht, hR⟩
      have hca := a3.vals ca
      rw [hc] at hca
      obtain ⟨v, hv, hxv⟩ := cell_run hT a2 hca hx
      have hres : (results fn a.tmps).run P w' = .ok v w' := by
        rw [results_eq, hr]
        have e1 : (#[ResultVar.cell ca T]).mapM (resOne a.tmps) = (do let u ← resOne a.tmps (.cell ca T); pure #[u]) := by simp [List.mapM_toArray]
        rw [e1]
        simp only [resOne, Sem.run_bind] at hv ⊢
        rw [hv]
        simp [Sem.run_pure]
      obtain ⟨υ, b1, b2, b3⟩ := ht τ F w' v a2 hxv
      have : a.defers = [] ∧ ∃ v, (results fn a.tmps).run P w' = .ok v w' ∧ ∃ u, Ending.returned v = .returned u ∧ ∃ τ x L', σ.le τ ∧ HRel τ L' F w' ∧ VR τ x u ∧ R x L' :=
        ⟨a3.defers, v, hres, v, rfl, υ, y, M, Hp.le_trans a1 b1, b2, b3, hR⟩
      rcases he with rfl | rfl
      · exact this
      · exact this⟩
end Go.Sj
