/-
  Parts of the proof of the law IncrementalOpposite (texts L31): steps, plain mathematics, contracts of functions. Each theorem states its own conditions.
-/
import Derived.Test.YtddohheabpiljaaGreatB06
import Derived.Test.YtddohheabpiljaaGreatB07
import Derived.Test.YtddohheabpiljaaGreatB08
import Derived.Test.YtddohheabpiljaaGreatB26
section
/-
  The greater of two numbers; what is lent, through boxes; rows that are cut back to their beginning. No condition; nothing here names a program.
-/
namespace Go.Sj
set_option maxRecDepth 8000
set_option linter.unusedVariables false
set_option linter.unusedSimpArgs false
theorem FV.trans {L : Own} {x y z : AV} (h : FV L x y) (k : FV L y z) : FV L x z := fun τ u hf hv => k τ u hf (h τ u hf hv)
section
variable {P : Program} {N : Nat} {ops : List Oper} {Q : St → Own → Prop} {L : Own} {rest : List (Oper × Kd)} {l : List (Nat × AV)} {k : Kd} {q : Nat}
theorem s_max2 {o : Oper} {x y : Operand} {tys : Array TypeId} {kk : IntKind} {a b : Int} (ho : o.op = .call ⟨.builtin .max, #[x, y], tys⟩) (hdst : o.dst = some q) (hd : Nat.blt q N = true) (hg : guardA ops o (lk l) = some true)
    (hx : ev (lk l) x = .lit (.int kk a)) (hy : ev (lk l) y = .lit (.int kk b))
    (n : AL P N ops Q rest (lk ((q, .lit (.int kk (max a b))) :: l)) L) : AL P N ops Q ((o, k) :: rest) (lk l) L := by
  obtain ⟨dst, op', ty, pos, after, g⟩ := o
  simp only at ho
  subst ho
  refine s_pure hdst hd hg ⟨fun σ F w ρ hR hρ => ⟨.int kk (max a b), ?_, .lit _⟩⟩ n
  have h1 := hρ x (by simp [Op.operands, Call.operands])
  have h2 := hρ y (by simp [Op.operands, Call.operands])
  rw [hx] at h1
  rw [hy] at h2
  simp [execOp, resolve, invoke, builtin, h1.lit_inv, h2.lit_inv, Builtin.max_, Builtin.max2]
  omega
/-- 's[:n]' of what is owned: the front is owned, the rest forgotten; its value is a single cell. -/
theorem s_frontC {tt : List (TypeId × TD)} (ok : TOK P tt) (i : Nat) {o : Oper} {T : TypeId} {x y : Operand} {E0 s1 b1 : Nat} {z1 : List Value} {d : TD} {E sz : Nat} {v : Value} {es : List (List AV)} {k1 : IntKind} {n : Nat}
    (ho : o.op = .slice T x none (some y) none) (hdst : o.dst = some q) (hd : Nat.blt q N = true) (hg : guardA ops o (lk l) = some true)
    (hT : lkT tt T = some ⟨.slice E0, s1, b1, z1⟩) (hE : lkT tt E0 = some d) (hx : ev (lk l) x = .lit v) (hL : L[i]? = some (v, .row E sz es)) (hy : ev (lk l) y = .lit (.int k1 n)) (hn : n ≤ es.length)
    (nx : ∀ v', v'.oneCell' = true → AL P N ops Q rest (lk ((q, .lit v') :: l)) (L.set i (v', .row E sz (es.take n)))) : AL P N ops Q ((o, .eff) :: rest) (lk l) L := by
  obtain ⟨dst, op', ty, pos, after, g⟩ := o
  simp only at ho
  subst ho
  refine s_eff (fun x M => ∃ v', x = .lit v' ∧ v'.oneCell' = true ∧ M = L.set i (v', .row E sz (es.take n))) hdst hd hg ⟨fun σ F w ρ hR hρ => ?_⟩ (fun x M ⟨p, e1, e3, e2⟩ => by rw [e1, e2]; exact nx p e3)
  have e1 := hρ x (by simp [Op.operands])
  have e2 := hρ y (by simp [Op.operands])
  rw [hx] at e1
  rw [hy] at e2
  have hu := (ok _ _ hT).slice rfl
  have hsz := (ok _ _ hE).sizeOf_run
  have hown := hR.own1 hL
  obtain ⟨a, cap, hv, hcap⟩ := own_row_val hown
  have hb : (Instr.sliceBound (.int k1 (n : Int)) cap .sliceAcap).run P w = .ok n w := by
    have : n ≤ cap := by omega
    simp [Instr.sliceBound, asIntOf, this]
  have hrun : (execOp ρ ⟨dst, .slice T x none (some y) none, ty, pos, after, g⟩).run P w = .ok (.value (.slice a n cap)) w := by
    simp only [execOp, e1.lit_inv, hv, e2.lit_inv, Option.map_none, Option.map_some, Instr.sliceAt, Sem.run_bind, run_underlying hu, Result.andThen_ok, Instr.slice, Instr.sliceBounds, if_true, hb, hsz, Sem.run_pure, Nat.sub_zero, Nat.zero_mul]
    by_cases hc : cap = 0
    · rw [if_pos hc]
    · rw [if_neg hc]
      have : (a.map (·.add 0)) = a := by cases a <;> simp [Addr.add]
      rw [this]
  rw [hrun]
  refine ⟨σ, _, _, σ.le_refl, hR.writeAt (v' := .slice a n cap) (ob' := .row E sz (es.take n)) hL (Nat.le_refl _) (fun _ _ _ => rfl) rfl rfl (fun b hb => .inl ?_) ?_, .lit _, _, rfl, rfl, rfl⟩
  · rw [hv]
    cases a with
    | none => simp [blk] at hb
    | some a => simpa [blk] using hb
  · obtain ⟨xs, h1, h2, h3⟩ := hown
    have hlen : (es.take n).length = n := by rw [List.length_take]; omega
    refine ⟨xs.take (n * sz), ?_, fun e he => h2 e (List.mem_of_mem_take he), ?_⟩
    · rcases h1 with ⟨h0, a0, hv0⟩ | ⟨g, cap', cur, hv0, hc0, hg, hn', hm, hcs, ht⟩
      · rw [hv] at hv0
        injection hv0 with _ _ hc0
        exact .inl ⟨by rw [hlen]; omega, a, by rw [hc0, show n = 0 by omega]⟩
      · rw [hv] at hv0
        cases hv0
        refine .inr ⟨g, cap, cur, by rw [hlen], hc0, hg, by rw [hlen]; omega, hm, hcs, ?_⟩
        rw [hlen, ← ht, List.take_take, Nat.min_eq_left (Nat.mul_le_mul_right _ hn)]
    · rw [← flatten_take h2 hn]
      exact h3.take _
theorem s_frzNowP (i : Nat) {o : Oper} {E sz : Nat} {es : List (List AV)} {M : Own} (hdst : o.dst = some q) (hd : Nat.blt q N = true) (hg : guardA ops o (lk l) = some true)
    (h : AL P N ops (fun st' L' => ∃ v, st' q = .lit v ∧ L'[i]? = some (v, .row E sz es) ∧ (L'.eraseIdx i).Perm M) [(o, .eff)] (lk l) L)
    (n : AL P N ops Q rest (lk ((q, .im sz es) :: l)) M) : AL P N ops Q ((o, .eff) :: rest) (lk l) L := by
  obtain ⟨h1, h2⟩ := AL_head h
  rcases h2 with ⟨hg', _⟩ | ⟨hg', hop⟩
  · rw [hg] at hg'; cases hg'
  · refine s_eff (fun x M' => x = .im sz es ∧ M' = M) hdst hd hg (AOp.turn (fun x L' hx => ?_) hop) (fun x M' ⟨e1, e2⟩ => by rw [e1, e2]; exact n)
    cases hx with
    | nil hq =>
      obtain ⟨v, hv, hL, hM⟩ := hq
      rw [hdst] at hv
      have hv' : x = .lit v := by rw [← hv]; exact (upd_same _ _ _).symm
      subst hv'
      exact ⟨_, _, ⟨rfl, rfl⟩, (Turn.freeze i hL FZ.here).trans fun τ F w u a b => ⟨τ, Hp.le_refl τ, a.perm hM, b⟩⟩
end
section
variable {P : Program} {N : Nat} {c : Code} {Q : Exit → St → Own → Prop} {st : St} {L : Own} {T1 T2 T3 T4 T5 T6 T7 : Type}
theorem a_loopG7 (sx : T1 → T2 → T3 → T4 → T5 → T6 → T7 → List (Nat × AV)) (lx : T1 → T2 → T3 → T4 → T5 → T6 → T7 → Own) (px : T1 → T2 → T3 → T4 → T5 → T6 → T7 → Prop) (m : T1 → T2 → T3 → T4 → T5 → T6 → T7 → Nat) (z1 : T1) (z2 : T2) (z3 : T3) (z4 : T4) (z5 : T5) (z6 : T6) (z7 : T7)
    (h0 : px z1 z2 z3 z4 z5 z6 z7) (hs : GoTo N st L (lk (sx z1 z2 z3 z4 z5 z6 z7)) (lx z1 z2 z3 z4 z5 z6 z7))
    (round : ∀ a1 a2 a3 a4 a5 a6 a7, px a1 a2 a3 a4 a5 a6 a7 → AWp P N c (thenA (fun st' L' => ∃ a1' a2' a3' a4' a5' a6' a7', px a1' a2' a3' a4' a5' a6' a7' ∧ m a1' a2' a3' a4' a5' a6' a7' < m a1 a2 a3 a4 a5 a6 a7 ∧ GoTo N st' L' (lk (sx a1' a2' a3' a4' a5' a6' a7')) (lx a1' a2' a3' a4' a5' a6' a7')) Q) (lk (sx a1 a2 a3 a4 a5 a6 a7)) (lx a1 a2 a3 a4 a5 a6 a7)) : AWp P N (.loop c) Q st L :=
  a_loopG (X := T1 × T2 × T3 × T4 × T5 × T6 × T7) (fun x => sx x.1 x.2.1 x.2.2.1 x.2.2.2.1 x.2.2.2.2.1 x.2.2.2.2.2.1 x.2.2.2.2.2.2) (fun x => lx x.1 x.2.1 x.2.2.1 x.2.2.2.1 x.2.2.2.2.1 x.2.2.2.2.2.1 x.2.2.2.2.2.2) (fun x => px x.1 x.2.1 x.2.2.1 x.2.2.2.1 x.2.2.2.2.1 x.2.2.2.2.2.1 x.2.2.2.2.2.2) (fun x => m x.1 x.2.1 x.2.2.1 x.2.2.2.1 x.2.2.2.2.1 x.2.2.2.2.2.1 x.2.2.2.2.2.2) (z1, z2, z3, z4, z5, z6, z7) h0 hs fun x hx =>
    (round x.1 x.2.1 x.2.2.1 x.2.2.2.1 x.2.2.2.2.1 x.2.2.2.2.2.1 x.2.2.2.2.2.2 hx).mono fun e st' L' h => by
      cases e with
      | normal =>
        obtain ⟨a1', a2', a3', a4', a5', a6', a7', k⟩ := h
        exact ⟨(a1', a2', a3', a4', a5', a6', a7'), k⟩
      | _ => exact h
end
theorem fzo_box {v : Value} {sz : Nat} {es : List (List AV)} {u : Value} {c c' : List AV} {L M : Own} (h : FZL v sz es c c') (k : FZO v sz es L M) : FZO v sz es ((u, .box c) :: L) ((u, .box c') :: M) := ⟨rfl, h, k⟩
theorem fzo_row {v : Value} {sz : Nat} {es : List (List AV)} {u : Value} {E s : Nat} {e : List (List AV)} {L M : Own} (h : ∀ x ∈ e, x.length = s) (k : FZO v sz es L M) : FZO v sz es ((u, .row E s e) :: L) ((u, .row E s e) :: M) := ⟨rfl, rfl, rfl, rfl, h, FZL.refl _, k⟩
end Go.Sj

end
