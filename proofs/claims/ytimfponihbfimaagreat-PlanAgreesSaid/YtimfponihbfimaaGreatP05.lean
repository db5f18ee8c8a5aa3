/- Parts of a proof. -/
import Derived.Test.YtimfponihbfimaaGreatP03
set_option linter.unusedVariables false
set_option linter.unusedSimpArgs false
section
namespace Go.Sj
section
variable {P : Program} {N : Nat} {ops : List Oper} {Q : St → Own → Prop} {L : Own} {rest : List (Oper × Kd)} {l : List (Nat × AV)} {k : Kd} {q : Nat}
theorem own_row_cell {σ : Hp} {w : World} {v : Value} {E sz : Nat} {es : List (List AV)} (h : Own1 σ w (v, .row E sz es)) : v.oneCell' = true := by
  obtain ⟨a, cap, hv, _⟩ := own_row_val h
  rw [hv]; rfl
theorem zak {tt : List (TypeId × TD)} (ok : TOK P tt) (i : Nat) {o : Oper} {T : TypeId} {x y : Operand} {E s1 b1 : Nat} {z1 : List Value} {kd : TK} {sz b : Nat} {z : List Value} {v u : Value} {es : List (List AV)} {c : List AV} (ho : o.op = .call ⟨.builtin .append, #[x, y], #[T, T]⟩) (hdst : o.dst = some q) (hd : Nat.blt q N = true) (hg : guardA ops o (lk l) = some true)
    (hT : lkT tt T = some ⟨.slice E, s1, b1, z1⟩) (hE : lkT tt E = some ⟨kd, sz, b, z⟩) (hpos : 0 < sz) (hx : ev (lk l) x = .lit v) (hL : L[i]? = some (v, .row E sz es)) (hy : ev (lk l) y = .lit u)
    (hcell : c.all AV.cell = true) (hlen : es.length < 140737488355328) (hby : (es.length + 1) * b ≤ 140737488355328)
    (nx : ∀ v', v'.oneCell' = true → AL P N ops Q rest (lk ((q, .lit v') :: l)) (L.set i (v', .row E sz (es ++ [c])))) : AL P N ops Q ((o, .eff) :: rest) (lk l) ((u, .row E sz [c]) :: L) := by
  obtain ⟨dst, op', ty, pos, after, g⟩ := o
  simp only at ho
  subst ho
  refine s_eff (fun x M => ∃ v', x = .lit v' ∧ v'.oneCell' = true ∧ M = L.set i (v', .row E sz (es ++ [c]))) hdst hd hg ⟨fun σ F w ρ hR hρ => ?_⟩ (fun x M ⟨p, e1, e3, e2⟩ => by rw [e1, e2]; exact nx p e3)
  have e1 := hρ x (by simp [Op.operands, Call.operands])
  have e2 := hρ y (by simp [Op.operands, Call.operands])
  rw [hx] at e1
  rw [hy] at e2
  have hu := (ok _ _ hT).slice rfl
  have hL' : ((u, OB.row E sz [c]) :: L)[i + 1]? = some (v, .row E sz es) := by simpa using hL
  have hsrc : SrcA σ w (ρ y) sz [c] := by rw [e2.lit_inv]; exact SrcA.own (hR.own1 (i := 0) rfl)
  obtain ⟨v', w', hr, hown, h1, h2, h3, h4, h5⟩ := own_append (P := P) (ty := ty) (hR.own1 hL') hsrc hu (ok _ _ hE) rfl hpos (by simpa using hcell) (by simp only [maxLen, List.length_cons, List.length_nil]; omega) (by simpa using hby)
  have hrun : (execOp ρ ⟨dst, .call ⟨.builtin .append, #[x, y], #[T, T]⟩, ty, pos, after, g⟩).run P w = .ok (.value v') w' := by
    simp [execOp, resolve, invoke, builtin, e1.lit_inv, hr]
  rw [hrun]
  refine ⟨σ, _, _, σ.le_refl, (hR.writeAt hL' h1 h2 h3 h4 h5 hown).sub ?_, .lit _, _, rfl, own_row_cell hown, rfl⟩
  simp
theorem TI.boolD {t : TypeId} {d : TD} (h : TI P t d) (hk : d.kind = .bool) : P.underlying t = some .bool := by
  obtain ⟨x, hx, hk'⟩ := h.desc
  rw [hk] at hk'
  cases x <;> simp [kindOf] at hk'
  rw [hx]
theorem s_boolEq {tt : List (TypeId × TD)} (ok : TOK P tt) {o : Oper} {T T' : TypeId} {x y : Operand} {a b : Bool} {s1 b1 : Nat} {z1 : List Value} (ho : o.op = .binOp .eql T x y T') (hdst : o.dst = some q) (hd : Nat.blt q N = true) (hg : guardA ops o (lk l) = some true)
    (hT : lkT tt T = some ⟨.bool, s1, b1, z1⟩) (hx : ev (lk l) x = .lit (.bool a)) (hy : ev (lk l) y = .lit (.bool b))
    (n : AL P N ops Q rest (lk ((q, .lit (.bool (a == b))) :: l)) L) : AL P N ops Q ((o, k) :: rest) (lk l) L := by
  obtain ⟨dst, op', ty, pos, after, g⟩ := o
  simp only at ho
  subst ho
  refine s_pure hdst hd hg ⟨fun σ F w ρ hR hρ => ⟨.bool (a == b), ?_, .lit _⟩⟩ n
  have h1 := hρ x (by simp [Op.operands])
  have h2 := hρ y (by simp [Op.operands])
  rw [hx] at h1
  rw [hy] at h2
  have hu := TI.boolD (ok _ _ hT) rfl
  simp [execOp, h1.lit_inv, h2.lit_inv, eqGuard, binOp, run_equal_bool _ _ _ _ hu]
theorem s_boolNe {tt : List (TypeId × TD)} (ok : TOK P tt) {o : Oper} {T T' : TypeId} {x y : Operand} {a b : Bool} {s1 b1 : Nat} {z1 : List Value} (ho : o.op = .binOp .neq T x y T') (hdst : o.dst = some q) (hd : Nat.blt q N = true) (hg : guardA ops o (lk l) = some true)
    (hT : lkT tt T = some ⟨.bool, s1, b1, z1⟩) (hx : ev (lk l) x = .lit (.bool a)) (hy : ev (lk l) y = .lit (.bool b))
    (n : AL P N ops Q rest (lk ((q, .lit (.bool (!(a == b)))) :: l)) L) : AL P N ops Q ((o, k) :: rest) (lk l) L := by
  obtain ⟨dst, op', ty, pos, after, g⟩ := o
  simp only at ho
  subst ho
  refine s_pure hdst hd hg ⟨fun σ F w ρ hR hρ => ⟨.bool (!(a == b)), ?_, .lit _⟩⟩ n
  have h1 := hρ x (by simp [Op.operands])
  have h2 := hρ y (by simp [Op.operands])
  rw [hx] at h1
  rw [hy] at h2
  have hu := TI.boolD (ok _ _ hT) rfl
  simp [execOp, h1.lit_inv, h2.lit_inv, eqGuard, binOp, run_equal_bool _ _ _ _ hu]
end
theorem ACalls.give {P : Program} {f : FuncId} {args args' : List AV} {L M : Own} {v : Value} {E sz : Nat} {es : List (List AV)} {R : AV → Own → Prop} (h : ACalls P f args M R) (hM : FZO v sz es L M) (hz : FZL v sz es args' args) :
    ACalls P f args' ((v, .row E sz es) :: L) R :=
  ⟨h.ok, fun σ F w vs hr hvs => by
    obtain ⟨h1, h2⟩ := hr.freeze hM
    exact (h.out _ F w vs h1 (hz.vrs h2 (hvs.mono (frz_le σ w v)))).mono fun e w' ⟨u, he, τ, x, M', k1, k2, k3, k4⟩ => ⟨u, he, τ, x, M', Hp.le_trans (frz_le σ w v) k1, k2, k3, k4⟩⟩
theorem Pure.give {P : Program} {f : FuncId} {args args' : List AV} {v : Value} {E sz : Nat} {es : List (List AV)} {y : AV} (h : Pure P f args y) (hz : FZL v sz es args' args) :
    ACalls P f args' [(v, .row E sz es)] fun x L => x = y ∧ L = [] := ACalls.give h trivial hz
end Go.Sj
namespace Go.Sj
theorem a_frz {P : Program} {N : Nat} {c : Code} {Q : Exit → St → Own → Prop} {l : List (Nat × AV)} {L : Own} (i t : Nat) {v : Value} {E sz : Nat} {es : List (List AV)} (hL : L[i]? = some (v, .row E sz es)) (ht : lk l t = .lit v)
    (k : AWp P N c Q (lk ((t, .im sz es) :: l)) (L.eraseIdx i)) : AWp P N c Q (lk l) L :=
  ⟨fun σ F w a hr htr => by
    obtain ⟨h1, h2⟩ := (hr.at hL).freezeKeep
    have htr' : TR (frz σ w v) N (lk ((t, .im sz es) :: l)) a := by
      refine ⟨htr.defers, htr.size, fun j => ?_⟩
      have hj := (htr.vals j).mono (frz_le σ w v)
      simp only [lk]
      cases e : Nat.beq t j with
      | false => exact hj
      | true =>
        obtain rfl := Nat.eq_of_beq_eq_true e
        rw [ht] at hj
        rw [hj.lit_inv]
        exact h2
    exact wp_mono (k.out _ F w a h1 htr') fun e a' w' hp => hp.le (frz_le σ w v)⟩
def subV (v : Value) (sz lo hi : Nat) : Value := match v with
  | .slice a n cap => .slice (if cap = lo then a else a.map (·.add (lo * sz))) (hi - lo) (cap - lo)
  | v => v
theorem FZ.part {v : Value} {sz : Nat} {es : List (List AV)} {lo hi : Nat} (h1 : lo ≤ hi) (h2 : hi ≤ es.length) : FZ v sz es (.lit (subV v sz lo hi)) (.im sz ((es.take hi).drop lo)) := fun τ u hv hx => by
  rw [hx.lit_inv]
  obtain ⟨a, cap, e, hc⟩ := VR.im_len hv
  rw [e] at hv ⊢
  exact hv.im_sub h1 h2 cap (by omega) (Nat.le_refl _)
theorem ACalls.lendZ {P : Program} {f : FuncId} {args args' : List AV} {v : Value} {E sz : Nat} {es : List (List AV)} {R : AV → Own → Prop} (h : ACalls P f args [] R) (hz : FZL v sz es args' args) (hfree : ∀ x M, R x M → Free x ∧ FreeO M) :
    ACalls P f args' [(v, .row E sz es)] fun x M => ∃ M', R x M' ∧ M = M' ++ [(v, .row E sz es)] :=
  ⟨h.ok, fun σ F w vs hr hvs => by
    have hown := hr.own (v, .row E sz es) (by simp)
    have hap : ∀ b, blk v = some b → σ b = none ∧ F.h b = none := fun b hb => hr.apart b (List.mem_filterMap.2 ⟨(v, .row E sz es), by simp, hb⟩)
    obtain ⟨h1, h2⟩ := hr.freeze (M := []) trivial
    have hargs : VRs (frz σ w v) args vs := hz.vrs h2 (hvs.mono (frz_le σ w v))
    refine (h.out (frz σ w v) F w vs h1 hargs).mono fun e w' ⟨u, he, τ, x, M, k1, k2, k3, k4⟩ => ?_
    obtain ⟨f1, f2⟩ := hfree x M k4
    let τ' : Hp := fun b => if blk v = some b then none else τ b
    have hle : σ.le τ' := fun b o hb => by
      have hne : blk v ≠ some b := fun e => by rw [(hap b e).1] at hb; cases hb
      show (if blk v = some b then none else τ b) = some o
      rw [if_neg hne]
      exact k1 b o (frz_le σ w v b o hb)
    have hsub : Hp.le τ' τ := fun b o hb => by
      by_cases hb' : blk v = some b
      · simp [τ', hb'] at hb
      · simpa [τ', hb'] using hb
    have hblock : ∀ b, blk v = some b → τ b = w.heap[b]? ∧ w'.heap[b]? = w.heap[b]? := fun b hb => by
      have hlt := hown.lt (v := v) hb
      have e0 : w.heap[b]? = some w.heap[b] := Array.getElem?_eq_getElem hlt
      have e1 : frz σ w v b = some w.heap[b] := by simp only [frz, (hap b hb).1, if_pos hb]; exact e0
      have e2 := k1 b _ e1
      exact ⟨by rw [e2, e0], by rw [e0]; exact k2.agree b _ e2⟩
    have hMb : ∀ b ∈ M.filterMap (blk ∘ Prod.fst), blk v ≠ some b := fun b hb e => by
      have h5 := (k2.apart b hb).1
      rw [(hblock b e).1] at h5
      have := hown.lt (v := v) e
      rw [Array.getElem?_eq_getElem this] at h5
      cases h5
    refine ⟨u, he, τ', x, M ++ [(v, .row E sz es)], hle, ⟨k2.agree.mono hsub, k2.frame, k2.os, k2.out, fun p hp => ?_, fun b o hb => k2.sep b o (hsub b o hb), ?_, fun b hb => ?_⟩, f1.move k3, M, k4, rfl⟩
    · rcases List.mem_append.1 hp with hp | hp
      · exact own_free (f2 p hp) (k2.own p hp)
      · simp at hp
        subst hp
        exact (hown.mono hle).kept fun b hb => (hblock b hb).2
    · rw [List.filterMap_append, List.nodup_append]
      refine ⟨k2.nodup, ?_, fun a ha b hb e => ?_⟩
      · cases hv : blk v <;> simp [hv]
      · subst e
        have : blk v = some a := by
          cases hv : blk v with
          | none => simp [hv] at hb
          | some c => simp [hv] at hb; rw [hb]
        exact hMb a ha this
    · rw [List.filterMap_append] at hb
      rcases List.mem_append.1 hb with hb | hb
      · refine ⟨?_, (k2.apart b hb).2⟩
        show (if blk v = some b then none else τ b) = none
        rw [if_neg (hMb b hb)]
        exact (k2.apart b hb).1
      · have hvb : blk v = some b := by
          cases hv : blk v with
          | none => simp [hv] at hb
          | some c => simp [hv] at hb; rw [hb]
        refine ⟨?_, (hap b hvb).2⟩
        show (if blk v = some b then none else τ b) = none
        rw [if_pos hvb]⟩
section
variable {P : Program} {N : Nat} {ops : List Oper} {Q : St → Own → Prop} {L : Own} {rest : List (Oper × Kd)} {l : List (Nat × AV)} {k : Kd} {q : Nat}
theorem s_ownPart {tt : List (TypeId × TD)} (ok : TOK P tt) (i : Nat) {o : Oper} {T : TypeId} {x : Operand} {lo hi : Option Operand} {E0 s1 b1 : Nat} {z1 : List Value} {d : TD} {E sz : Nat} {v : Value} {es : List (List AV)} {a b : Nat}
    (ho : o.op = .slice T x lo hi none) (hdst : o.dst = some q) (hd : Nat.blt q N = true) (hg : guardA ops o (lk l) = some true) (hk : k ≠ .pure)
    (hT : lkT tt T = some ⟨.slice E0, s1, b1, z1⟩) (hE : lkT tt E0 = some d) (hx : ev (lk l) x = .lit v) (hL : L[i]? = some (v, .row E sz es)) (hs : sz = d.size)
    (hlo : match lo with | none => a = 0 | some y => ∃ kk, ev (lk l) y = .lit (.int kk a)) (hhi : match hi with | none => b = es.length | some y => ∃ kk, ev (lk l) y = .lit (.int kk b)) (hab : a ≤ b) (hb : b ≤ es.length)
    (n : AL P N ops Q rest (lk ((q, .lit (subV v sz a b)) :: l)) L) : AL P N ops Q ((o, k) :: rest) (lk l) L := by
  obtain ⟨dst, op', ty, pos, after, g⟩ := o
  simp only at ho
  subst ho
  subst hs
  refine s_read hdst hd hg hk ⟨fun σ F w ρ hR hρ => ⟨_, ?_, .lit _⟩⟩ n
  have h1 := hρ x (by simp [Op.operands])
  rw [hx] at h1
  obtain ⟨ad, cap, hv, hc⟩ := own_row_val (hR.own1 hL)
  have hu := (ok _ _ hT).slice rfl
  have hsz := (ok _ _ hE).sizeOf_run
  have hbnd : (Instr.sliceBounds true es.length cap (lo.map ρ) (hi.map ρ) none).run P w = .ok (a, b, cap) w := by
    have e2 : ∀ y, hi = some y → ∃ kk, ρ y = .int kk b := fun y hy => by
      subst hy
      obtain ⟨kk, hk⟩ := hhi
      have := hρ y (by simp [Op.operands])
      rw [hk] at this
      exact ⟨kk, this.lit_inv⟩
    have e1 : ∀ y, lo = some y → ∃ kk, ρ y = .int kk a := fun y hy => by
      subst hy
      obtain ⟨kk, hk⟩ := hlo
      have := hρ y (by simp [Op.operands])
      rw [hk] at this
      exact ⟨kk, this.lit_inv⟩
    have i1 : b ≤ cap := by omega
    cases lo with
    | none =>
      cases hi with
      | none => simp only at hlo hhi; subst hlo; subst hhi; simp [Instr.sliceBounds]
      | some y =>
        obtain ⟨kk, hk⟩ := e2 y rfl
        simp only at hlo; subst hlo
        simp [Instr.sliceBounds, hk, Instr.sliceBound, asIntOf, Int.ofNat_le, i1]
    | some z =>
      obtain ⟨kz, hz⟩ := e1 z rfl
      cases hi with
      | none => simp only at hhi; subst hhi; simp [Instr.sliceBounds, hz, Instr.sliceBound, asIntOf, hab]
      | some y =>
        obtain ⟨kk, hk⟩ := e2 y rfl
        simp [Instr.sliceBounds, hk, hz, Instr.sliceBound, asIntOf, i1, hab]
  simp only [execOp, h1.lit_inv, hv, Option.map_none, Instr.sliceAt, Sem.run_bind, run_underlying hu, Result.andThen_ok, Instr.slice, hbnd, hsz, Sem.run_pure, subV]
end
def chkO (ops : Array Oper) (ks : List Kd) : List Nat → Array Bool → Bool
  | [], listed => (Region.ready .any ops listed).isEmpty
  | k :: is, listed =>
    (match ks.getD k .eff with
      | .pure => (Region.ready .any ops listed).contains k && Region.free .any ops listed k
      | .read => (Region.ready .any ops listed).contains k && Region.free .any ops listed k &&
          (List.range ops.size).all fun j => j == k || listed.getD j true || ks.getD j .eff != .eff || (match ops[j]? with
            | some oj => oj.after.any (fun e => Region.binds .any e && e.on == k)
            | none => true)
      | .eff => Region.ready .any ops listed == [k]) &&
    chkO ops ks is (listed.setIfInBounds k true)
theorem AAny_ord {P : Program} {N : Nat} {ops : List Oper} {ks : List Kd} {Q : St → Own → Prop} {l : List (Oper × Kd)} {st : St} {L : Own} (h : AL P N ops Q l st L) :
    ∀ (is : List Nat) (listed : Array Bool), is.length = l.length → (∀ (j k : Nat) (p : Oper × Kd), is[j]? = some k → l[j]? = some p → ops[k]? = some p.1 ∧ p.2 = ks.getD k .eff) →
      chkO ops.toArray ks is listed = true → AAny P N ops ks Q l.length listed st L := by
  have quiet : ∀ {o : Oper} {kd : Kd} {rest : List (Oper × Kd)} {st : St} {L : Own} {x : AV} (k : Nat) (listed : Array Bool), (∀ d, o.dst = some d → d < N) → ops[k]? = some o → ks.getD k .eff ≠ .eff →
      YA P ops (ks.getD k .eff) o x st L → (match ks.getD k .eff with
      | .pure => (Region.ready .any ops.toArray listed).contains k && Region.free .any ops.toArray listed k
      | .read => (Region.ready .any ops.toArray listed).contains k && Region.free .any ops.toArray listed k &&
          (List.range ops.toArray.size).all fun j => j == k || listed.getD j true || ks.getD j .eff != .eff || (match ops.toArray[j]? with
            | some oj => oj.after.any (fun e => Region.binds .any e && e.on == k)
            | none => true)
      | .eff => Region.ready .any ops.toArray listed == [k]) = true →
      AAny P N ops ks Q rest.length (listed.setIfInBounds k true) (updO st o.dst x) L → AAny P N ops ks Q (rest.length + 1) listed st L := by
    intro o kd rest st L x k listed hd h0 hne hy hc H
    cases hk : ks.getD k .eff with
    | eff => exact absurd hk hne
    | pure =>
      simp only [hk, Bool.and_eq_true] at hc
      refine AAny_first h0 hne hd rest.length listed st L (fun j oj hj hjk hun hno => ⟨?_, .inl hk⟩) (by simpa using hc.1) hy H
      exact Region.free_spec (ops := ops.toArray) (by rw [List.getElem?_toArray]; exact h0) hc.2 j oj (by rw [List.getElem?_toArray]; exact hj) hjk hun hno
    | read =>
      simp only [hk, Bool.and_eq_true] at hc
      refine AAny_first h0 hne hd rest.length listed st L (fun j oj hj hjk hun hno => ⟨?_, .inr ?_⟩) (by simpa using hc.1.1) hy H
      · exact Region.free_spec (ops := ops.toArray) (by rw [List.getElem?_toArray]; exact h0) hc.1.2 j oj (by rw [List.getElem?_toArray]; exact hj) hjk hun hno
      · have h3 := List.all_eq_true.1 hc.2 j (List.mem_range.2 (by
          have := (List.getElem?_eq_some_iff.1 hj).1; simpa using this))
        simp only [List.getElem?_toArray, hj, Bool.or_eq_true, beq_iff_eq, hjk, false_or, hun, Bool.false_eq_true, bne_iff_ne] at h3
        rcases h3 with h3 | h3
        · exact h3
        · obtain ⟨e, he, hb⟩ := Array.any_eq_true'.1 h3
          simp only [Bool.and_eq_true, beq_iff_eq] at hb
          exact absurd hb.2 (hno e he hb.1)
  induction h with
  | nil hq =>
    intro is listed hn _ hc
    obtain rfl : is = [] := List.length_eq_zero_iff.1 hn
    exact ⟨by simpa [chkO] using hc, hq⟩
  | @skip o kd rest st L hd hg _ ih =>
    intro is listed hn hl hc
    obtain ⟨k, is, rfl⟩ : ∃ k is', is = k :: is' := by
      cases is with
      | nil => simp at hn
      | cons k is => exact ⟨k, is, rfl⟩
    obtain ⟨h0, hk0⟩ := hl 0 k _ rfl rfl
    simp only at h0 hk0
    simp only [List.length_cons, chkO, Bool.and_eq_true] at hc
    have H := ih is (listed.setIfInBounds k true) (by simpa using hn) (fun j k' p a b => hl (j + 1) k' p (by simpa using a) (by simpa using b)) hc.2
    by_cases he : ks.getD k .eff = .eff
    · refine ⟨fun h => ?_, fun i hi oi hoi => ?_⟩
      · simp only [he] at hc; rw [h] at hc; simp at hc
      · simp only [he] at hc
        have hr : Region.ready .any ops.toArray listed = [k] := by simpa using hc.1
        rw [hr] at hi
        have hik : i = k := by simpa using hi
        subst hik
        rw [h0] at hoi; cases hoi
        exact ⟨hd, .inl ⟨hg, H⟩⟩
    · exact quiet (kd := kd) k listed hd h0 he (.inr ⟨hg, rfl⟩) hc.1 H
  | @pure o kd rest st L x hd hg hq _ ih =>
    intro is listed hn hl hc
    obtain ⟨k, is, rfl⟩ : ∃ k is', is = k :: is' := by
      cases is with
      | nil => simp at hn
      | cons k is => exact ⟨k, is, rfl⟩
    obtain ⟨h0, hk0⟩ := hl 0 k _ rfl rfl
    simp only at h0 hk0
    simp only [List.length_cons, chkO, Bool.and_eq_true] at hc
    have H := ih is (listed.setIfInBounds k true) (by simpa using hn) (fun j k' p a b => hl (j + 1) k' p (by simpa using a) (by simpa using b)) hc.2
    by_cases he : ks.getD k .eff = .eff
    · refine ⟨fun h => ?_, fun i hi oi hoi => ?_⟩
      · simp only [he] at hc; rw [h] at hc; simp at hc
      · simp only [he] at hc
        have hr : Region.ready .any ops.toArray listed = [k] := by simpa using hc.1
        rw [hr] at hi
        have hik : i = k := by simpa using hi
        subst hik
        rw [h0] at hoi; cases hoi
        refine ⟨hd, .inr ⟨hg, ?_⟩⟩
        rw [he]
        exact (hq.any L).op H
    · refine quiet (kd := kd) k listed hd h0 he (.inl ⟨hg, ?_⟩) hc.1 H
      cases hk' : ks.getD k .eff <;> first | exact hq | exact hq.any L
  | @read o kd rest st L x hd hg hne hq _ ih =>
    intro is listed hn hl hc
    obtain ⟨k, is, rfl⟩ : ∃ k is', is = k :: is' := by
      cases is with
      | nil => simp at hn
      | cons k is => exact ⟨k, is, rfl⟩
    obtain ⟨h0, hk0⟩ := hl 0 k _ rfl rfl
    simp only at h0 hk0
    simp only [List.length_cons, chkO, Bool.and_eq_true] at hc
    have H := ih is (listed.setIfInBounds k true) (by simpa using hn) (fun j k' p a b => hl (j + 1) k' p (by simpa using a) (by simpa using b)) hc.2
    by_cases he : ks.getD k .eff = .eff
    · refine ⟨fun h => ?_, fun i hi oi hoi => ?_⟩
      · simp only [he] at hc; rw [h] at hc; simp at hc
      · simp only [he] at hc
        have hr : Region.ready .any ops.toArray listed = [k] := by simpa using hc.1
        rw [hr] at hi
        have hik : i = k := by simpa using hi
        subst hik
        rw [h0] at hoi; cases hoi
        refine ⟨hd, .inr ⟨hg, ?_⟩⟩
        rw [he]
        exact hq.op H
    · refine quiet (kd := kd) k listed hd h0 he (.inl ⟨hg, ?_⟩) hc.1 H
      rw [hk0] at hne
      cases hk' : ks.getD k .eff with
      | pure => exact absurd hk' hne
      | eff => exact absurd hk' he
      | read => exact hq
  | @eff o rest st L K hd hg hop _ ih =>
    intro is listed hn hl hc
    obtain ⟨k, is, rfl⟩ : ∃ k is', is = k :: is' := by
      cases is with
      | nil => simp at hn
      | cons k is => exact ⟨k, is, rfl⟩
    obtain ⟨h0, hk0⟩ := hl 0 k _ rfl rfl
    simp only at h0 hk0
    simp only [List.length_cons, chkO, Bool.and_eq_true, ← hk0] at hc
    have hr : Region.ready .any ops.toArray listed = [k] := by simpa using hc.1
    refine ⟨fun h => ?_, fun i hi oi hoi => ?_⟩
    · rw [h] at hr; cases hr
    · rw [hr] at hi
      have hik : i = k := by simpa using hi
      subst hik
      rw [h0] at hoi; cases hoi
      refine ⟨hd, .inr ⟨hg, ?_⟩⟩
      rw [← hk0]
      refine hop.mono fun x L' hK => ?_
      exact ih x L' hK is (listed.setIfInBounds i true) (by simpa using hn) (fun j k' p a b => hl (j + 1) k' p (by simpa using a) (by simpa using b)) hc.2
theorem a_regO {P : Program} {N : Nat} {Q : Exit → St → Own → Prop} {st : St} {L : Own} {id : Nat} {l : List Oper} (is : List Nat) (hm : P.follows .mixedOrders = true) (hlen : is.length = l.length) (hin : is.all (fun i => Nat.blt i l.length) = true)
    (hc : chkO l.toArray (l.map fun o => kdOf o.op) is (Array.replicate l.length false) = true)
    (h : AL P N l (fun st' L' => Q .normal st' L') (is.filterMap fun i => match l[i]? with | some o => some (o, kdOf o.op) | none => none) st L) : AWp P N (.region id l.toArray true) Q st L :=
  ⟨fun σ F w a hr ht => wp_region_any hm (by
    have hget : ∀ (is : List Nat), is.all (fun i => Nat.blt i l.length) = true → ∀ j : Nat, (is.filterMap fun i => match l[i]? with | some o => some (o, kdOf o.op) | none => none)[j]? = (is[j]?).bind fun i => match l[i]? with | some o => some (o, kdOf o.op) | none => none := by
      intro is
      induction is with
      | nil => intro _ j; simp
      | cons i is ih =>
        intro hall j
        simp only [List.all_cons, Bool.and_eq_true] at hall
        have hi : i < l.length := by simpa [Nat.blt_eq] using hall.1
        have e : l[i]? = some l[i] := List.getElem?_eq_getElem hi
        rw [List.filterMap_cons]
        simp only [e]
        cases j with
        | zero => simp [e]
        | succ j => simpa using ih hall.2 j
    have hl2 : (is.filterMap fun i => match l[i]? with | some o => some (o, kdOf o.op) | none => none).length = l.length := by
      rw [← hlen]
      clear hc h hlen
      induction is with
      | nil => rfl
      | cons i is ih =>
        simp only [List.all_cons, Bool.and_eq_true] at hin
        have hi : i < l.length := by simpa [Nat.blt_eq] using hin.1
        have e : l[i]? = some l[i] := List.getElem?_eq_getElem hi
        rw [List.filterMap_cons]
        simp only [e, List.length_cons, ih hin.2]
    have h1 := AAny_ord (ks := l.map fun o => kdOf o.op) h is (Array.replicate l.length false) (by rw [hl2, hlen]) (fun j k p hj hp => by
      rw [hget is hin j, hj] at hp
      simp only [Option.bind_some] at hp
      cases e : l[k]? with
      | none => rw [e] at hp; cases hp
      | some o =>
        rw [e] at hp
        cases hp
        exact ⟨rfl, by simp [List.getD_eq_getElem?_getD, e]⟩) hc
    rw [hl2] at h1
    have := AAny_wp (F := F) (Q' := Post σ N F Q) l.length _ st L σ a { w with drawn := w.drawn + 1 } h1 (hr.grow (fun _ _ => rfl) rfl rfl) ht (fun τ st' L' a' w' a1 a2 a3 a4 => ⟨τ, st', L', a1, a2, a3, a4⟩)
    simpa using this)⟩
end Go.Sj
namespace Go.Sj
def stepOk (ops : Array Oper) (ks : List Kd) (k : Nat) (listed : Array Bool) : Bool :=
    (match ks.getD k .eff with
      | .pure => (Region.ready .any ops listed).contains k && Region.free .any ops listed k
      | .read => (Region.ready .any ops listed).contains k && Region.free .any ops listed k &&
          (List.range ops.size).all fun j => j == k || listed.getD j true || ks.getD j .eff != .eff || (match ops[j]? with
            | some oj => oj.after.any (fun e => Region.binds .any e && e.on == k)
            | none => true)
      | .eff => Region.ready .any ops listed == [k])
def chkP (ops : Array Oper) (ks : List Kd) : List Nat → Array Bool → Option (Array Bool)
  | [], listed => some listed
  | k :: is, listed => if stepOk ops ks k listed then chkP ops ks is (listed.setIfInBounds k true) else none
theorem chkP_cons {ops : Array Oper} {ks : List Kd} {k : Nat} {is : List Nat} {listed li : Array Bool} (h : chkP ops ks (k :: is) listed = some li) : stepOk ops ks k listed = true ∧ chkP ops ks is (listed.setIfInBounds k true) = some li := by
  simp only [chkP] at h
  split at h
  · rename_i h1; exact ⟨h1, h⟩
  · cases h
theorem AAny_pre {P : Program} {N : Nat} {ops : List Oper} {ks : List Kd} {Q Q' : St → Own → Prop} {l : List (Oper × Kd)} {st : St} {L : Own} {fuel : Nat} {li : Array Bool} (h : AL P N ops Q' l st L)
    (hQ : ∀ st L, Q' st L → AAny P N ops ks Q fuel li st L) :
    ∀ (is : List Nat) (listed : Array Bool), is.length = l.length → (∀ (j k : Nat) (p : Oper × Kd), is[j]? = some k → l[j]? = some p → ops[k]? = some p.1 ∧ p.2 = ks.getD k .eff) →
      chkP ops.toArray ks is listed = some li → AAny P N ops ks Q (l.length + fuel) listed st L := by
  have quiet : ∀ {o : Oper} {st : St} {L : Own} {x : AV} (k m : Nat) (listed : Array Bool), (∀ d, o.dst = some d → d < N) → ops[k]? = some o → ks.getD k .eff ≠ .eff →
      YA P ops (ks.getD k .eff) o x st L → (match ks.getD k .eff with
      | .pure => (Region.ready .any ops.toArray listed).contains k && Region.free .any ops.toArray listed k
      | .read => (Region.ready .any ops.toArray listed).contains k && Region.free .any ops.toArray listed k &&
          (List.range ops.toArray.size).all fun j => j == k || listed.getD j true || ks.getD j .eff != .eff || (match ops.toArray[j]? with
            | some oj => oj.after.any (fun e => Region.binds .any e && e.on == k)
            | none => true)
      | .eff => Region.ready .any ops.toArray listed == [k]) = true →
      AAny P N ops ks Q m (listed.setIfInBounds k true) (updO st o.dst x) L → AAny P N ops ks Q (m + 1) listed st L := by
    intro o st L x k m listed hd h0 hne hy hc H
    cases hk : ks.getD k .eff with
    | eff => exact absurd hk hne
    | pure =>
      simp only [hk, Bool.and_eq_true] at hc
      refine AAny_first h0 hne hd m listed st L (fun j oj hj hjk hun hno => ⟨?_, .inl hk⟩) (by simpa using hc.1) hy H
      exact Region.free_spec (ops := ops.toArray) (by rw [List.getElem?_toArray]; exact h0) hc.2 j oj (by rw [List.getElem?_toArray]; exact hj) hjk hun hno
    | read =>
      simp only [hk, Bool.and_eq_true] at hc
      refine AAny_first h0 hne hd m listed st L (fun j oj hj hjk hun hno => ⟨?_, .inr ?_⟩) (by simpa using hc.1.1) hy H
      · exact Region.free_spec (ops := ops.toArray) (by rw [List.getElem?_toArray]; exact h0) hc.1.2 j oj (by rw [List.getElem?_toArray]; exact hj) hjk hun hno
      · have h3 := List.all_eq_true.1 hc.2 j (List.mem_range.2 (by
          have := (List.getElem?_eq_some_iff.1 hj).1; simpa using this))
        simp only [List.getElem?_toArray, hj, Bool.or_eq_true, beq_iff_eq, hjk, false_or, hun, Bool.false_eq_true, bne_iff_ne] at h3
        rcases h3 with h3 | h3
        · exact h3
        · obtain ⟨e, he, hb⟩ := Array.any_eq_true'.1 h3
          simp only [Bool.and_eq_true, beq_iff_eq] at hb
          exact absurd hb.2 (hno e he hb.1)
  induction h with
  | nil hq =>
    intro is listed hn _ hc
    obtain rfl : is = [] := List.length_eq_zero_iff.1 hn
    simp only [chkP, Option.some.injEq] at hc
    subst hc
    rw [List.length_nil, Nat.zero_add]
    exact hQ _ _ hq
  | @skip o kd rest st L hd hg _ ih =>
    intro is listed hn hl hc
    obtain ⟨k, is, rfl⟩ : ∃ k is', is = k :: is' := by
      cases is with
      | nil => simp at hn
      | cons k is => exact ⟨k, is, rfl⟩
    obtain ⟨h0, hk0⟩ := hl 0 k _ rfl rfl
    simp only at h0 hk0
    obtain ⟨hc1, hc2⟩ := chkP_cons hc
    rw [List.length_cons, show rest.length + 1 + fuel = (rest.length + fuel) + 1 by omega]
    unfold stepOk at hc1
    have H := ih is (listed.setIfInBounds k true) (by simpa using hn) (fun j k' p a b => hl (j + 1) k' p (by simpa using a) (by simpa using b)) hc2
    by_cases he : ks.getD k .eff = .eff
    · refine ⟨fun h => ?_, fun i hi oi hoi => ?_⟩
      · simp only [he] at hc1; rw [h] at hc1; simp at hc1
      · simp only [he] at hc1
        have hr : Region.ready .any ops.toArray listed = [k] := by simpa using hc1
        rw [hr] at hi
        have hik : i = k := by simpa using hi
        subst hik
        rw [h0] at hoi; cases hoi
        exact ⟨hd, .inl ⟨hg, H⟩⟩
    · exact quiet k _ listed hd h0 he (.inr ⟨hg, rfl⟩) hc1 H
  | @pure o kd rest st L x hd hg hq _ ih =>
    intro is listed hn hl hc
    obtain ⟨k, is, rfl⟩ : ∃ k is', is = k :: is' := by
      cases is with
      | nil => simp at hn
      | cons k is => exact ⟨k, is, rfl⟩
    obtain ⟨h0, hk0⟩ := hl 0 k _ rfl rfl
    simp only at h0 hk0
    obtain ⟨hc1, hc2⟩ := chkP_cons hc
    rw [List.length_cons, show rest.length + 1 + fuel = (rest.length + fuel) + 1 by omega]
    unfold stepOk at hc1
    have H := ih is (listed.setIfInBounds k true) (by simpa using hn) (fun j k' p a b => hl (j + 1) k' p (by simpa using a) (by simpa using b)) hc2
    by_cases he : ks.getD k .eff = .eff
    · refine ⟨fun h => ?_, fun i hi oi hoi => ?_⟩
      · simp only [he] at hc1; rw [h] at hc1; simp at hc1
      · simp only [he] at hc1
        have hr : Region.ready .any ops.toArray listed = [k] := by simpa using hc1
        rw [hr] at hi
        have hik : i = k := by simpa using hi
        subst hik
        rw [h0] at hoi; cases hoi
        refine ⟨hd, .inr ⟨hg, ?_⟩⟩
        rw [he]
        exact (hq.any L).op H
    · refine quiet k _ listed hd h0 he (.inl ⟨hg, ?_⟩) hc1 H
      cases hk' : ks.getD k .eff <;> first | exact hq | exact hq.any L
  | @read o kd rest st L x hd hg hne hq _ ih =>
    intro is listed hn hl hc
    obtain ⟨k, is, rfl⟩ : ∃ k is', is = k :: is' := by
      cases is with
      | nil => simp at hn
      | cons k is => exact ⟨k, is, rfl⟩
    obtain ⟨h0, hk0⟩ := hl 0 k _ rfl rfl
    simp only at h0 hk0
    obtain ⟨hc1, hc2⟩ := chkP_cons hc
    rw [List.length_cons, show rest.length + 1 + fuel = (rest.length + fuel) + 1 by omega]
    unfold stepOk at hc1
    have H := ih is (listed.setIfInBounds k true) (by simpa using hn) (fun j k' p a b => hl (j + 1) k' p (by simpa using a) (by simpa using b)) hc2
    by_cases he : ks.getD k .eff = .eff
    · refine ⟨fun h => ?_, fun i hi oi hoi => ?_⟩
      · simp only [he] at hc1; rw [h] at hc1; simp at hc1
      · simp only [he] at hc1
        have hr : Region.ready .any ops.toArray listed = [k] := by simpa using hc1
        rw [hr] at hi
        have hik : i = k := by simpa using hi
        subst hik
        rw [h0] at hoi; cases hoi
        refine ⟨hd, .inr ⟨hg, ?_⟩⟩
        rw [he]
        exact hq.op H
    · refine quiet k _ listed hd h0 he (.inl ⟨hg, ?_⟩) hc1 H
      rw [hk0] at hne
      cases hk' : ks.getD k .eff with
      | pure => exact absurd hk' hne
      | eff => exact absurd hk' he
      | read => exact hq
  | @eff o rest st L K hd hg hop _ ih =>
    intro is listed hn hl hc
    obtain ⟨k, is, rfl⟩ : ∃ k is', is = k :: is' := by
      cases is with
      | nil => simp at hn
      | cons k is => exact ⟨k, is, rfl⟩
    obtain ⟨h0, hk0⟩ := hl 0 k _ rfl rfl
    simp only at h0 hk0
    obtain ⟨hc1, hc2⟩ := chkP_cons hc
    rw [List.length_cons, show rest.length + 1 + fuel = (rest.length + fuel) + 1 by omega]
    unfold stepOk at hc1
    simp only [← hk0] at hc1
    have hr : Region.ready .any ops.toArray listed = [k] := by simpa using hc1
    refine ⟨fun h => ?_, fun i hi oi hoi => ?_⟩
    · rw [h] at hr; cases hr
    · rw [hr] at hi
      have hik : i = k := by simpa using hi
      subst hik
      rw [h0] at hoi; cases hoi
      refine ⟨hd, .inr ⟨hg, ?_⟩⟩
      rw [← hk0]
      refine hop.mono fun x L' hK => ?_
      exact ih x L' hK is (listed.setIfInBounds i true) (by simpa using hn) (fun j k' p a b => hl (j + 1) k' p (by simpa using a) (by simpa using b)) hc2
theorem AL_head {P : Program} {N : Nat} {ops : List Oper} {Q : St → Own → Prop} {o : Oper} {rest : List (Oper × Kd)} {st : St} {L : Own} (h : AL P N ops Q ((o, .eff) :: rest) st L) : AK P N ops .eff o (AL P N ops Q rest) st L := by
  cases h with
  | skip hd hg h => exact ⟨hd, .inl ⟨hg, h⟩⟩
  | pure hd hg hq h => exact ⟨hd, .inr ⟨hg, (hq.any L).op h⟩⟩
  | read hd hg hk hq h => exact ⟨hd, .inr ⟨hg, hq.op h⟩⟩
  | eff hd hg hop h => exact ⟨hd, .inr ⟨hg, hop.mono fun x L' hK => h x L' hK⟩⟩
inductive OT where
  | seg (is : List Nat)
  | br (is : List Nat) (a b : OT)
def OT.len : OT → Nat
  | .seg is => is.length
  | .br is a _ => is.length + a.len
def OT.hd : OT → Option Nat
  | .seg (k :: _) => some k
  | .br (k :: _) _ _ => some k
  | _ => none
def OT.all (n : Nat) : OT → Bool
  | .seg is => is.all fun i => Nat.blt i n
  | .br is a b => (is.all fun i => Nat.blt i n) && a.all n && b.all n
def chkF (ops : Array Oper) (ks : List Kd) (f : Bool) (is : List Nat) (listed : Array Bool) : Option (Array Bool) := match f, is with
  | true, k :: is => chkP ops ks is (listed.setIfInBounds k true)
  | true, [] => none
  | false, is => chkP ops ks is listed
def chkT (ops : Array Oper) (ks : List Kd) : Bool → OT → Array Bool → Bool
  | f, .seg is, listed => match chkF ops ks f is listed with
    | some li => (Region.ready .any ops li).isEmpty
    | none => false
  | f, .br is a b, listed => match chkF ops ks f is listed with
    | some li => match a.hd, b.hd with
      | some x, some y => (Region.ready .any ops li == [x, y]) && (ks.getD x .eff == .eff) && (ks.getD y .eff == .eff) && (a.len == b.len) && chkT ops ks true a li && chkT ops ks true b li
      | _, _ => false
    | none => false
def mkL (l : List Oper) (is : List Nat) : List (Oper × Kd) := is.filterMap fun i => match l[i]? with | some o => some (o, kdOf o.op) | none => none
def AT (P : Program) (N : Nat) (l : List Oper) (Q : St → Own → Prop) : OT → St → Own → Prop
  | .seg is, st, L => AL P N l Q (mkL l is) st L
  | .br is a b, st, L => AL P N l (fun st' L' => AT P N l Q a st' L' ∧ AT P N l Q b st' L') (mkL l is) st L
theorem at_seg {P : Program} {N : Nat} {l : List Oper} {Q : St → Own → Prop} {is : List Nat} {st : St} {L : Own} (h : AL P N l Q (mkL l is) st L) : AT P N l Q (.seg is) st L := h
theorem at_br {P : Program} {N : Nat} {l : List Oper} {Q : St → Own → Prop} {is : List Nat} {a b : OT} {st : St} {L : Own} (h : AL P N l (fun st' L' => AT P N l Q a st' L' ∧ AT P N l Q b st' L') (mkL l is) st L) : AT P N l Q (.br is a b) st L := h
theorem mkL_cons {l : List Oper} {i : Nat} {is : List Nat} {o : Oper} (h : l[i]? = some o) : mkL l (i :: is) = (o, kdOf o.op) :: mkL l is := by
  simp only [mkL, List.filterMap_cons, h]
theorem mkL_facts {l : List Oper} : ∀ {is : List Nat}, is.all (fun i => Nat.blt i l.length) = true → is.length = (mkL l is).length ∧ ∀ (j k : Nat) (p : Oper × Kd), is[j]? = some k → (mkL l is)[j]? = some p → l[k]? = some p.1 ∧ p.2 = (l.map fun o => kdOf o.op).getD k .eff
  | [], _ => ⟨rfl, fun j k p h => by simp at h⟩
  | i :: is, h => by
    simp only [List.all_cons, Bool.and_eq_true] at h
    have hi : i < l.length := by simpa [Nat.blt_eq] using h.1
    have e : l[i]? = some l[i] := List.getElem?_eq_getElem hi
    obtain ⟨h1, h2⟩ := mkL_facts h.2
    rw [mkL_cons e]
    refine ⟨by simp [h1], fun j k p hj hp => ?_⟩
    cases j with
    | zero =>
      simp at hj hp
      subst hj; subst hp
      exact ⟨e, by simp [List.getD_eq_getElem?_getD, e]⟩
    | succ j => exact h2 j k p (by simpa using hj) (by simpa using hp)
theorem AAny_tree {P : Program} {N : Nat} {l : List Oper} {Q : St → Own → Prop} : ∀ (t : OT) (listed : Array Bool) (st : St) (L : Own), t.all l.length = true → AT P N l Q t st L →
    (chkT l.toArray (l.map fun o => kdOf o.op) false t listed = true → AAny P N l (l.map fun o => kdOf o.op) Q t.len listed st L) ∧
    (∀ k o, chkT l.toArray (l.map fun o => kdOf o.op) true t listed = true → t.hd = some k → l[k]? = some o → kdOf o.op = .eff → ∃ m, t.len = m + 1 ∧ AK P N l .eff o (AAny P N l (l.map fun o => kdOf o.op) Q m (listed.setIfInBounds k true)) st L)
  | .seg is, listed, st, L, hall, h => by
    obtain ⟨f1, f2⟩ := mkL_facts hall
    simp only [AT] at h
    refine ⟨fun hc => ?_, fun k o hc hk ho hkd => ?_⟩
    · simp only [chkT, chkF] at hc
      split at hc
      · rename_i li hli
        have := AAny_pre (ks := l.map fun o => kdOf o.op) (Q := Q) (fuel := 0) (li := li) h (fun st L hq => ⟨by simpa using hc, hq⟩) is listed f1 f2 hli
        rw [← f1] at this
        exact this
      · cases hc
    · cases is with
      | nil => cases hk
      | cons k' is =>
        simp only [OT.hd, Option.some.injEq] at hk
        subst hk
        simp only [chkT, chkF] at hc
        simp only [OT.all, List.all_cons, Bool.and_eq_true] at hall
        obtain ⟨g1, g2⟩ := mkL_facts hall.2
        rw [mkL_cons ho, hkd] at h
        split at hc
        · rename_i li hli
          refine ⟨is.length, rfl, (AL_head h).mono fun st' L' h' => ?_⟩
          have := AAny_pre (ks := l.map fun o => kdOf o.op) (Q := Q) (fuel := 0) (li := li) h' (fun st L hq => ⟨by simpa using hc, hq⟩) is _ g1 g2 hli
          rw [← g1] at this
          exact this
        · cases hc
  | .br is a b, listed, st, L, hall, h => by
    simp only [OT.all, Bool.and_eq_true] at hall
    obtain ⟨⟨hall1, ha⟩, hb⟩ := hall
    obtain ⟨f1, f2⟩ := mkL_facts hall1
    simp only [AT] at h
    have part : ∀ (li : Array Bool), (match a.hd, b.hd with
      | some x, some y => (Region.ready .any l.toArray li == [x, y]) && ((l.map fun o => kdOf o.op).getD x .eff == .eff) && ((l.map fun o => kdOf o.op).getD y .eff == .eff) && (a.len == b.len) && chkT l.toArray (l.map fun o => kdOf o.op) true a li && chkT l.toArray (l.map fun o => kdOf o.op) true b li
      | _, _ => false) = true → ∀ st' L', AT P N l Q a st' L' ∧ AT P N l Q b st' L' → AAny P N l (l.map fun o => kdOf o.op) Q a.len li st' L' := by
      intro li hc st' L' ⟨hA, hB⟩
      split at hc
      · rename_i x y hx hy
        simp only [Bool.and_eq_true, beq_iff_eq] at hc
        obtain ⟨⟨⟨⟨⟨c1, c2⟩, c3⟩, c4⟩, c5⟩, c6⟩ := hc
        have kd : ∀ (z : Nat) (o : Oper), l[z]? = some o → (l.map fun o => kdOf o.op).getD z .eff = kdOf o.op := fun z o hz => by simp [List.getD_eq_getElem?_getD, hz]
        have hlen : ∃ m, a.len = m + 1 := by
          cases a with
          | seg is => cases is with
            | nil => cases hx
            | cons k is => exact ⟨is.length, rfl⟩
          | br is a b => cases is with
            | nil => cases hx
            | cons k is => exact ⟨is.length + a.len, by simp only [OT.len, List.length_cons]; omega⟩
        obtain ⟨m, hm⟩ := hlen
        rw [hm]
        refine ⟨fun hr => (by rw [hr] at c1; cases c1), fun i hi o ho => ?_⟩
        rw [c1] at hi
        rw [kd i o ho]
        rcases List.mem_cons.1 hi with rfl | hi
        · have hk : kdOf o.op = .eff := by rw [← kd i o ho]; exact c2
          obtain ⟨m', e1, e2⟩ := (AAny_tree a li st' L' ha hA).2 i o c5 hx ho hk
          obtain rfl : m = m' := by omega
          rw [hk]; exact e2
        · obtain rfl : i = y := by simpa using hi
          have hk : kdOf o.op = .eff := by rw [← kd i o ho]; exact c3
          obtain ⟨m', e1, e2⟩ := (AAny_tree b li st' L' hb hB).2 i o c6 hy ho hk
          obtain rfl : m = m' := by omega
          rw [hk]; exact e2
      · cases hc
    refine ⟨fun hc => ?_, fun k o hc hk ho hkd => ?_⟩
    · simp only [chkT, chkF] at hc
      split at hc
      · rename_i li hli
        have := AAny_pre (ks := l.map fun o => kdOf o.op) (Q := Q) (fuel := a.len) (li := li) h (part li hc) is listed f1 f2 hli
        rw [← f1] at this
        exact this
      · cases hc
    · cases is with
      | nil => cases hk
      | cons k' is =>
        simp only [OT.hd, Option.some.injEq] at hk
        subst hk
        simp only [chkT, chkF] at hc
        simp only [List.all_cons, Bool.and_eq_true] at hall1
        obtain ⟨g1, g2⟩ := mkL_facts hall1.2
        rw [mkL_cons ho, hkd] at h
        split at hc
        · rename_i li hli
          refine ⟨is.length + a.len, by simp only [OT.len, List.length_cons]; omega, (AL_head h).mono fun st' L' h' => ?_⟩
          have := AAny_pre (ks := l.map fun o => kdOf o.op) (Q := Q) (fuel := a.len) (li := li) h' (part li hc) is _ g1 g2 hli
          rw [← g1] at this
          exact this
        · cases hc
theorem a_regT {P : Program} {N : Nat} {Q : Exit → St → Own → Prop} {st : St} {L : Own} {id : Nat} {l : List Oper} (t : OT) (hm : P.follows .mixedOrders = true) (hlen : t.len = l.length) (hin : t.all l.length = true)
    (hc : chkT l.toArray (l.map fun o => kdOf o.op) false t (Array.replicate l.length false) = true)
    (h : AT P N l (fun st' L' => Q .normal st' L') t st L) : AWp P N (.region id l.toArray true) Q st L :=
  ⟨fun σ F w a hr ht => wp_region_any hm (by
    have h1 := (AAny_tree t (Array.replicate l.length false) st L hin h).1 hc
    rw [hlen] at h1
    have := AAny_wp (F := F) (Q' := Post σ N F Q) l.length _ st L σ a { w with drawn := w.drawn + 1 } h1 (hr.grow (fun _ _ => rfl) rfl rfl) ht (fun τ st' L' a' w' a1 a2 a3 a4 => ⟨τ, st', L', a1, a2, a3, a4⟩)
    simpa using this)⟩
theorem zfb {P : Program} {N : Nat} {c : Code} {Q : Exit → St → Own → Prop} {l : List (Nat × AV)} {L : Own} (i t : Nat) {v : Value} {cells : List AV} (hL : L[i]? = some (v, .box cells)) (ht : lk l t = .pt v 0 0 0)
    (k : AWp P N c Q (lk ((t, .ip cells) :: l)) (L.eraseIdx i)) : AWp P N c Q (lk l) L :=
  ⟨fun σ F w a hr htr => by
    have h := hr.at hL
    obtain ⟨b, c0, E, hv, hb, hcs⟩ := h.own (v, .box cells) (by simp)
    have hblk : blk v = some b := by rw [hv]; rfl
    have hap := h.apart b (List.mem_filterMap.2 ⟨(v, .box cells), by simp, hblk⟩)
    have hfb : frz σ w v b = some (.cells c0 E (0, 0)) := by simp only [frz, hap.1, if_pos hblk]; exact hb
    have hnd := h.nodup
    have e : ((v, OB.box cells) :: L.eraseIdx i).filterMap (blk ∘ Prod.fst) = b :: (L.eraseIdx i).filterMap (blk ∘ Prod.fst) := by simp [hblk]
    rw [e] at hnd
    have h1 : HRel (frz σ w v) (L.eraseIdx i) F w := by
      refine ⟨fun j o hj => ?_, h.frame, h.os, h.out, fun p hp => (h.own p (List.mem_cons_of_mem _ hp)).mono (frz_le σ w v), fun j o hj => ?_, (List.nodup_cons.1 hnd).2, fun j hj => ?_⟩
      · simp only [frz] at hj
        split at hj
        · rename_i o' ho
          cases hj
          exact h.agree j o ho
        · split at hj
          · exact hj
          · cases hj
      · simp only [frz] at hj
        split at hj
        · rename_i o' ho
          exact h.sep j o' ho
        · split at hj
          · rename_i hvj
            rw [hblk] at hvj
            cases hvj
            exact hap.2
          · cases hj
      · have h5 := h.apart j (by rw [e]; exact List.mem_cons_of_mem _ hj)
        refine ⟨?_, h5.2⟩
        simp only [frz, h5.1]
        rw [if_neg]
        intro hvj
        rw [hblk] at hvj
        cases hvj
        exact (List.nodup_cons.1 hnd).1 hj
    have h2 : VR (frz σ w v) (.ip cells) v := by
      refine (congrArg (fun z => VR (frz σ w v) (.ip cells) z) hv).mpr ?_
      refine .ip cells b 0 c0 E (0, 0) (fun j => c0.getD j undef) hfb (fun j x hx => ?_) (fun j x hx => ?_)
      · obtain ⟨y, hy, _⟩ := hcs.get hx
        simp at hy
        simp [Array.getD_eq_getD_getElem?, hy]
      · obtain ⟨y, hy, hxy⟩ := hcs.get hx
        simp at hy
        simpa [Array.getD_eq_getD_getElem?, hy] using hxy.mono (frz_le σ w v)
    have htr' : TR (frz σ w v) N (lk ((t, .ip cells) :: l)) a := by
      refine ⟨htr.defers, htr.size, fun j => ?_⟩
      have hj := (htr.vals j).mono (frz_le σ w v)
      simp only [lk]
      cases e : Nat.beq t j with
      | false => exact hj
      | true =>
        obtain rfl := Nat.eq_of_beq_eq_true e
        rw [ht] at hj
        have : a.tmps.getD t undef = v := by
          generalize a.tmps.getD t undef = u at hj
          cases hj with
          | pt _ _ _ _ b' hb' =>
            rw [hblk] at hb'
            cases hb'
            rw [hv]
        rw [this]
        exact h2
    exact wp_mono (k.out _ F w a h1 htr') fun e a' w' hp => hp.le (frz_le σ w v)⟩
end Go.Sj
namespace Go.Sj
theorem subV_zero {σ : Hp} {w : World} {v : Value} {E sz : Nat} {es : List (List AV)} (h : Own1 σ w (v, .row E sz es)) : subV v sz 0 es.length = v := by
  obtain ⟨a, cap, hv, _⟩ := own_row_val h
  rw [hv]
  simp only [subV, Nat.zero_mul, Nat.sub_zero]
  by_cases hc : cap = 0
  · rw [if_pos hc]
  · rw [if_neg hc]
    have : (a.map (·.add 0)) = a := by cases a <;> simp [Addr.add]
    rw [this]
theorem own_copy {P : Program} {σ : Hp} {w : World} {v u : Value} {E sz : Nat} {es es2 : List (List AV)} {t ty : TypeId} {d : TD} {a : Nat} (h : Own1 σ w (v, .row E sz es)) (hs : SrcA σ w u sz es2) (ht : P.underlying t = some (.slice E)) (hd : TI P E d) (hsz : sz = d.size) (hpos : 0 < d.size)
    (hcell : es2.all (fun e => e.all AV.cell) = true) (ha : a ≤ es.length) (m : Nat) (hm : m = min es2.length (es.length - a)) :
    ∃ w', (Builtin.copy_ #[t, t] ty #[subV v sz a es.length, u]).run P w = .ok (.int .i64 m) w' ∧ Own1 σ w' (v, .row E sz (es.take a ++ es2.take m ++ es.drop (a + m))) ∧ w.heap.size ≤ w'.heap.size ∧ (∀ i, i < w.heap.size → some i ≠ blk v → w'.heap[i]? = w.heap[i]?) ∧ w'.os = w.os ∧ w'.output = w.output := by
  obtain ⟨au, cu, hu, hsrc⟩ := hs
  obtain ⟨av, cv, hv, hcv⟩ := own_row_val h
  have hszr := hd.sizeOf_run
  by_cases h0 : m = 0
  · subst h0
    refine ⟨w, ?_, ?_, Nat.le_refl _, fun _ _ _ => rfl, rfl, rfl⟩
    · have hmin : Nat.min es2.length (es.length - a) = 0 := hm.symm
      rw [hu, hv]
      simp only [subV]
      cases au <;> (
        simp only [Builtin.copy_, Sem.run_bind, run_underlying ht, Builtin.lenOf, Sem.run_pure, Result.andThen_ok, hszr, Builtin.firstCells, hmin, Nat.zero_mul, List.getElem?_toArray, List.getElem?_cons_zero, List.getElem?_cons_succ, loadCells, loadCellsFrom]
        split <;> simp [storeCells, goInt])
    · have : es.take a ++ es2.take 0 ++ es.drop (a + 0) = es := by simp
      rw [this]; exact h
  · have hm1 : m ≤ es2.length := by omega
    have hm2 : a + m ≤ es.length := by omega
    have hne2 : es2 ≠ [] := fun e => by subst e; simp at hm1; omega
    have hne : es ≠ [] := fun e => by subst e; simp at hm2; omega
    obtain ⟨ad, news, rfl, hnl, hnews, hnr, hl2⟩ := hsrc hne2
    obtain ⟨g, cap, cur, hv2, hc0, hg, hncap, hcm, hcs, hl, hvr⟩ := own_row_cells h hne
    rw [hv] at hv2
    cases hv2
    subst hsz
    have hone : ∀ x ∈ news.take (m * d.size), x.oneCell' = true := fun x hx => hnr.oneCell (by
      rw [List.all_eq_true]
      intro y hy
      obtain ⟨e, he, hye⟩ := List.mem_flatten.1 hy
      exact List.all_eq_true.1 (List.all_eq_true.1 hcell e he) y hye) x (List.mem_of_mem_take hx)
    have hml : m * d.size ≤ news.length := by rw [hnl]; exact Nat.mul_le_mul_right _ hm1
    have hload : (loadCells ad (m * d.size)).run P w = .ok (news.take (m * d.size)).toArray w := by
      have := run_loadCells_list (P := P) w ad (news.take (m * d.size)) (fun j x hx => hnews j x (by
        rw [List.getElem?_take] at hx
        split at hx
        · exact hx
        · cases hx))
      simpa [loadCells, List.length_take, Nat.min_eq_left hml] using this
    have hfit : a * d.size + (news.take (m * d.size)).length ≤ cur.size := by
      rw [List.length_take, Nat.min_eq_left hml, hcs, ← Nat.add_mul]
      exact Nat.mul_le_mul_right _ (by omega)
    have hst := run_storeCells_at P g (a * d.size) E (news.take (m * d.size)) 0 cur w hg (by simpa using hfit) hone
    simp only [Nat.add_zero] at hst
    have hadd : (⟨g, 0, none⟩ : Addr).add (a * d.size) = ⟨g, a * d.size, none⟩ := by unfold Addr.add; split <;> simp_all
    have hmin : Nat.min es2.length (es.length - a) = m := hm.symm
    refine ⟨w.setRow g (cur.toList.take (a * d.size) ++ news.take (m * d.size) ++ cur.toList.drop (a * d.size + (news.take (m * d.size)).length)).toArray, ?_, ?_, by simp, fun q hq hne => setRow_other w g q _ (fun e => hne (by rw [hv, e]; simp [blk]; omega)), rfl, rfl⟩
    · rw [hu, hv]
      simp only [subV, if_neg (show ¬ cv = a by omega), Option.map_some, hadd]
      simp only [Builtin.copy_, Sem.run_bind, run_underlying ht, Builtin.lenOf, Sem.run_pure, Result.andThen_ok, hszr, Builtin.firstCells, hmin, List.getElem?_toArray, List.getElem?_cons_zero, List.getElem?_cons_succ, hload, hst, goInt]
    · have hw := setRow_heap w g cur (cur.toList.take (a * d.size) ++ news.take (m * d.size) ++ cur.toList.drop (a * d.size + (news.take (m * d.size)).length)).toArray E _ hg
      have hnew : ∀ e ∈ es.take a ++ es2.take m ++ es.drop (a + m), e.length = d.size := fun e he => by
        rcases List.mem_append.1 he with he | he
        · rcases List.mem_append.1 he with he | he
          · exact hl e (List.mem_of_mem_take he)
          · exact hl2 e (List.mem_of_mem_take he)
        · exact hl e (List.mem_of_mem_drop he)
      have hlen : (es.take a ++ es2.take m ++ es.drop (a + m)).length = es.length := by simp; omega
      have hfl : es.flatten.length = es.length * d.size := flatten_len hl
      have hfit2 : es.length * d.size ≤ cur.size := by rw [hcs]; exact Nat.mul_le_mul_right _ hncap
      refine ⟨_, .inr ⟨g, cv, _, by rw [hv, hlen], hc0, hw, by rw [hlen]; exact hncap, hcm, ?_, rfl⟩, hnew, ?_⟩
      · simp only [List.size_toArray, List.length_append, List.length_take, List.length_drop, Array.length_toList]
        rw [List.length_take] at hfit
        omega
      · rw [hlen]
        have e3 := splice_take cur.toList (news.take (m * d.size)) (a * d.size) (es.length * d.size) (by
          rw [List.length_take, Nat.min_eq_left hml, ← Nat.add_mul]; exact Nat.mul_le_mul_right _ hm2) (by simpa using hfit2)
        simp only [List.toList_toArray]
        rw [e3, List.length_take, Nat.min_eq_left hml, ← Nat.add_mul]
        have f1 : (es.take a ++ es2.take m ++ es.drop (a + m)).flatten = es.flatten.take (a * d.size) ++ es2.flatten.take (m * d.size) ++ es.flatten.drop ((a + m) * d.size) := by
          rw [List.flatten_append, List.flatten_append, ← flatten_take hl ha, ← flatten_take hl2 hm1]
          congr 1
          have h5 := List.take_append_drop (a + m) es
          have h6 : es.flatten = (es.take (a + m)).flatten ++ (es.drop (a + m)).flatten := by rw [← List.flatten_append, h5]
          rw [h6, show (a + m) * d.size = (es.take (a + m)).flatten.length from (flatten_take_len hl hm2).symm, List.drop_left]
        rw [f1]
        exact ((hvr.take _).append (hnr.take _)).append (hvr.drop _)
section
variable {P : Program} {N : Nat} {ops : List Oper} {Q : St → Own → Prop} {L : Own} {rest : List (Oper × Kd)} {l : List (Nat × AV)} {k : Kd} {q : Nat}
theorem s_copyIm {tt : List (TypeId × TD)} (ok : TOK P tt) (i : Nat) {o : Oper} {T : TypeId} {x y : Operand} {E s1 b1 : Nat} {z1 : List Value} {d : TD} {sz : Nat} {v : Value} {es es2 : List (List AV)} (m : Nat) (ho : o.op = .call ⟨.builtin .copy, #[x, y], #[T, T]⟩) (hdst : o.dst = some q) (hd : Nat.blt q N = true) (hg : guardA ops o (lk l) = some true)
    (hT : lkT tt T = some ⟨.slice E, s1, b1, z1⟩) (hE : lkT tt E = some d) (hpos : 0 < d.size) (hx : ev (lk l) x = .lit v) (hL : L[i]? = some (v, .row E sz es)) (hs : sz = d.size) (hy : ev (lk l) y = .im sz es2)
    (hcell : es2.all (fun e => e.all AV.cell) = true) (hm : m = min es2.length es.length)
    (nx : AL P N ops Q rest (lk ((q, .lit (.int .i64 m)) :: l)) (L.set i (v, .row E sz (es2.take m ++ es.drop m)))) : AL P N ops Q ((o, .eff) :: rest) (lk l) L := by
  obtain ⟨dst, op', ty, pos, after, g⟩ := o
  simp only at ho
  subst ho
  refine s_eff (fun x M => x = .lit (.int .i64 m) ∧ M = L.set i (v, .row E sz (es2.take m ++ es.drop m))) hdst hd hg ⟨fun σ F w ρ hR hρ => ?_⟩ (fun x M ⟨e1, e2⟩ => by rw [e1, e2]; exact nx)
  have e1 := hρ x (by simp [Op.operands, Call.operands])
  have e2 := hρ y (by simp [Op.operands, Call.operands])
  rw [hx] at e1
  rw [hy] at e2
  have hu := (ok _ _ hT).slice rfl
  have hown := hR.own1 hL
  obtain ⟨w', hr, ho2, h1, h2, h3, h4⟩ := own_copy (P := P) (t := T) (ty := ty) (a := 0) hown (SrcA.im hR.agree e2) hu (ok _ _ hE) hs hpos hcell (Nat.zero_le _) m (by rw [Nat.sub_zero]; exact hm)
  rw [subV_zero hown] at hr
  simp only [List.take_zero, List.nil_append, Nat.zero_add] at ho2
  have hrun : (execOp ρ ⟨dst, .call ⟨.builtin .copy, #[x, y], #[T, T]⟩, ty, pos, after, g⟩).run P w = .ok (.value (.int .i64 m)) w' := by
    simp [execOp, resolve, invoke, builtin, e1.lit_inv, hr]
  rw [hrun]
  exact ⟨σ, _, _, σ.le_refl, hR.writeAt hL h1 h2 h3 h4 (fun b hb => .inl hb) ho2, .lit _, rfl, rfl⟩
theorem s_copyOwn {tt : List (TypeId × TD)} (ok : TOK P tt) (i : Nat) {o : Oper} {T : TypeId} {x y : Operand} {E s1 b1 : Nat} {z1 : List Value} {d : TD} {sz a b n : Nat} {v : Value} {es : List (List AV)} (m : Nat) (ho : o.op = .call ⟨.builtin .copy, #[x, y], #[T, T]⟩) (hdst : o.dst = some q) (hd : Nat.blt q N = true) (hg : guardA ops o (lk l) = some true)
    (hT : lkT tt T = some ⟨.slice E, s1, b1, z1⟩) (hE : lkT tt E = some d) (hpos : 0 < d.size) (hx : ev (lk l) x = .lit (subV v sz a n)) (hL : L[i]? = some (v, .row E sz es)) (hn : n = es.length) (hs : sz = d.size) (hy : ev (lk l) y = .lit (subV v sz 0 b)) (ha : a ≤ es.length) (hb : b ≤ es.length)
    (hcell : es.all (fun e => e.all AV.cell) = true) (hm : m = min b (es.length - a))
    (nx : AL P N ops Q rest (lk ((q, .lit (.int .i64 m)) :: l)) (L.set i (v, .row E sz (es.take a ++ es.take m ++ es.drop (a + m))))) : AL P N ops Q ((o, .eff) :: rest) (lk l) L := by
  obtain ⟨dst, op', ty, pos, after, g⟩ := o
  simp only at ho
  subst ho
  subst hn
  refine s_eff (fun x M => x = .lit (.int .i64 m) ∧ M = L.set i (v, .row E sz (es.take a ++ es.take m ++ es.drop (a + m)))) hdst hd hg ⟨fun σ F w ρ hR hρ => ?_⟩ (fun x M ⟨e1, e2⟩ => by rw [e1, e2]; exact nx)
  have e1 := hρ x (by simp [Op.operands, Call.operands])
  have e2 := hρ y (by simp [Op.operands, Call.operands])
  rw [hx] at e1
  rw [hy] at e2
  have hu := (ok _ _ hT).slice rfl
  have hown := hR.own1 hL
  have hsrc : SrcA σ w (subV v sz 0 b) sz (es.take b) := by
    obtain ⟨av, cap, hv, hsr⟩ := SrcA.own hown
    obtain ⟨av', cap', hv', hcap⟩ := own_row_val hown
    rw [hv] at hv'
    cases hv'
    have hlb : (es.take b).length = b := by rw [List.length_take]; omega
    refine ⟨av, cap, ?_, fun hne => ?_⟩
    · rw [hv, hlb]
      simp only [subV, Nat.zero_mul, Nat.sub_zero]
      by_cases hc : cap = 0
      · rw [if_pos hc]
      · rw [if_neg hc]
        have : (av.map (·.add 0)) = av := by cases av <;> simp [Addr.add]
        rw [this]
    · have hne' : es ≠ [] := fun e => hne (by rw [e]; simp)
      obtain ⟨ad, news, e3, e4, e5, e6, e7⟩ := hsr hne'
      refine ⟨ad, news.take (b * sz), e3, ?_, fun j x hx => e5 j x ?_, ?_, fun e he => e7 e (List.mem_of_mem_take he)⟩
      · rw [List.length_take, hlb, e4]; exact Nat.min_eq_left (Nat.mul_le_mul_right _ hb)
      · rw [List.getElem?_take] at hx
        split at hx
        · exact hx
        · cases hx
      · rw [← flatten_take e7 hb]
        exact e6.take _
  obtain ⟨w', hr, ho2, h1, h2, h3, h4⟩ := own_copy (P := P) (t := T) (ty := ty) (a := a) hown hsrc hu (ok _ _ hE) hs hpos (by
    rw [List.all_eq_true] at hcell ⊢
    exact fun e he => hcell e (List.mem_of_mem_take he)) ha m (by rw [List.length_take, Nat.min_eq_left hb]; exact hm)
  have hmb : m ≤ b := by omega
  rw [List.take_take, Nat.min_eq_left hmb] at ho2
  have hrun : (execOp ρ ⟨dst, .call ⟨.builtin .copy, #[x, y], #[T, T]⟩, ty, pos, after, g⟩).run P w = .ok (.value (.int .i64 m)) w' := by
    simp [execOp, resolve, invoke, builtin, e1.lit_inv, e2.lit_inv, hr]
  rw [hrun]
  exact ⟨σ, _, _, σ.le_refl, hR.writeAt hL h1 h2 h3 h4 (fun b hb => .inl hb) ho2, .lit _, rfl, rfl⟩
theorem s_and32 {o : Oper} {T T' : TypeId} {x y : Operand} {a : Int} (ho : o.op = .binOp .and T x y T') (hdst : o.dst = some q) (hd : Nat.blt q N = true) (hg : guardA ops o (lk l) = some true)
    (hx : ev (lk l) x = .lit (.int .u64 a)) (hy : ev (lk l) y = .lit (.int .u64 4294967295)) (h : 0 ≤ a ∧ a < 4294967296)
    (n : AL P N ops Q rest (lk ((q, .lit (.int .u64 a)) :: l)) L) : AL P N ops Q ((o, k) :: rest) (lk l) L := by
  obtain ⟨dst, op', ty, pos, after, g⟩ := o
  simp only at ho
  subst ho
  refine s_pure hdst hd hg ⟨fun σ F w ρ hR hρ => ⟨.int .u64 a, ?_, .lit _⟩⟩ n
  have h1 := hρ x (by simp [Op.operands])
  have h2 := hρ y (by simp [Op.operands])
  rw [hx] at h1
  rw [hy] at h2
  obtain ⟨m, rfl⟩ : ∃ m : Nat, a = m := ⟨a.toNat, by omega⟩
  have hb : ((BitVec.ofNat 64 m &&& 4294967295#64).toNat : Int) = m := by
    rw [BitVec.toNat_and]
    have e1 : (BitVec.ofNat 64 m).toNat = m := by
      rw [BitVec.toNat_ofNat]; omega
    have e2 : (4294967295#64).toNat = 2 ^ 32 - 1 := by decide
    rw [e1, e2, Nat.and_two_pow_sub_one_eq_mod, Nat.mod_eq_of_lt (by omega)]
  have hw : IntKind.u64.wrap (m : Int) = m := IntWalk.u64_in _ (by omega)
  simp [execOp, h1.lit_inv, h2.lit_inv, eqGuard, binOp, Op.intArith, Op.intBits, IntKind.bits]
  exact (congrArg IntKind.u64.wrap hb).trans hw
theorem s_shr32 {o : Oper} {T T' : TypeId} {x y : Operand} {k2 : IntKind} {a : Int} (ho : o.op = .binOp .shr T x y T') (hdst : o.dst = some q) (hd : Nat.blt q N = true) (hg : guardA ops o (lk l) = some true)
    (hx : ev (lk l) x = .lit (.int .u64 a)) (hy : ev (lk l) y = .lit (.int k2 32)) (h : 0 ≤ a ∧ a < 4294967296)
    (n : AL P N ops Q rest (lk ((q, .lit (.int .u64 0)) :: l)) L) : AL P N ops Q ((o, k) :: rest) (lk l) L := by
  obtain ⟨dst, op', ty, pos, after, g⟩ := o
  simp only at ho
  subst ho
  refine s_pure hdst hd hg ⟨fun σ F w ρ hR hρ => ⟨.int .u64 0, ?_, .lit _⟩⟩ n
  have h1 := hρ x (by simp [Op.operands])
  have h2 := hρ y (by simp [Op.operands])
  rw [hx] at h1
  rw [hy] at h2
  obtain ⟨m, rfl⟩ : ∃ m : Nat, a = m := ⟨a.toNat, by omega⟩
  have hb : (m : Int).fdiv (2 ^ (min 32 IntKind.u64.bits)) = 0 := by
    show (m : Int).fdiv (2 ^ 32) = 0
    rw [Int.fdiv_eq_ediv_of_nonneg _ (by decide)]
    omega
  simp [execOp, h1.lit_inv, h2.lit_inv, eqGuard, binOp, Op.shift, hb]
end
end Go.Sj
end
