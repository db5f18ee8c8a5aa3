/-
  An owned row, named by its place and by the temporary that holds it, changes no more; small helps for walks.
-/
import Derived.Test.YtebmopjobmjhmaaSjL
namespace Go.Sj
set_option linter.unusedVariables false

/-- The row at place i, held by temporary t, changes no more. -/
theorem a_frz {P : Program} {N : Nat} {c : Code} {Q : Exit → St → Own → Prop} {l : List (Nat × AV)} {L : Own} (i t : Nat) {v : Value} {E sz : Nat} {es : List (List AV)} (hL : L[i]? = some (v, .row E sz es)) (ht : lk l t = .lit v)
    (k : AWp P N c Q (lk ((t, .im sz es) :: l)) (L.eraseIdx i)) : AWp P N c Q (lk l) L :=
  ⟨fun σ F w a hr htr => by
    obtain ⟨h1, h2⟩ := (hr.at hL).freezeKeep
    have htr' : TR (frz σ w v) N (lk ((t, .im sz es) :: l)) a := by
      refine ⟨htr.defers, htr.size, fun j => ?_⟩
      have hj := (htr.vals j).mono (frz_le σ w v)
      simp only [lk]
      cases e : Nat.beq t j with
      | false => exact hj
      | true =>
        obtain rfl := Nat.eq_of_beq_eq_true e
        rw [ht] at hj
        rw [hj.lit_inv]
        exact h2
    exact wp_mono (k.out _ F w a h1 htr') fun e a' w' hp => hp.le (frz_le σ w v)⟩

/-- A part of a slice's value. -/
def subV (v : Value) (sz lo hi : Nat) : Value := match v with
  | .slice a n cap => .slice (if cap = lo then a else a.map (·.add (lo * sz))) (hi - lo) (cap - lo)
  | v => v
theorem FZ.part {v : Value} {sz : Nat} {es : List (List AV)} {lo hi : Nat} (h1 : lo ≤ hi) (h2 : hi ≤ es.length) : FZ v sz es (.lit (subV v sz lo hi)) (.im sz ((es.take hi).drop lo)) := fun τ u hv hx => by
  rw [hx.lit_inv]
  obtain ⟨a, cap, e, hc⟩ := VR.im_len hv
  rw [e] at hv ⊢
  exact hv.im_sub h1 h2 cap (by omega) (Nat.le_refl _)

/-- A callee that reads what never changes reads an owned row, or parts of it, as well, where what it gives leans on no memory. -/
theorem ACalls.lendZ {P : Program} {f : FuncId} {args args' : List AV} {v : Value} {E sz : Nat} {es : List (List AV)} {R : AV → Own → Prop} (h : ACalls P f args [] R) (hz : FZL v sz es args' args) (hfree : ∀ x M, R x M → Free x ∧ FreeO M) :
    ACalls P f args' [(v, .row E sz es)] fun x M => ∃ M', R x M' ∧ M = M' ++ [(v, .row E sz es)] :=
  ⟨h.ok, fun σ F w vs hr hvs => by
    have hown := hr.own (v, .row E sz es) (by simp)
    have hap : ∀ b, blk v = some b → σ b = none ∧ F.h b = none := fun b hb => hr.apart b (List.mem_filterMap.2 ⟨(v, .row E sz es), by simp, hb⟩)
    obtain ⟨h1, h2⟩ := hr.freeze (M := []) trivial
    have hargs : VRs (frz σ w v) args vs := hz.vrs h2 (hvs.mono (frz_le σ w v))
    refine (h.out (frz σ w v) F w vs h1 hargs).mono fun e w' ⟨u, he, τ, x, M, k1, k2, k3, k4⟩ => ?_
    obtain ⟨f1, f2⟩ := hfree x M k4
    -- what is known without the lent block
    let τ' : Hp := fun b => if blk v = some b then none else τ b
    have hle : σ.le τ' := fun b o hb => by
      have hne : blk v ≠ some b := fun e => by rw [(hap b e).1] at hb; cases hb
      show (if blk v = some b then none else τ b) = some o
      rw [if_neg hne]
      exact k1 b o (frz_le σ w v b o hb)
    have hsub : Hp.le τ' τ := fun b o hb => by
      by_cases hb' : blk v = some b
      · simp [τ', hb'] at hb
      · simpa [τ', hb'] using hb
    have hblock : ∀ b, blk v = some b → τ b = w.heap[b]? ∧ w'.heap[b]? = w.heap[b]? := fun b hb => by
      have hlt := hown.lt (v := v) hb
      have e0 : w.heap[b]? = some w.heap[b] := Array.getElem?_eq_getElem hlt
      have e1 : frz σ w v b = some w.heap[b] := by simp only [frz, (hap b hb).1, if_pos hb]; exact e0
      have e2 := k1 b _ e1
      exact ⟨by rw [e2, e0], by rw [e0]; exact k2.agree b _ e2⟩
    have hMb : ∀ b ∈ M.filterMap (blk ∘ Prod.fst), blk v ≠ some b := fun b hb e => by
      have h5 := (k2.apart b hb).1
      rw [(hblock b e).1] at h5
      have := hown.lt (v := v) e
      rw [Array.getElem?_eq_getElem this] at h5
      cases h5
    refine ⟨u, he, τ', x, M ++ [(v, .row E sz es)], hle, ⟨k2.agree.mono hsub, k2.frame, k2.os, k2.out, fun p hp => ?_, fun b o hb => k2.sep b o (hsub b o hb), ?_, fun b hb => ?_⟩, f1.move k3, M, k4, rfl⟩
    · rcases List.mem_append.1 hp with hp | hp
      · exact own_free (f2 p hp) (k2.own p hp)
      · simp at hp
        subst hp
        exact (hown.mono hle).kept fun b hb => (hblock b hb).2
    · rw [List.filterMap_append, List.nodup_append]
      refine ⟨k2.nodup, ?_, fun a ha b hb e => ?_⟩
      · cases hv : blk v <;> simp [hv]
      · subst e
        have : blk v = some a := by
          cases hv : blk v with
          | none => simp [hv] at hb
          | some c => simp [hv] at hb; rw [hb]
        exact hMb a ha this
    · rw [List.filterMap_append] at hb
      rcases List.mem_append.1 hb with hb | hb
      · refine ⟨?_, (k2.apart b hb).2⟩
        show (if blk v = some b then none else τ b) = none
        rw [if_neg (hMb b hb)]
        exact (k2.apart b hb).1
      · have hvb : blk v = some b := by
          cases hv : blk v with
          | none => simp [hv] at hb
          | some c => simp [hv] at hb; rw [hb]
        refine ⟨?_, (hap b hvb).2⟩
        show (if blk v = some b then none else τ b) = none
        rw [if_pos hvb]⟩


section
variable {P : Program} {N : Nat} {ops : List Oper} {Q : St → Own → Prop} {L : Own} {rest : List (Oper × Kd)} {l : List (Nat × AV)} {k : Kd} {q : Nat}

/-- 's[lo:hi]' of what is owned, only looked at. -/
theorem s_ownPart {tt : List (TypeId × TD)} (ok : TOK P tt) (i : Nat) {o : Oper} {T : TypeId} {x : Operand} {lo hi : Option Operand} {E0 s1 b1 : Nat} {z1 : List Value} {d : TD} {E sz : Nat} {v : Value} {es : List (List AV)} {a b : Nat}
    (ho : o.op = .slice T x lo hi none) (hdst : o.dst = some q) (hd : Nat.blt q N = true) (hg : guardA ops o (lk l) = some true) (hk : k ≠ .pure)
    (hT : lkT tt T = some ⟨.slice E0, s1, b1, z1⟩) (hE : lkT tt E0 = some d) (hx : ev (lk l) x = .lit v) (hL : L[i]? = some (v, .row E sz es)) (hs : sz = d.size)
    (hlo : match lo with | none => a = 0 | some y => ∃ kk, ev (lk l) y = .lit (.int kk a)) (hhi : match hi with | none => b = es.length | some y => ∃ kk, ev (lk l) y = .lit (.int kk b)) (hab : a ≤ b) (hb : b ≤ es.length)
    (n : AL P N ops Q rest (lk ((q, .lit (subV v sz a b)) :: l)) L) : AL P N ops Q ((o, k) :: rest) (lk l) L := by
  obtain ⟨dst, op', ty, pos, after, g⟩ := o
  simp only at ho
  subst ho
  subst hs
  refine s_read hdst hd hg hk ⟨fun σ F w ρ hR hρ => ⟨_, ?_, .lit _⟩⟩ n
  have h1 := hρ x (by simp [Op.operands])
  rw [hx] at h1
  obtain ⟨ad, cap, hv, hc⟩ := own_row_val (hR.own1 hL)
  have hu := (ok _ _ hT).slice rfl
  have hsz := (ok _ _ hE).sizeOf_run
  have hbnd : (Instr.sliceBounds true es.length cap (lo.map ρ) (hi.map ρ) none).run P w = .ok (a, b, cap) w := by
    have e2 : ∀ y, hi = some y → ∃ kk, ρ y = .int kk b := fun y hy => by
      subst hy
      obtain ⟨kk, hk⟩ := hhi
      have := hρ y (by simp [Op.operands])
      rw [hk] at this
      exact ⟨kk, this.lit_inv⟩
    have e1 : ∀ y, lo = some y → ∃ kk, ρ y = .int kk a := fun y hy => by
      subst hy
      obtain ⟨kk, hk⟩ := hlo
      have := hρ y (by simp [Op.operands])
      rw [hk] at this
      exact ⟨kk, this.lit_inv⟩
    have i1 : b ≤ cap := by omega
    cases lo with
    | none =>
      cases hi with
      | none => simp only at hlo hhi; subst hlo; subst hhi; simp [Instr.sliceBounds]
      | some y =>
        obtain ⟨kk, hk⟩ := e2 y rfl
        simp only at hlo; subst hlo
        simp [Instr.sliceBounds, hk, Instr.sliceBound, asIntOf, Int.ofNat_le, i1]
    | some z =>
      obtain ⟨kz, hz⟩ := e1 z rfl
      cases hi with
      | none => simp only at hhi; subst hhi; simp [Instr.sliceBounds, hz, Instr.sliceBound, asIntOf, hab]
      | some y =>
        obtain ⟨kk, hk⟩ := e2 y rfl
        simp [Instr.sliceBounds, hk, hz, Instr.sliceBound, asIntOf, i1, hab]
  simp only [execOp, h1.lit_inv, hv, Option.map_none, Instr.sliceAt, Sem.run_bind, run_underlying hu, Result.andThen_ok, Instr.slice, hbnd, hsz, Sem.run_pure, subV]
/-- The least of three numbers. -/
theorem s_min3 {o : Oper} {x y z : Operand} {tys : Array TypeId} {kk : IntKind} {a b c : Int} (ho : o.op = .call ⟨.builtin .min, #[x, y, z], tys⟩) (hdst : o.dst = some q) (hd : Nat.blt q N = true) (hg : guardA ops o (lk l) = some true)
    (hx : ev (lk l) x = .lit (.int kk a)) (hy : ev (lk l) y = .lit (.int kk b)) (hz : ev (lk l) z = .lit (.int kk c))
    (n : AL P N ops Q rest (lk ((q, .lit (.int kk (min (min a b) c))) :: l)) L) : AL P N ops Q ((o, k) :: rest) (lk l) L := by
  obtain ⟨dst, op', ty, pos, after, g⟩ := o
  simp only at ho
  subst ho
  refine s_pure hdst hd hg ⟨fun σ F w ρ hR hρ => ⟨.int kk (min (min a b) c), ?_, .lit _⟩⟩ n
  have h1 := hρ x (by simp [Op.operands, Call.operands])
  have h2 := hρ y (by simp [Op.operands, Call.operands])
  have h3 := hρ z (by simp [Op.operands, Call.operands])
  rw [hx] at h1
  rw [hy] at h2
  rw [hz] at h3
  simp [execOp, resolve, invoke, builtin, h1.lit_inv, h2.lit_inv, h3.lit_inv, Builtin.min_, Builtin.min2]
  omega
end
/-- Whether an order serves every order. -/
def chkO (ops : Array Oper) (ks : List Kd) : List Nat → Array Bool → Bool
  | [], listed => (Region.ready .any ops listed).isEmpty
  | k :: is, listed =>
    (match ks.getD k .eff with
      | .pure => (Region.ready .any ops listed).contains k && Region.free .any ops listed k
      | .read => (Region.ready .any ops listed).contains k && Region.free .any ops listed k &&
          (List.range ops.size).all fun j => j == k || listed.getD j true || ks.getD j .eff != .eff || (match ops[j]? with
            | some oj => oj.after.any (fun e => Region.binds .any e && e.on == k)
            | none => true)
      | .eff => Region.ready .any ops listed == [k]) &&
    chkO ops ks is (listed.setIfInBounds k true)

theorem AAny_ord {P : Program} {N : Nat} {ops : List Oper} {ks : List Kd} {Q : St → Own → Prop} {l : List (Oper × Kd)} {st : St} {L : Own} (h : AL P N ops Q l st L) :
    ∀ (is : List Nat) (listed : Array Bool), is.length = l.length → (∀ (j k : Nat) (p : Oper × Kd), is[j]? = some k → l[j]? = some p → ops[k]? = some p.1 ∧ p.2 = ks.getD k .eff) →
      chkO ops.toArray ks is listed = true → AAny P N ops ks Q l.length listed st L := by
  have quiet : ∀ {o : Oper} {kd : Kd} {rest : List (Oper × Kd)} {st : St} {L : Own} {x : AV} (k : Nat) (listed : Array Bool), (∀ d, o.dst = some d → d < N) → ops[k]? = some o → ks.getD k .eff ≠ .eff →
      YA P ops (ks.getD k .eff) o x st L → (match ks.getD k .eff with
      | .pure => (Region.ready .any ops.toArray listed).contains k && Region.free .any ops.toArray listed k
      | .read => (Region.ready .any ops.toArray listed).contains k && Region.free .any ops.toArray listed k &&
          (List.range ops.toArray.size).all fun j => j == k || listed.getD j true || ks.getD j .eff != .eff || (match ops.toArray[j]? with
            | some oj => oj.after.any (fun e => Region.binds .any e && e.on == k)
            | none => true)
      | .eff => Region.ready .any ops.toArray listed == [k]) = true →
      AAny P N ops ks Q rest.length (listed.setIfInBounds k true) (updO st o.dst x) L → AAny P N ops ks Q (rest.length + 1) listed st L := by
    intro o kd rest st L x k listed hd h0 hne hy hc H
    cases hk : ks.getD k .eff with
    | eff => exact absurd hk hne
    | pure =>
      simp only [hk, Bool.and_eq_true] at hc
      refine AAny_first h0 hne hd rest.length listed st L (fun j oj hj hjk hun hno => ⟨?_, .inl hk⟩) (by simpa using hc.1) hy H
      exact Region.free_spec (ops := ops.toArray) (by rw [List.getElem?_toArray]; exact h0) hc.2 j oj (by rw [List.getElem?_toArray]; exact hj) hjk hun hno
    | read =>
      simp only [hk, Bool.and_eq_true] at hc
      refine AAny_first h0 hne hd rest.length listed st L (fun j oj hj hjk hun hno => ⟨?_, .inr ?_⟩) (by simpa using hc.1.1) hy H
      · exact Region.free_spec (ops := ops.toArray) (by rw [List.getElem?_toArray]; exact h0) hc.1.2 j oj (by rw [List.getElem?_toArray]; exact hj) hjk hun hno
      · have h3 := List.all_eq_true.1 hc.2 j (List.mem_range.2 (by
          have := (List.getElem?_eq_some_iff.1 hj).1; simpa using this))
        simp only [List.getElem?_toArray, hj, Bool.or_eq_true, beq_iff_eq, hjk, false_or, hun, Bool.false_eq_true, bne_iff_ne] at h3
        rcases h3 with h3 | h3
        · exact h3
        · obtain ⟨e, he, hb⟩ := Array.any_eq_true'.1 h3
          simp only [Bool.and_eq_true, beq_iff_eq] at hb
          exact absurd hb.2 (hno e he hb.1)
  induction h with
  | nil hq =>
    intro is listed hn _ hc
    obtain rfl : is = [] := List.length_eq_zero_iff.1 hn
    exact ⟨by simpa [chkO] using hc, hq⟩
  | @skip o kd rest st L hd hg _ ih =>
    intro is listed hn hl hc
    obtain ⟨k, is, rfl⟩ : ∃ k is', is = k :: is' := by
      cases is with
      | nil => simp at hn
      | cons k is => exact ⟨k, is, rfl⟩
    obtain ⟨h0, hk0⟩ := hl 0 k _ rfl rfl
    simp only at h0 hk0
    simp only [List.length_cons, chkO, Bool.and_eq_true] at hc
    have H := ih is (listed.setIfInBounds k true) (by simpa using hn) (fun j k' p a b => hl (j + 1) k' p (by simpa using a) (by simpa using b)) hc.2
    by_cases he : ks.getD k .eff = .eff
    · refine ⟨fun h => ?_, fun i hi oi hoi => ?_⟩
      · simp only [he] at hc; rw [h] at hc; simp at hc
      · simp only [he] at hc
        have hr : Region.ready .any ops.toArray listed = [k] := by simpa using hc.1
        rw [hr] at hi
        have hik : i = k := by simpa using hi
        subst hik
        rw [h0] at hoi; cases hoi
        exact ⟨hd, .inl ⟨hg, H⟩⟩
    · exact quiet (kd := kd) k listed hd h0 he (.inr ⟨hg, rfl⟩) hc.1 H
  | @pure o kd rest st L x hd hg hq _ ih =>
    intro is listed hn hl hc
    obtain ⟨k, is, rfl⟩ : ∃ k is', is = k :: is' := by
      cases is with
      | nil => simp at hn
      | cons k is => exact ⟨k, is, rfl⟩
    obtain ⟨h0, hk0⟩ := hl 0 k _ rfl rfl
    simp only at h0 hk0
    simp only [List.length_cons, chkO, Bool.and_eq_true] at hc
    have H := ih is (listed.setIfInBounds k true) (by simpa using hn) (fun j k' p a b => hl (j + 1) k' p (by simpa using a) (by simpa using b)) hc.2
    by_cases he : ks.getD k .eff = .eff
    · refine ⟨fun h => ?_, fun i hi oi hoi => ?_⟩
      · simp only [he] at hc; rw [h] at hc; simp at hc
      · simp only [he] at hc
        have hr : Region.ready .any ops.toArray listed = [k] := by simpa using hc.1
        rw [hr] at hi
        have hik : i = k := by simpa using hi
        subst hik
        rw [h0] at hoi; cases hoi
        refine ⟨hd, .inr ⟨hg, ?_⟩⟩
        rw [he]
        exact (hq.any L).op H
    · refine quiet (kd := kd) k listed hd h0 he (.inl ⟨hg, ?_⟩) hc.1 H
      cases hk' : ks.getD k .eff <;> first | exact hq | exact hq.any L
  | @read o kd rest st L x hd hg hne hq _ ih =>
    intro is listed hn hl hc
    obtain ⟨k, is, rfl⟩ : ∃ k is', is = k :: is' := by
      cases is with
      | nil => simp at hn
      | cons k is => exact ⟨k, is, rfl⟩
    obtain ⟨h0, hk0⟩ := hl 0 k _ rfl rfl
    simp only at h0 hk0
    simp only [List.length_cons, chkO, Bool.and_eq_true] at hc
    have H := ih is (listed.setIfInBounds k true) (by simpa using hn) (fun j k' p a b => hl (j + 1) k' p (by simpa using a) (by simpa using b)) hc.2
    by_cases he : ks.getD k .eff = .eff
    · refine ⟨fun h => ?_, fun i hi oi hoi => ?_⟩
      · simp only [he] at hc; rw [h] at hc; simp at hc
      · simp only [he] at hc
        have hr : Region.ready .any ops.toArray listed = [k] := by simpa using hc.1
        rw [hr] at hi
        have hik : i = k := by simpa using hi
        subst hik
        rw [h0] at hoi; cases hoi
        refine ⟨hd, .inr ⟨hg, ?_⟩⟩
        rw [he]
        exact hq.op H
    · refine quiet (kd := kd) k listed hd h0 he (.inl ⟨hg, ?_⟩) hc.1 H
      rw [hk0] at hne
      cases hk' : ks.getD k .eff with
      | pure => exact absurd hk' hne
      | eff => exact absurd hk' he
      | read => exact hq
  | @eff o rest st L K hd hg hop _ ih =>
    intro is listed hn hl hc
    obtain ⟨k, is, rfl⟩ : ∃ k is', is = k :: is' := by
      cases is with
      | nil => simp at hn
      | cons k is => exact ⟨k, is, rfl⟩
    obtain ⟨h0, hk0⟩ := hl 0 k _ rfl rfl
    simp only at h0 hk0
    simp only [List.length_cons, chkO, Bool.and_eq_true, ← hk0] at hc
    have hr : Region.ready .any ops.toArray listed = [k] := by simpa using hc.1
    refine ⟨fun h => ?_, fun i hi oi hoi => ?_⟩
    · rw [h] at hr; cases hr
    · rw [hr] at hi
      have hik : i = k := by simpa using hi
      subst hik
      rw [h0] at hoi; cases hoi
      refine ⟨hd, .inr ⟨hg, ?_⟩⟩
      rw [← hk0]
      refine hop.mono fun x L' hK => ?_
      exact ih x L' hK is (listed.setIfInBounds i true) (by simpa using hn) (fun j k' p a b => hl (j + 1) k' p (by simpa using a) (by simpa using b)) hc.2


/-- A region in every order, walked in an order of our own. -/
theorem a_regO {P : Program} {N : Nat} {Q : Exit → St → Own → Prop} {st : St} {L : Own} {id : Nat} {l : List Oper} (is : List Nat) (hm : P.follows .mixedOrders = true) (hlen : is.length = l.length) (hin : is.all (fun i => Nat.blt i l.length) = true)
    (hc : chkO l.toArray (l.map fun o => kdOf o.op) is (Array.replicate l.length false) = true)
    (h : AL P N l (fun st' L' => Q .normal st' L') (is.filterMap fun i => match l[i]? with | some o => some (o, kdOf o.op) | none => none) st L) : AWp P N (.region id l.toArray true) Q st L :=
  ⟨fun σ F w a hr ht => wp_region_any hm (by
    have hget : ∀ (is : List Nat), is.all (fun i => Nat.blt i l.length) = true → ∀ j : Nat, (is.filterMap fun i => match l[i]? with | some o => some (o, kdOf o.op) | none => none)[j]? = (is[j]?).bind fun i => match l[i]? with | some o => some (o, kdOf o.op) | none => none := by
      intro is
      induction is with
      | nil => intro _ j; simp
      | cons i is ih =>
        intro hall j
        simp only [List.all_cons, Bool.and_eq_true] at hall
        have hi : i < l.length := by simpa [Nat.blt_eq] using hall.1
        have e : l[i]? = some l[i] := List.getElem?_eq_getElem hi
        rw [List.filterMap_cons]
        simp only [e]
        cases j with
        | zero => simp [e]
        | succ j => simpa using ih hall.2 j
    have hl2 : (is.filterMap fun i => match l[i]? with | some o => some (o, kdOf o.op) | none => none).length = l.length := by
      rw [← hlen]
      clear hc h hlen
      induction is with
      | nil => rfl
      | cons i is ih =>
        simp only [List.all_cons, Bool.and_eq_true] at hin
        have hi : i < l.length := by simpa [Nat.blt_eq] using hin.1
        have e : l[i]? = some l[i] := List.getElem?_eq_getElem hi
        rw [List.filterMap_cons]
        simp only [e, List.length_cons, ih hin.2]
    have h1 := AAny_ord (ks := l.map fun o => kdOf o.op) h is (Array.replicate l.length false) (by rw [hl2, hlen]) (fun j k p hj hp => by
      rw [hget is hin j, hj] at hp
      simp only [Option.bind_some] at hp
      cases e : l[k]? with
      | none => rw [e] at hp; cases hp
      | some o =>
        rw [e] at hp
        cases hp
        exact ⟨rfl, by simp [List.getD_eq_getElem?_getD, e]⟩) hc
    rw [hl2] at h1
    have := AAny_wp (F := F) (Q' := Post σ N F Q) l.length _ st L σ a { w with drawn := w.drawn + 1 } h1 (hr.grow (fun _ _ => rfl) rfl rfl) ht (fun τ st' L' a' w' a1 a2 a3 a4 => ⟨τ, st', L', a1, a2, a3, a4⟩)
    simpa using this)⟩
end Go.Sj
