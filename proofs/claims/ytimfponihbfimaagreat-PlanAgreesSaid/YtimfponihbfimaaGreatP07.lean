/- Parts of a proof. -/
import Derived.Laws.Runes
import Derived.Test.YtimfponihbfimaaGreatP06
set_option linter.unusedVariables false
set_option linter.unusedSimpArgs false
section
namespace Go.Sj
def byt (s : ByteArray) (i : Nat) : Int := ((s.data.toList.getD i 0).toNat : Nat)
theorem byt_rng (s : ByteArray) (i : Nat) : 0 ≤ byt s i ∧ byt s i ≤ 255 := by
  unfold byt
  have := (s.data.toList.getD i 0).toNat_lt
  omega
theorem byt_get {s : ByteArray} {i : Nat} (h : i < s.size) : ∃ b : UInt8, s[i]? = some b ∧ (b.toNat : Int) = byt s i := by
  refine ⟨s[i], by simp [h], ?_⟩
  unfold byt
  rw [List.getD_eq_getElem?_getD]
  have h' : i < s.data.size := h
  have : s.data.toList[i]? = some s[i] := by
    rw [Array.getElem?_toList, Array.getElem?_eq_getElem h']
    rfl
  rw [this]; rfl
theorem extract_list (s : ByteArray) (a b : Nat) : (s.extract a b).data.toList = (s.data.toList.take b).drop a := by
  simp [List.extract, List.take_drop]
  by_cases h : a ≤ b
  · rw [show a + (b - a) = b by omega]
  · rw [show a + (b - a) = a by omega, List.drop_of_length_le (by rw [List.length_take]; omega), List.drop_of_length_le (by rw [List.length_take]; omega)]
theorem size_list (s : ByteArray) : s.size = s.data.toList.length := by simp
theorem size_extract {s : ByteArray} {a b : Nat} (h : a ≤ b) (h2 : b ≤ s.size) : (s.extract a b).size = b - a := by
  rw [size_list, extract_list, List.length_drop, List.length_take, ← size_list]
  omega
section
variable {P : Program} {N : Nat} {ops : List Oper} {Q : St → Own → Prop} {L : Own} {rest : List (Oper × Kd)} {l : List (Nat × AV)} {k : Kd} {q : Nat}
theorem s_strIx {tt : List (TypeId × TD)} (ok : TOK P tt) {o : Oper} {T : TypeId} {x y : Operand} {s1 b1 : Nat} {z1 : List Value} {s : ByteArray} {kk : IntKind} {i : Int} (ho : o.op = .index T x y) (hdst : o.dst = some q) (hd : Nat.blt q N = true) (hg : guardA ops o (lk l) = some true)
    (hT : lkT tt T = some ⟨.str, s1, b1, z1⟩) (hx : ev (lk l) x = .lit (.string s)) (hy : ev (lk l) y = .lit (.int kk i)) (h0 : 0 ≤ i) (h1 : i < s.size)
    (n : AL P N ops Q rest (lk ((q, .lit (.int .u8 (byt s i.toNat))) :: l)) L) : AL P N ops Q ((o, k) :: rest) (lk l) L := by
  obtain ⟨dst, op', ty, pos, after, g⟩ := o
  simp only at ho
  subst ho
  refine s_pure hdst hd hg ⟨fun σ F w ρ hR hρ => ⟨.int .u8 (byt s i.toNat), ?_, .lit _⟩⟩ n
  have e1 := hρ x (by simp [Op.operands])
  have e2 := hρ y (by simp [Op.operands])
  rw [hx] at e1
  rw [hy] at e2
  have hu := (ok _ _ hT).str rfl
  obtain ⟨b, hb, hbb⟩ := byt_get (s := s) (i := i.toNat) (by omega)
  have hget : (if 0 ≤ i then s[i.toNat]? else none) = some b := by rw [if_pos h0]; exact hb
  simp only [execOp, e1.lit_inv, e2.lit_inv, Instr.index, asIntOf, Sem.run_bind, Sem.run_pure, Result.andThen_ok, run_underlying hu, hget, hbb]
theorem s_strSub {tt : List (TypeId × TD)} (ok : TOK P tt) {o : Oper} {T : TypeId} {x : Operand} {lo hi : Option Operand} {s1 b1 : Nat} {z1 : List Value} {s : ByteArray} (a b : Nat)
    (ho : o.op = .slice T x lo hi none) (hdst : o.dst = some q) (hd : Nat.blt q N = true) (hg : guardA ops o (lk l) = some true)
    (hT : lkT tt T = some ⟨.str, s1, b1, z1⟩) (hx : ev (lk l) x = .lit (.string s))
    (hlo : match lo with | none => a = 0 | some y => ∃ kk, ev (lk l) y = .lit (.int kk a)) (hhi : match hi with | none => b = s.size | some y => ∃ kk, ev (lk l) y = .lit (.int kk b)) (hab : a ≤ b) (hb : b ≤ s.size)
    (n : AL P N ops Q rest (lk ((q, .lit (.string (s.extract a b))) :: l)) L) : AL P N ops Q ((o, k) :: rest) (lk l) L := by
  obtain ⟨dst, op', ty, pos, after, g⟩ := o
  simp only at ho
  subst ho
  refine s_pure hdst hd hg ⟨fun σ F w ρ hR hρ => ⟨.string (s.extract a b), ?_, .lit _⟩⟩ n
  have h1 := hρ x (by simp [Op.operands])
  rw [hx] at h1
  have hu := (ok _ _ hT).str rfl
  have hbnd : (Instr.sliceBounds false s.size s.size (lo.map ρ) (hi.map ρ) none).run P w = .ok (a, b, s.size) w := by
    have e2 : ∀ y, hi = some y → ∃ kk, ρ y = .int kk b := fun y hy => by
      subst hy
      obtain ⟨kk, hk⟩ := hhi
      have := hρ y (by simp [Op.operands])
      rw [hk] at this
      exact ⟨kk, this.lit_inv⟩
    have e1 : ∀ y, lo = some y → ∃ kk, ρ y = .int kk a := fun y hy => by
      subst hy
      obtain ⟨kk, hk⟩ := hlo
      have := hρ y (by simp [Op.operands])
      rw [hk] at this
      exact ⟨kk, this.lit_inv⟩
    cases lo with
    | none =>
      cases hi with
      | none => simp only at hlo hhi; subst hlo; subst hhi; simp [Instr.sliceBounds]
      | some y =>
        obtain ⟨kk, hk⟩ := e2 y rfl
        simp only at hlo; subst hlo
        simp [Instr.sliceBounds, hk, Instr.sliceBound, asIntOf, Int.ofNat_le, hb]
    | some z =>
      obtain ⟨kz, hz⟩ := e1 z rfl
      cases hi with
      | none => simp only at hhi; subst hhi; simp [Instr.sliceBounds, hz, Instr.sliceBound, asIntOf, hab]
      | some y =>
        obtain ⟨kk, hk⟩ := e2 y rfl
        simp [Instr.sliceBounds, hk, hz, Instr.sliceBound, asIntOf, hb, hab]
  simp only [execOp, h1.lit_inv, Option.map_none, Instr.sliceAt, Sem.run_bind, run_underlying hu, Result.andThen_ok, Instr.slice, hbnd, Sem.run_pure, Option.isSome_none, Bool.false_eq_true, if_false]
theorem s_indexByte {o : Oper} {x a b : Operand} {tys : Array TypeId} {f : FuncId} {fn : Func} {s : ByteArray} {c : Int} (ho : o.op = .call ⟨.value x, #[a, b], tys⟩) (hdst : o.dst = some q) (hd : Nat.blt q N = true) (hg : guardA ops o (lk l) = some true)
    (hx : ev (lk l) x = .fn (.func f) [] []) (hf : P.funcs[f]? = some fn) (hn : (fn.name == "runtime.NumGoroutine") = false) (hb : fn.body.isNone = true) (hnx : Extern.findNext fn = none) (he : Extern.find fn = some Extern.BytealgIndexByte.indexByte)
    (ha : ev (lk l) a = .lit (.string s)) (hbb : ev (lk l) b = .lit (.int .u8 c))
    (n : AL P N ops Q rest (lk ((q, .lit (.int .i64 (firstIdx s c.toNat.toUInt8))) :: l)) L) : AL P N ops Q ((o, k) :: rest) (lk l) L := by
  obtain ⟨dst, op', ty, pos, after, g⟩ := o
  simp only at ho
  subst ho
  refine s_pure hdst hd hg ⟨fun σ F w ρ hR hρ => ⟨.int .i64 (firstIdx s c.toNat.toUInt8), ?_, .lit _⟩⟩ n
  have h0 := hρ x (by simp [Op.operands, Call.operands])
  have h1 := hρ a (by simp [Op.operands, Call.operands])
  have h2 := hρ b (by simp [Op.operands, Call.operands])
  rw [hx] at h0
  rw [ha] at h1
  rw [hbb] at h2
  obtain ⟨vs, us, hv, hvs, hus⟩ := h0.fn_inv
  obtain rfl : vs = [] := List.length_eq_zero_iff.1 hvs.1
  obtain rfl : us = [] := List.length_eq_zero_iff.1 hus.1
  simp only [execOp, resolve, hv, Deferred.ofValue, Sem.run_bind, Sem.run_pure, Result.andThen_ok, invoke, List.map_toArray, List.map_cons, List.map_nil, h1.lit_inv, h2.lit_inv]
  simp only [Array.empty_append, Array.append_empty, run_callFunc_extern hf hn hb hnx he, run_indexByte_string, Result.andThen_ok]
end
end Go.Sj
namespace Go.Sj
theorem ABt {p : Prop} [Decidable p] (h : p) : AB true = AB (decide p) := by rw [decide_eq_true h]
theorem ABf {p : Prop} [Decidable p] (h : ¬ p) : AB false = AB (decide p) := by rw [decide_eq_false h]
theorem byt_beq (a b : ByteArray) : (a == b) = decide (a = b) := by
  by_cases h : a = b
  · subst h
    rw [decide_eq_true rfl]
    cases a with | mk d =>
    show (d == d) = true
    simp
  · rw [decide_eq_false h]
    cases a with | mk d => cases b with | mk e =>
    show (d == e) = false
    simp
    intro hh
    apply h
    rw [hh]
instance : LawfulBEq ByteArray where
  rfl := by intro a; rw [byt_beq]; exact decide_eq_true rfl
  eq_of_beq := by intro a b h; rw [byt_beq] at h; exact of_decide_eq_true h
section
variable {P : Program} {N : Nat} {ops : List Oper} {Q : St → Own → Prop} {L : Own} {rest : List (Oper × Kd)} {l : List (Nat × AV)} {k : Kd} {q : Nat}
theorem s_callB {o : Oper} {x : Operand} {args : List Operand} {tys : Array TypeId} {f : FuncId} {first caps as : List AV} {b : Bool} (ho : o.op = .call ⟨.value x, args.toArray, tys⟩) (hdst : o.dst = some q) (hd : Nat.blt q N = true) (hg : guardA ops o (lk l) = some true)
    (hx : ev (lk l) x = .fn (.func f) first caps) (hc : Pure P f as (AB b)) (has : SubL (first ++ args.map (ev (lk l)) ++ caps) as)
    (n : b = true → AL P N ops Q rest (lk ((q, AB true) :: l)) L) (m : b = false → AL P N ops Q rest (lk ((q, AB false) :: l)) L) : AL P N ops Q ((o, .eff) :: rest) (lk l) L := by
  refine s_callP ho hdst hd hg hx hc has ?_
  cases b with
  | true => exact n rfl
  | false => exact m rfl
theorem s_strEqB {o : Oper} {T T' : TypeId} {x y : Operand} {a b : ByteArray} (ho : o.op = .binOp .eql T x y T') (hdst : o.dst = some q) (hd : Nat.blt q N = true) (hg : guardA ops o (lk l) = some true)
    (hx : ev (lk l) x = .lit (.string a)) (hy : ev (lk l) y = .lit (.string b))
    (n : a = b → AL P N ops Q rest (lk ((q, AB true) :: l)) L) (m : a ≠ b → AL P N ops Q rest (lk ((q, AB false) :: l)) L) : AL P N ops Q ((o, k) :: rest) (lk l) L := by
  refine s_strEq ho hdst hd hg hx hy ?_
  by_cases h : a = b
  · rw [byt_beq, decide_eq_true h]
    exact n h
  · rw [byt_beq, decide_eq_false h]
    exact m h
theorem s_strEqT {o : Oper} {T T' : TypeId} {x y : Operand} {a b : ByteArray} (ho : o.op = .binOp .eql T x y T') (hdst : o.dst = some q) (hd : Nat.blt q N = true) (hg : guardA ops o (lk l) = some true)
    (hx : ev (lk l) x = .lit (.string a)) (hy : ev (lk l) y = .lit (.string b)) (h : a = b)
    (n : AL P N ops Q rest (lk ((q, AB true) :: l)) L) : AL P N ops Q ((o, k) :: rest) (lk l) L :=
  s_strEqB ho hdst hd hg hx hy (fun _ => n) (fun h' => absurd h h')
theorem s_strEqF {o : Oper} {T T' : TypeId} {x y : Operand} {a b : ByteArray} (ho : o.op = .binOp .eql T x y T') (hdst : o.dst = some q) (hd : Nat.blt q N = true) (hg : guardA ops o (lk l) = some true)
    (hx : ev (lk l) x = .lit (.string a)) (hy : ev (lk l) y = .lit (.string b)) (h : a ≠ b)
    (n : AL P N ops Q rest (lk ((q, AB false) :: l)) L) : AL P N ops Q ((o, k) :: rest) (lk l) L :=
  s_strEqB ho hdst hd hg hx hy (fun h' => absurd h' h) (fun _ => n)
end
end Go.Sj
namespace Go.Sj
def resM (tt : List (TypeId × TD)) (st : St) : List ResultVar → Option (List AV)
  | [] => some []
  | .tmp t :: l => match resM tt st l with
    | some xs => some (st t :: xs)
    | none => none
  | .cell a T :: l => match st a, lkT tt T, resM tt st l with
    | .ip cells, some d, some xs => match partA d cells 0 with
      | some x => some (x :: xs)
      | none => none
    | _, _, _ => none
theorem resM_run {P : Program} {tt : List (TypeId × TD)} (ok : TOK P tt) {σ : Hp} {L : Own} {F : Fr} {w : World} (hr : HRel σ L F w) {N : Nat} {st : St} {a : Act} (ht : TR σ N st a) : ∀ (l : List ResultVar) (xs : List AV), resM tt st l = some xs →
    ∃ vs : List Value, (l.mapM (resOne a.tmps)).run P w = .ok vs w ∧ VRs σ xs vs ∧ xs.length = l.length
  | [], xs, h => by
    simp [resM] at h
    subst h
    exact ⟨[], rfl, .nil, rfl⟩
  | .tmp t :: l, xs, h => by
    simp only [resM] at h
    cases hl : resM tt st l with
    | none => rw [hl] at h; cases h
    | some ys =>
      rw [hl] at h
      cases h
      obtain ⟨vs, hv, hr', he⟩ := resM_run ok hr ht l ys hl
      refine ⟨a.tmps.getD t undef :: vs, ?_, .cons (ht.vals t) hr', by simp [he]⟩
      simp only [List.mapM_cons, Sem.run_bind, resOne, Sem.run_pure, Result.andThen_ok, hv]
  | .cell c T :: l, xs, h => by
    simp only [resM] at h
    split at h
    · rename_i cells d ys hc hT hl
      split at h
      · rename_i x hx
        cases h
        have hca := ht.vals c
        rw [hc] at hca
        obtain ⟨u, hu, hxu⟩ := cell_run (ok _ _ hT) hr hca hx
        obtain ⟨vs, hv, hr', he⟩ := resM_run ok hr ht l ys hl
        refine ⟨u :: vs, ?_, .cons hxu hr', by simp [he]⟩
        simp only [Sem.run_bind] at hu
        simp only [List.mapM_cons, Sem.run_bind, resOne, hu, Sem.run_pure, Result.andThen_ok, hv]
      · cases h
    · cases h
def FinM (tt : List (TypeId × TD)) (rs : List ResultVar) (R : AV → Own → Prop) (e : Exit) (st : St) (L : Own) : Prop :=
  (e = .normal ∨ e = .ret) ∧ ∃ xs y M, resM tt st rs = some xs ∧ Turn (.tup xs) L y M ∧ R y M
theorem a_enterM {P : Program} {tt : List (TypeId × TD)} (ok : TOK P tt) {f : FuncId} {fn : Func} {c : Code} {N : Nat} {rs : List ResultVar} {args : List AV} {L : Own} {R : AV → Own → Prop}
    (hf : P.funcs[f]? = some fn) (hname : (fn.name == "runtime.NumGoroutine") = false) (hb : fn.body = some c) (hn : fn.ntmps = N) (hr : fn.results = rs.toArray) (h2 : rs.length ≠ 1) (ha : args.length ≤ N)
    (h : AWp P N c (FinM tt rs R) (lk (enum 0 args)) L) : ACalls P f args L R :=
  ⟨⟨fn, hf, hname, by rw [hb]; rfl⟩, fun σ F w vs hL hvs => by
    refine calls_of_wp hf hb (wp_mono (h.out σ F w _ hL ?_) ?_)
    · refine ⟨rfl, ?_, fun i => ?_⟩
      · simp [hn]; have := hvs.1; omega
      · have h1 := lk_enum σ args vs 0 i undef hvs (Nat.zero_le _)
        simp only [Nat.sub_zero] at h1
        simp only [Array.getD_eq_getD_getElem?, Array.getElem?_append, List.size_toArray, List.getElem?_toArray, Array.getElem?_replicate]
        split
        · rename_i hi; simpa [List.getD_eq_getElem?_getD] using h1
        · rename_i hi
          have hn : vs[i]? = none := by simp at hi ⊢; omega
          rw [List.getD_eq_getElem?_getD, hn] at h1
          split <;> exact h1
    · rintro e a w' ⟨τ, st, L', a1, a2, a3, he, xs, y, M, hx, ht, hR⟩
      obtain ⟨us, hus, hvu, hlen⟩ := resM_run ok a2 a3 rs xs hx
      have hres : (results fn a.tmps).run P w' = .ok (.tuple us.toArray) w' := by
        rw [results_eq, hr]
        simp only [List.mapM_toArray, Sem.run_bind, Sem.run_map, hus, Result.andThen_ok, Sem.run_pure]
        rw [dif_neg (by simp [hvu.1, hlen, h2])]
      obtain ⟨υ, b1, b2, b3⟩ := ht τ F w' _ a2 (VR.tup_of hvu)
      have : a.defers = [] ∧ ∃ v, (results fn a.tmps).run P w' = .ok v w' ∧ ∃ u, Ending.returned v = .returned u ∧ ∃ τ x L', σ.le τ ∧ HRel τ L' F w' ∧ VR τ x u ∧ R x L' :=
        ⟨a3.defers, _, hres, _, rfl, υ, y, M, Hp.le_trans a1 b1, b2, b3, hR⟩
      rcases he with rfl | rfl
      · exact this
      · exact this⟩
theorem finM {tt : List (TypeId × TD)} {rs : List ResultVar} {R : AV → Own → Prop} {e : Exit} {st : St} {L : Own} {xs : List AV} (he : e = .normal ∨ e = .ret) (hx : resM tt st rs = some xs) (hr : R (.tup xs) []) : FinM tt rs R e st L :=
  ⟨he, xs, _, [], hx, .of (Sub.refl _) (OSub.none _), hr⟩
section
variable {P : Program} {N : Nat} {ops : List Oper} {Q : St → Own → Prop} {L : Own} {rest : List (Oper × Kd)} {l : List (Nat × AV)} {k : Kd} {q : Nat}
theorem s_strSubI {tt : List (TypeId × TD)} (ok : TOK P tt) {o : Oper} {T : TypeId} {x : Operand} {lo hi : Option Operand} {s1 b1 : Nat} {z1 : List Value} {s : ByteArray} (a b : Nat)
    (ho : o.op = .slice T x lo hi none) (hdst : o.dst = some q) (hd : Nat.blt q N = true) (hg : guardA ops o (lk l) = some true)
    (hT : lkT tt T = some ⟨.str, s1, b1, z1⟩) (hx : ev (lk l) x = .lit (.string s))
    (hlo : match lo with | none => a = 0 | some y => ∃ kk i, ev (lk l) y = .lit (.int kk i) ∧ i = a) (hhi : match hi with | none => b = s.size | some y => ∃ kk i, ev (lk l) y = .lit (.int kk i) ∧ i = b) (hab : a ≤ b) (hb : b ≤ s.size)
    (n : AL P N ops Q rest (lk ((q, .lit (.string (s.extract a b))) :: l)) L) : AL P N ops Q ((o, k) :: rest) (lk l) L := by
  refine s_strSub ok a b ho hdst hd hg hT hx ?_ ?_ hab hb n
  · cases lo with
    | none => exact hlo
    | some y => obtain ⟨kk, i, h, rfl⟩ := hlo; exact ⟨kk, h⟩
  · cases hi with
    | none => exact hhi
    | some y => obtain ⟨kk, i, h, rfl⟩ := hhi; exact ⟨kk, h⟩
theorem s_sliceI {tt : List (TypeId × TD)} (ok : TOK P tt) {o : Oper} {T : TypeId} {x : Operand} {lo hi : Option Operand} {E : TypeId} {s1 b1 : Nat} {z1 : List Value} {d : TD} {sz : Nat} {es : List (List AV)} {a b : Nat}
    (ho : o.op = .slice T x lo hi none) (hdst : o.dst = some q) (hd : Nat.blt q N = true) (hg : guardA ops o (lk l) = some true)
    (hT : lkT tt T = some ⟨.slice E, s1, b1, z1⟩) (hE : lkT tt E = some d) (hx : ev (lk l) x = .im sz es) (hs : sz = d.size)
    (hlo : match lo with | none => a = 0 | some y => ∃ kk i, ev (lk l) y = .lit (.int kk i) ∧ i = a) (hhi : match hi with | none => b = es.length | some y => ∃ kk i, ev (lk l) y = .lit (.int kk i) ∧ i = b) (hab : a ≤ b) (hb : b ≤ es.length)
    (n : AL P N ops Q rest (lk ((q, .im sz ((es.take b).drop a)) :: l)) L) : AL P N ops Q ((o, k) :: rest) (lk l) L := by
  refine s_slice ok (a := a) (b := b) ho hdst hd hg hT hE hx hs ?_ ?_ hab hb n
  · cases lo with
    | none => exact hlo
    | some y => obtain ⟨kk, i, h, rfl⟩ := hlo; exact ⟨kk, h⟩
  · cases hi with
    | none => exact hhi
    | some y => obtain ⟨kk, i, h, rfl⟩ := hhi; exact ⟨kk, h⟩
end
end Go.Sj
namespace Go.Sj
theorem ARes.turn {P : Program} {σ : Hp} {F : Fr} {K K' : AV → Own → Prop} (hk : ∀ x M, K x M → ∃ y M', K' y M' ∧ Turn x M y M') {r : Result Next} (h : ARes P σ F K r) : ARes P σ F K' r := by
  cases r with
  | ok n w =>
    cases n <;> simp only [ARes] at h ⊢
    case value v =>
      obtain ⟨τ, x, L, a, b, c, d⟩ := h
      obtain ⟨y, M', hy, ht⟩ := hk x L d
      obtain ⟨υ, h1, h2, h3⟩ := ht τ F w v b c
      exact ⟨υ, y, M', Hp.le_trans a h1, h2, h3, hy⟩
    case skip =>
      obtain ⟨τ, x, L, a, b, c, d⟩ := h
      obtain ⟨y, M', hy, ht⟩ := hk x L d
      obtain ⟨υ, h1, h2, h3⟩ := ht τ F w _ b c
      exact ⟨υ, y, M', Hp.le_trans a h1, h2, h3, hy⟩
    case enter f args =>
      refine h.mono fun e w' ⟨v, hv, τ, x, L, a, b, c, d⟩ => ?_
      obtain ⟨y, M', hy, ht⟩ := hk x L d
      obtain ⟨υ, h1, h2, h3⟩ := ht τ F w' v b c
      exact ⟨v, hv, υ, y, M', Hp.le_trans a h1, h2, h3, hy⟩
  | halt x w => exact h.elim
theorem AOp.turn {P : Program} {o : Oper} {K K' : AV → Own → Prop} {st : St} {L : Own} (hk : ∀ x M, K x M → ∃ y M', K' y M' ∧ Turn x M y M') (h : AOp P o K st L) : AOp P o K' st L :=
  ⟨fun σ F w ρ a b => (h.out σ F w ρ a b).turn hk⟩
def SubLL : List (List AV) → List (List AV) → Prop
  | [], [] => True
  | x :: l, y :: m => SubL x y ∧ SubLL l m
  | _, _ => False
theorem SubL.len : ∀ {l m : List AV}, SubL l m → l.length = m.length
  | [], [], _ => rfl
  | _ :: l, _ :: m, h => by simp [SubL.len h.2]
  | [], _ :: _, h => h.elim
  | _ :: _, [], h => h.elim
theorem SubL.get : ∀ {l m : List AV}, SubL l m → ∀ {j : Nat} {y : AV}, m[j]? = some y → ∃ x, l[j]? = some x ∧ Sub x y
  | x :: l, z :: m, h, 0, y, hy => by simp at hy; subst hy; exact ⟨x, rfl, h.1⟩
  | x :: l, z :: m, h, j + 1, y, hy => by
    obtain ⟨x', h1, h2⟩ := SubL.get h.2 (j := j) (by simpa using hy)
    exact ⟨x', by simpa using h1, h2⟩
  | [], [], _, j, y, hy => by simp at hy
  | [], _ :: _, h, _, _, _ => h.elim
  | _ :: _, [], h, _, _, _ => h.elim
theorem SubLL.len : ∀ {l m : List (List AV)}, SubLL l m → l.length = m.length
  | [], [], _ => rfl
  | _ :: l, _ :: m, h => by simp [SubLL.len h.2]
  | [], _ :: _, h => h.elim
  | _ :: _, [], h => h.elim
theorem SubLL.get : ∀ {l m : List (List AV)}, SubLL l m → ∀ {j : Nat} {y : List AV}, m[j]? = some y → ∃ x, l[j]? = some x ∧ SubL x y
  | x :: l, z :: m, h, 0, y, hy => by simp at hy; subst hy; exact ⟨x, rfl, h.1⟩
  | x :: l, z :: m, h, j + 1, y, hy => by
    obtain ⟨x', h1, h2⟩ := SubLL.get h.2 (j := j) (by simpa using hy)
    exact ⟨x', by simpa using h1, h2⟩
  | [], [], _, j, y, hy => by simp at hy
  | [], _ :: _, h, _, _, _ => h.elim
  | _ :: _, [], h, _, _, _ => h.elim
theorem Sub.im {sz : Nat} {es es' : List (List AV)} (h : SubLL es es') : Sub (.im sz es) (.im sz es') := fun σ v hv => by
  cases hv with
  | imNil _ a cap =>
    have := h.len
    have : es' = [] := List.length_eq_zero_iff.1 this.symm
    subst this
    exact .imNil _ _ _
  | im _ _ b off cap c E fr f h1 h2 h3 h4 h5 h6 =>
    have hl := h.len
    rw [hl]
    refine .im sz es' b off cap c E fr f h1 (fun e => h2 (List.length_eq_zero_iff.1 (by rw [hl, e]; rfl))) (by omega) (fun i e he => ?_) (fun i e j x he hx => ?_) (fun i e j x he hx => ?_)
    · obtain ⟨d, hd, hs⟩ := h.get he
      rw [← hs.len]
      exact h4 i d hd
    · obtain ⟨d, hd, hs⟩ := h.get he
      obtain ⟨y, hy, _⟩ := hs.get hx
      exact h5 i d j y hd hy
    · obtain ⟨d, hd, hs⟩ := h.get he
      obtain ⟨y, hy, hsub⟩ := hs.get hx
      exact hsub σ _ (h6 i d j y hd hy)
section
variable {P : Program} {N : Nat} {ops : List Oper} {Q : St → Own → Prop} {L : Own} {rest : List (Oper × Kd)} {l : List (Nat × AV)} {k : Kd} {q : Nat}
theorem s_frzNow (i : Nat) {o : Oper} {E sz : Nat} {es : List (List AV)} {M : Own} (hdst : o.dst = some q) (hd : Nat.blt q N = true) (hg : guardA ops o (lk l) = some true)
    (h : AL P N ops (fun st' L' => ∃ v, st' q = .lit v ∧ L'[i]? = some (v, .row E sz es) ∧ L'.eraseIdx i = M) [(o, .eff)] (lk l) L)
    (n : AL P N ops Q rest (lk ((q, .im sz es) :: l)) M) : AL P N ops Q ((o, .eff) :: rest) (lk l) L := by
  obtain ⟨h1, h2⟩ := AL_head h
  rcases h2 with ⟨hg', _⟩ | ⟨hg', hop⟩
  · rw [hg] at hg'; cases hg'
  · refine s_eff (fun x M' => x = .im sz es ∧ M' = M) hdst hd hg (AOp.turn (fun x L' hx => ?_) hop) (fun x M' ⟨e1, e2⟩ => by rw [e1, e2]; exact n)
    cases hx with
    | nil hq =>
      obtain ⟨v, hv, hL, hM⟩ := hq
      rw [hdst] at hv
      have hv' : x = .lit v := by rw [← hv]; exact (upd_same _ _ _).symm
      subst hv'
      subst hM
      exact ⟨_, _, ⟨rfl, rfl⟩, Turn.freeze i hL FZ.here⟩
end
end Go.Sj
namespace Go.Sj
section
variable {P : Program} {N : Nat} {ops : List Oper} {Q : St → Own → Prop} {L : Own} {rest : List (Oper × Kd)} {l : List (Nat × AV)} {k : Kd} {q : Nat}
end
end Go.Sj
namespace Go.Sj
def mkLK (ks : List Kd) (l : List Oper) (is : List Nat) : List (Oper × Kd) := is.filterMap fun i => match l[i]? with | some o => some (o, ks.getD i .eff) | none => none
theorem mkLK_cons {ks : List Kd} {l : List Oper} {i : Nat} {is : List Nat} {o : Oper} (h : l[i]? = some o) : mkLK ks l (i :: is) = (o, ks.getD i .eff) :: mkLK ks l is := by
  simp only [mkLK, List.filterMap_cons, h]
theorem mkLK_facts {ks : List Kd} {l : List Oper} : ∀ {is : List Nat}, is.all (fun i => Nat.blt i l.length) = true → is.length = (mkLK ks l is).length ∧ ∀ (j k : Nat) (p : Oper × Kd), is[j]? = some k → (mkLK ks l is)[j]? = some p → l[k]? = some p.1 ∧ p.2 = ks.getD k .eff
  | [], _ => ⟨rfl, fun j k p h => by simp at h⟩
  | i :: is, h => by
    simp only [List.all_cons, Bool.and_eq_true] at h
    have hi : i < l.length := by simpa [Nat.blt_eq] using h.1
    have e : l[i]? = some l[i] := List.getElem?_eq_getElem hi
    obtain ⟨h1, h2⟩ := mkLK_facts (ks := ks) h.2
    rw [mkLK_cons e]
    refine ⟨by simp [h1], fun j k p hj hp => ?_⟩
    cases j with
    | zero =>
      simp at hj hp
      subst hj; subst hp
      exact ⟨e, rfl⟩
    | succ j => exact h2 j k p (by simpa using hj) (by simpa using hp)
end Go.Sj
end
