/-
  Copies into owned rows; bits of small numbers.
-/
import Derived.Test.YtebmopjobmjhmaaSjL3
namespace Go.Sj
set_option linter.unusedVariables false
set_option linter.unusedSimpArgs false

theorem subV_zero {σ : Hp} {w : World} {v : Value} {E sz : Nat} {es : List (List AV)} (h : Own1 σ w (v, .row E sz es)) : subV v sz 0 es.length = v := by
  obtain ⟨a, cap, hv, _⟩ := own_row_val h
  rw [hv]
  simp only [subV, Nat.zero_mul, Nat.sub_zero]
  by_cases hc : cap = 0
  · rw [if_pos hc]
  · rw [if_neg hc]
    have : (a.map (·.add 0)) = a := by cases a <;> simp [Addr.add]
    rw [this]

theorem own_copy {P : Program} {σ : Hp} {w : World} {v u : Value} {E sz : Nat} {es es2 : List (List AV)} {t ty : TypeId} {d : TD} {a : Nat} (h : Own1 σ w (v, .row E sz es)) (hs : SrcA σ w u sz es2) (ht : P.underlying t = some (.slice E)) (hd : TI P E d) (hsz : sz = d.size) (hpos : 0 < d.size)
    (hcell : es2.all (fun e => e.all AV.cell) = true) (ha : a ≤ es.length) (m : Nat) (hm : m = min es2.length (es.length - a)) :
    ∃ w', (Builtin.copy_ #[t, t] ty #[subV v sz a es.length, u]).run P w = .ok (.int .i64 m) w' ∧ Own1 σ w' (v, .row E sz (es.take a ++ es2.take m ++ es.drop (a + m))) ∧ w.heap.size ≤ w'.heap.size ∧ (∀ i, i < w.heap.size → some i ≠ blk v → w'.heap[i]? = w.heap[i]?) ∧ w'.os = w.os ∧ w'.output = w.output := by
  obtain ⟨au, cu, hu, hsrc⟩ := hs
  obtain ⟨av, cv, hv, hcv⟩ := own_row_val h
  have hszr := hd.sizeOf_run
  by_cases h0 : m = 0
  · subst h0
    refine ⟨w, ?_, ?_, Nat.le_refl _, fun _ _ _ => rfl, rfl, rfl⟩
    · have hmin : Nat.min es2.length (es.length - a) = 0 := hm.symm
      rw [hu, hv]
      simp only [subV]
      cases au <;> (
        simp only [Builtin.copy_, Sem.run_bind, run_underlying ht, Builtin.lenOf, Sem.run_pure, Result.andThen_ok, hszr, Builtin.firstCells, hmin, Nat.zero_mul, List.getElem?_toArray, List.getElem?_cons_zero, List.getElem?_cons_succ, loadCells, loadCellsFrom]
        split <;> simp [storeCells, goInt])
    · have : es.take a ++ es2.take 0 ++ es.drop (a + 0) = es := by simp
      rw [this]; exact h
  · have hm1 : m ≤ es2.length := by omega
    have hm2 : a + m ≤ es.length := by omega
    have hne2 : es2 ≠ [] := fun e => by subst e; simp at hm1; omega
    have hne : es ≠ [] := fun e => by subst e; simp at hm2; omega
    obtain ⟨ad, news, rfl, hnl, hnews, hnr, hl2⟩ := hsrc hne2
    obtain ⟨g, cap, cur, hv2, hc0, hg, hncap, hcm, hcs, hl, hvr⟩ := own_row_cells h hne
    rw [hv] at hv2
    cases hv2
    subst hsz
    have hone : ∀ x ∈ news.take (m * d.size), x.oneCell' = true := fun x hx => hnr.oneCell (by
      rw [List.all_eq_true]
      intro y hy
      obtain ⟨e, he, hye⟩ := List.mem_flatten.1 hy
      exact List.all_eq_true.1 (List.all_eq_true.1 hcell e he) y hye) x (List.mem_of_mem_take hx)
    have hml : m * d.size ≤ news.length := by rw [hnl]; exact Nat.mul_le_mul_right _ hm1
    have hload : (loadCells ad (m * d.size)).run P w = .ok (news.take (m * d.size)).toArray w := by
      have := run_loadCells_list (P := P) w ad (news.take (m * d.size)) (fun j x hx => hnews j x (by
        rw [List.getElem?_take] at hx
        split at hx
        · exact hx
        · cases hx))
      simpa [loadCells, List.length_take, Nat.min_eq_left hml] using this
    have hfit : a * d.size + (news.take (m * d.size)).length ≤ cur.size := by
      rw [List.length_take, Nat.min_eq_left hml, hcs, ← Nat.add_mul]
      exact Nat.mul_le_mul_right _ (by omega)
    have hst := run_storeCells_at P g (a * d.size) E (news.take (m * d.size)) 0 cur w hg (by simpa using hfit) hone
    simp only [Nat.add_zero] at hst
    have hadd : (⟨g, 0, none⟩ : Addr).add (a * d.size) = ⟨g, a * d.size, none⟩ := by unfold Addr.add; split <;> simp_all
    have hmin : Nat.min es2.length (es.length - a) = m := hm.symm
    refine ⟨w.setRow g (cur.toList.take (a * d.size) ++ news.take (m * d.size) ++ cur.toList.drop (a * d.size + (news.take (m * d.size)).length)).toArray, ?_, ?_, by simp, fun q hq hne => setRow_other w g q _ (fun e => hne (by rw [hv, e]; simp [blk]; omega)), rfl, rfl⟩
    · rw [hu, hv]
      simp only [subV, if_neg (show ¬ cv = a by omega), Option.map_some, hadd]
      simp only [Builtin.copy_, Sem.run_bind, run_underlying ht, Builtin.lenOf, Sem.run_pure, Result.andThen_ok, hszr, Builtin.firstCells, hmin, List.getElem?_toArray, List.getElem?_cons_zero, List.getElem?_cons_succ, hload, hst, goInt]
    · have hw := setRow_heap w g cur (cur.toList.take (a * d.size) ++ news.take (m * d.size) ++ cur.toList.drop (a * d.size + (news.take (m * d.size)).length)).toArray E _ hg
      have hnew : ∀ e ∈ es.take a ++ es2.take m ++ es.drop (a + m), e.length = d.size := fun e he => by
        rcases List.mem_append.1 he with he | he
        · rcases List.mem_append.1 he with he | he
          · exact hl e (List.mem_of_mem_take he)
          · exact hl2 e (List.mem_of_mem_take he)
        · exact hl e (List.mem_of_mem_drop he)
      have hlen : (es.take a ++ es2.take m ++ es.drop (a + m)).length = es.length := by simp; omega
      have hfl : es.flatten.length = es.length * d.size := flatten_len hl
      have hfit2 : es.length * d.size ≤ cur.size := by rw [hcs]; exact Nat.mul_le_mul_right _ hncap
      refine ⟨_, .inr ⟨g, cv, _, by rw [hv, hlen], hc0, hw, by rw [hlen]; exact hncap, hcm, ?_, rfl⟩, hnew, ?_⟩
      · simp only [List.size_toArray, List.length_append, List.length_take, List.length_drop, Array.length_toList]
        rw [List.length_take] at hfit
        omega
      · rw [hlen]
        have e3 := splice_take cur.toList (news.take (m * d.size)) (a * d.size) (es.length * d.size) (by
          rw [List.length_take, Nat.min_eq_left hml, ← Nat.add_mul]; exact Nat.mul_le_mul_right _ hm2) (by simpa using hfit2)
        simp only [List.toList_toArray]
        rw [e3, List.length_take, Nat.min_eq_left hml, ← Nat.add_mul]
        have f1 : (es.take a ++ es2.take m ++ es.drop (a + m)).flatten = es.flatten.take (a * d.size) ++ es2.flatten.take (m * d.size) ++ es.flatten.drop ((a + m) * d.size) := by
          rw [List.flatten_append, List.flatten_append, ← flatten_take hl ha, ← flatten_take hl2 hm1]
          congr 1
          have h5 := List.take_append_drop (a + m) es
          have h6 : es.flatten = (es.take (a + m)).flatten ++ (es.drop (a + m)).flatten := by rw [← List.flatten_append, h5]
          rw [h6, show (a + m) * d.size = (es.take (a + m)).flatten.length from (flatten_take_len hl hm2).symm, List.drop_left]
        rw [f1]
        exact ((hvr.take _).append (hnr.take _)).append (hvr.drop _)

section
variable {P : Program} {N : Nat} {ops : List Oper} {Q : St → Own → Prop} {L : Own} {rest : List (Oper × Kd)} {l : List (Nat × AV)} {k : Kd} {q : Nat}

/-- 'copy(s, t)' into an owned row, of a row that never changes. -/
theorem s_copyIm {tt : List (TypeId × TD)} (ok : TOK P tt) (i : Nat) {o : Oper} {T : TypeId} {x y : Operand} {E s1 b1 : Nat} {z1 : List Value} {d : TD} {sz : Nat} {v : Value} {es es2 : List (List AV)} (m : Nat) (ho : o.op = .call ⟨.builtin .copy, #[x, y], #[T, T]⟩) (hdst : o.dst = some q) (hd : Nat.blt q N = true) (hg : guardA ops o (lk l) = some true)
    (hT : lkT tt T = some ⟨.slice E, s1, b1, z1⟩) (hE : lkT tt E = some d) (hpos : 0 < d.size) (hx : ev (lk l) x = .lit v) (hL : L[i]? = some (v, .row E sz es)) (hs : sz = d.size) (hy : ev (lk l) y = .im sz es2)
    (hcell : es2.all (fun e => e.all AV.cell) = true) (hm : m = min es2.length es.length)
    (nx : AL P N ops Q rest (lk ((q, .lit (.int .i64 m)) :: l)) (L.set i (v, .row E sz (es2.take m ++ es.drop m)))) : AL P N ops Q ((o, .eff) :: rest) (lk l) L := by
  obtain ⟨dst, op', ty, pos, after, g⟩ := o
  simp only at ho
  subst ho
  refine s_eff (fun x M => x = .lit (.int .i64 m) ∧ M = L.set i (v, .row E sz (es2.take m ++ es.drop m))) hdst hd hg ⟨fun σ F w ρ hR hρ => ?_⟩ (fun x M ⟨e1, e2⟩ => by rw [e1, e2]; exact nx)
  have e1 := hρ x (by simp [Op.operands, Call.operands])
  have e2 := hρ y (by simp [Op.operands, Call.operands])
  rw [hx] at e1
  rw [hy] at e2
  have hu := (ok _ _ hT).slice rfl
  have hown := hR.own1 hL
  obtain ⟨w', hr, ho2, h1, h2, h3, h4⟩ := own_copy (P := P) (t := T) (ty := ty) (a := 0) hown (SrcA.im hR.agree e2) hu (ok _ _ hE) hs hpos hcell (Nat.zero_le _) m (by rw [Nat.sub_zero]; exact hm)
  rw [subV_zero hown] at hr
  simp only [List.take_zero, List.nil_append, Nat.zero_add] at ho2
  have hrun : (execOp ρ ⟨dst, .call ⟨.builtin .copy, #[x, y], #[T, T]⟩, ty, pos, after, g⟩).run P w = .ok (.value (.int .i64 m)) w' := by
    simp [execOp, resolve, invoke, builtin, e1.lit_inv, hr]
  rw [hrun]
  exact ⟨σ, _, _, σ.le_refl, hR.writeAt hL h1 h2 h3 h4 (fun b hb => .inl hb) ho2, .lit _, rfl, rfl⟩
/-- 'copy(s[a:], s[:b])' within an owned row. -/
theorem s_copyOwn {tt : List (TypeId × TD)} (ok : TOK P tt) (i : Nat) {o : Oper} {T : TypeId} {x y : Operand} {E s1 b1 : Nat} {z1 : List Value} {d : TD} {sz a b n : Nat} {v : Value} {es : List (List AV)} (m : Nat) (ho : o.op = .call ⟨.builtin .copy, #[x, y], #[T, T]⟩) (hdst : o.dst = some q) (hd : Nat.blt q N = true) (hg : guardA ops o (lk l) = some true)
    (hT : lkT tt T = some ⟨.slice E, s1, b1, z1⟩) (hE : lkT tt E = some d) (hpos : 0 < d.size) (hx : ev (lk l) x = .lit (subV v sz a n)) (hL : L[i]? = some (v, .row E sz es)) (hn : n = es.length) (hs : sz = d.size) (hy : ev (lk l) y = .lit (subV v sz 0 b)) (ha : a ≤ es.length) (hb : b ≤ es.length)
    (hcell : es.all (fun e => e.all AV.cell) = true) (hm : m = min b (es.length - a))
    (nx : AL P N ops Q rest (lk ((q, .lit (.int .i64 m)) :: l)) (L.set i (v, .row E sz (es.take a ++ es.take m ++ es.drop (a + m))))) : AL P N ops Q ((o, .eff) :: rest) (lk l) L := by
  obtain ⟨dst, op', ty, pos, after, g⟩ := o
  simp only at ho
  subst ho
  subst hn
  refine s_eff (fun x M => x = .lit (.int .i64 m) ∧ M = L.set i (v, .row E sz (es.take a ++ es.take m ++ es.drop (a + m)))) hdst hd hg ⟨fun σ F w ρ hR hρ => ?_⟩ (fun x M ⟨e1, e2⟩ => by rw [e1, e2]; exact nx)
  have e1 := hρ x (by simp [Op.operands, Call.operands])
  have e2 := hρ y (by simp [Op.operands, Call.operands])
  rw [hx] at e1
  rw [hy] at e2
  have hu := (ok _ _ hT).slice rfl
  have hown := hR.own1 hL
  have hsrc : SrcA σ w (subV v sz 0 b) sz (es.take b) := by
    obtain ⟨av, cap, hv, hsr⟩ := SrcA.own hown
    obtain ⟨av', cap', hv', hcap⟩ := own_row_val hown
    rw [hv] at hv'
    cases hv'
    have hlb : (es.take b).length = b := by rw [List.length_take]; omega
    refine ⟨av, cap, ?_, fun hne => ?_⟩
    · rw [hv, hlb]
      simp only [subV, Nat.zero_mul, Nat.sub_zero]
      by_cases hc : cap = 0
      · rw [if_pos hc]
      · rw [if_neg hc]
        have : (av.map (·.add 0)) = av := by cases av <;> simp [Addr.add]
        rw [this]
    · have hne' : es ≠ [] := fun e => hne (by rw [e]; simp)
      obtain ⟨ad, news, e3, e4, e5, e6, e7⟩ := hsr hne'
      refine ⟨ad, news.take (b * sz), e3, ?_, fun j x hx => e5 j x ?_, ?_, fun e he => e7 e (List.mem_of_mem_take he)⟩
      · rw [List.length_take, hlb, e4]; exact Nat.min_eq_left (Nat.mul_le_mul_right _ hb)
      · rw [List.getElem?_take] at hx
        split at hx
        · exact hx
        · cases hx
      · rw [← flatten_take e7 hb]
        exact e6.take _
  obtain ⟨w', hr, ho2, h1, h2, h3, h4⟩ := own_copy (P := P) (t := T) (ty := ty) (a := a) hown hsrc hu (ok _ _ hE) hs hpos (by
    rw [List.all_eq_true] at hcell ⊢
    exact fun e he => hcell e (List.mem_of_mem_take he)) ha m (by rw [List.length_take, Nat.min_eq_left hb]; exact hm)
  have hmb : m ≤ b := by omega
  rw [List.take_take, Nat.min_eq_left hmb] at ho2
  have hrun : (execOp ρ ⟨dst, .call ⟨.builtin .copy, #[x, y], #[T, T]⟩, ty, pos, after, g⟩).run P w = .ok (.value (.int .i64 m)) w' := by
    simp [execOp, resolve, invoke, builtin, e1.lit_inv, e2.lit_inv, hr]
  rw [hrun]
  exact ⟨σ, _, _, σ.le_refl, hR.writeAt hL h1 h2 h3 h4 (fun b hb => .inl hb) ho2, .lit _, rfl, rfl⟩

/-- 'x & (2^32 - 1)' of a small number. -/
theorem s_and32 {o : Oper} {T T' : TypeId} {x y : Operand} {a : Int} (ho : o.op = .binOp .and T x y T') (hdst : o.dst = some q) (hd : Nat.blt q N = true) (hg : guardA ops o (lk l) = some true)
    (hx : ev (lk l) x = .lit (.int .u64 a)) (hy : ev (lk l) y = .lit (.int .u64 4294967295)) (h : 0 ≤ a ∧ a < 4294967296)
    (n : AL P N ops Q rest (lk ((q, .lit (.int .u64 a)) :: l)) L) : AL P N ops Q ((o, k) :: rest) (lk l) L := by
  obtain ⟨dst, op', ty, pos, after, g⟩ := o
  simp only at ho
  subst ho
  refine s_pure hdst hd hg ⟨fun σ F w ρ hR hρ => ⟨.int .u64 a, ?_, .lit _⟩⟩ n
  have h1 := hρ x (by simp [Op.operands])
  have h2 := hρ y (by simp [Op.operands])
  rw [hx] at h1
  rw [hy] at h2
  obtain ⟨m, rfl⟩ : ∃ m : Nat, a = m := ⟨a.toNat, by omega⟩
  have hb : ((BitVec.ofNat 64 m &&& 4294967295#64).toNat : Int) = m := by
    rw [BitVec.toNat_and]
    have e1 : (BitVec.ofNat 64 m).toNat = m := by
      rw [BitVec.toNat_ofNat]; omega
    have e2 : (4294967295#64).toNat = 2 ^ 32 - 1 := by decide
    rw [e1, e2, Nat.and_two_pow_sub_one_eq_mod, Nat.mod_eq_of_lt (by omega)]
  have hw : IntKind.u64.wrap (m : Int) = m := IntWalk.u64_in _ (by omega)
  simp [execOp, h1.lit_inv, h2.lit_inv, eqGuard, binOp, Op.intArith, Op.intBits, IntKind.bits]
  exact (congrArg IntKind.u64.wrap hb).trans hw
/-- 'x >> 32' of a small number. -/
theorem s_shr32 {o : Oper} {T T' : TypeId} {x y : Operand} {k2 : IntKind} {a : Int} (ho : o.op = .binOp .shr T x y T') (hdst : o.dst = some q) (hd : Nat.blt q N = true) (hg : guardA ops o (lk l) = some true)
    (hx : ev (lk l) x = .lit (.int .u64 a)) (hy : ev (lk l) y = .lit (.int k2 32)) (h : 0 ≤ a ∧ a < 4294967296)
    (n : AL P N ops Q rest (lk ((q, .lit (.int .u64 0)) :: l)) L) : AL P N ops Q ((o, k) :: rest) (lk l) L := by
  obtain ⟨dst, op', ty, pos, after, g⟩ := o
  simp only at ho
  subst ho
  refine s_pure hdst hd hg ⟨fun σ F w ρ hR hρ => ⟨.int .u64 0, ?_, .lit _⟩⟩ n
  have h1 := hρ x (by simp [Op.operands])
  have h2 := hρ y (by simp [Op.operands])
  rw [hx] at h1
  rw [hy] at h2
  obtain ⟨m, rfl⟩ : ∃ m : Nat, a = m := ⟨a.toNat, by omega⟩
  have hb : (m : Int).fdiv (2 ^ (min 32 IntKind.u64.bits)) = 0 := by
    show (m : Int).fdiv (2 ^ 32) = 0
    rw [Int.fdiv_eq_ediv_of_nonneg _ (by decide)]
    omega
  simp [execOp, h1.lit_inv, h2.lit_inv, eqGuard, binOp, Op.shift, hb]
end
end Go.Sj
