/- Parts of a proof. -/
import Derived.Lib.AppendZerosOnto
import Derived.Lib.Overlaps
import Derived.Test.YtddohheabpiljaaGreatU07
set_option linter.unusedVariables false
set_option linter.unusedSimpArgs false
section
namespace Go.Sj
theorem a_knowRow {P : Program} {N : Nat} {c : Code} {Q : Exit → St → Own → Prop} {st : St} {L : Own} (i : Nat) {v : Value} {E sz : Nat} {es : List (List AV)} (hL : L[i]? = some (v, .row E sz es))
    (k : ∀ a cap, v = .slice a es.length cap → es.length ≤ cap → cap ≤ maxLen → (∀ e ∈ es, e.length = sz) → AWp P N c Q st L) : AWp P N c Q st L :=
  ⟨fun σ F w a hr ht => by
    have hown := hr.own1 hL
    obtain ⟨b, cap, hv, hc⟩ := own_row_val hown
    obtain ⟨xs, hx, hl, _⟩ := hown
    refine (k b cap hv hc ?_ hl).out σ F w a hr ht
    rcases hx with ⟨_, a0, e⟩ | ⟨g, cap', cur, e, _, _, _, hm, _⟩
    · rw [hv] at e; injection e with _ _ e3; rw [e3]; exact Nat.zero_le _
    · rw [hv] at e; cases e; exact hm⟩
section
variable {P : Program} {N : Nat} {ops : List Oper} {Q : St → Own → Prop} {L : Own} {rest : List (Oper × Kd)} {l : List (Nat × AV)} {k : Kd} {q : Nat}
theorem s_cap {tt : List (TypeId × TD)} (ok : TOK P tt) {o : Oper} {T : TypeId} {x : Operand} {E s1 b1 : Nat} {z1 : List Value} {a : Option Addr} {n c : Nat} (ho : o.op = .call ⟨.builtin .cap, #[x], #[T]⟩) (hdst : o.dst = some q) (hd : Nat.blt q N = true) (hg : guardA ops o (lk l) = some true)
    (hT : lkT tt T = some ⟨.slice E, s1, b1, z1⟩) (hx : ev (lk l) x = .lit (.slice a n c))
    (nx : AL P N ops Q rest (lk ((q, .lit (.int .i64 c)) :: l)) L) : AL P N ops Q ((o, k) :: rest) (lk l) L := by
  obtain ⟨dst, op', ty, pos, after, g⟩ := o
  simp only at ho
  subst ho
  refine s_pure hdst hd hg ⟨fun σ F w ρ hR hρ => ⟨.int .i64 c, ?_, .lit _⟩⟩ nx
  have h1 := hρ x (by simp [Op.operands, Call.operands])
  rw [hx] at h1
  have hu := (ok _ _ hT).slice rfl
  simp [execOp, resolve, invoke, builtin, h1.lit_inv, Builtin.cap_, run_underlying hu, goInt]
theorem s_capPart {tt : List (TypeId × TD)} (ok : TOK P tt) {o : Oper} {T : TypeId} {x : Operand} {lo hi : Option Operand} {E0 s1 b1 : Nat} {z1 : List Value} {d : TD} {sz : Nat} {ad : Option Addr} {n cap : Nat} (a b : Nat)
    (ho : o.op = .slice T x lo hi none) (hdst : o.dst = some q) (hd : Nat.blt q N = true) (hg : guardA ops o (lk l) = some true)
    (hT : lkT tt T = some ⟨.slice E0, s1, b1, z1⟩) (hE : lkT tt E0 = some d) (hx : ev (lk l) x = .lit (.slice ad n cap)) (hs : sz = d.size)
    (hlo : match lo with | none => a = 0 | some y => ∃ kk j, ev (lk l) y = .lit (.int kk j) ∧ j = (a : Int)) (hhi : match hi with | none => b = n | some y => ∃ kk j, ev (lk l) y = .lit (.int kk j) ∧ j = (b : Int)) (hab : a ≤ b) (hb : b ≤ cap)
    (nx : AL P N ops Q rest (lk ((q, .lit (subV (.slice ad n cap) sz a b)) :: l)) L) : AL P N ops Q ((o, k) :: rest) (lk l) L := by
  obtain ⟨dst, op', ty, pos, after, g⟩ := o
  simp only at ho
  subst ho
  subst hs
  refine s_pure hdst hd hg ⟨fun σ F w ρ hR hρ => ⟨_, ?_, .lit _⟩⟩ nx
  have h1 := hρ x (by simp [Op.operands])
  rw [hx] at h1
  have hu := (ok _ _ hT).slice rfl
  have hsz := (ok _ _ hE).sizeOf_run
  have hbnd : (Instr.sliceBounds true n cap (lo.map ρ) (hi.map ρ) none).run P w = .ok (a, b, cap) w := by
    have e2 : ∀ y, hi = some y → ∃ kk, ρ y = .int kk b := fun y hy => by
      subst hy
      obtain ⟨kk, j, hk, rfl⟩ := hhi
      have := hρ y (by simp [Op.operands])
      rw [hk] at this
      exact ⟨kk, this.lit_inv⟩
    have e1 : ∀ y, lo = some y → ∃ kk, ρ y = .int kk a := fun y hy => by
      subst hy
      obtain ⟨kk, j, hk, rfl⟩ := hlo
      have := hρ y (by simp [Op.operands])
      rw [hk] at this
      exact ⟨kk, this.lit_inv⟩
    cases lo with
    | none =>
      cases hi with
      | none => simp only at hlo hhi; subst hlo; subst hhi; simp [Instr.sliceBounds]
      | some y =>
        obtain ⟨kk, hk⟩ := e2 y rfl
        simp only at hlo; subst hlo
        simp [Instr.sliceBounds, hk, Instr.sliceBound, asIntOf, Int.ofNat_le, hb]
    | some z =>
      obtain ⟨kz, hz⟩ := e1 z rfl
      cases hi with
      | none => simp only at hhi; subst hhi; simp [Instr.sliceBounds, hz, Instr.sliceBound, asIntOf, hab]
      | some y =>
        obtain ⟨kk, hk⟩ := e2 y rfl
        simp [Instr.sliceBounds, hk, hz, Instr.sliceBound, asIntOf, hb, hab]
  simp only [execOp, h1.lit_inv, Option.map_none, Instr.sliceAt, Sem.run_bind, run_underlying hu, Result.andThen_ok, Instr.slice, hbnd, hsz, Sem.run_pure, subV]
theorem addr0 (g j : Nat) : (⟨g, 0, none⟩ : Addr).add j = ⟨g, j, none⟩ := by unfold Addr.add; split <;> simp_all
theorem SrcA.part {σ : Hp} {w : World} {v : Value} {E sz : Nat} {es : List (List AV)} (h : Own1 σ w (v, .row E sz es)) {lo hi : Nat} (h1 : lo ≤ hi) (h2 : hi ≤ es.length) : SrcA σ w (subV v sz lo hi) sz ((es.take hi).drop lo) := by
  obtain ⟨av, cap, hv, hcap⟩ := own_row_val h
  have hlen : ((es.take hi).drop lo).length = hi - lo := by simp; omega
  refine ⟨if cap = lo then av else av.map (·.add (lo * sz)), cap - lo, by rw [hv, hlen]; rfl, fun hne => ?_⟩
  have hlt : lo < hi := by
    rcases Nat.lt_or_ge lo hi with h | h
    · exact h
    · exact absurd (List.eq_nil_of_length_eq_zero (by rw [hlen]; omega)) hne
  have hne' : es ≠ [] := fun e => by rw [e] at h2; simp at h2; omega
  obtain ⟨g, cap', cur, hv', hc0, hg, hnc, hcm, hcs, hl, hvr⟩ := own_row_cells h hne'
  rw [hv] at hv'
  cases hv'
  have hfl : es.flatten.length = es.length * sz := flatten_len hl
  have hsz : es.length * sz ≤ cur.size := by rw [hcs]; exact Nat.mul_le_mul_right _ hnc
  have hhs : hi * sz ≤ es.length * sz := Nat.mul_le_mul_right _ h2
  have hls : lo * sz ≤ hi * sz := Nat.mul_le_mul_right _ h1
  refine ⟨⟨g, lo * sz, none⟩, (cur.toList.take (hi * sz)).drop (lo * sz), by rw [if_neg (by omega), Option.map_some, addr0], ?_, fun j u hu => ?_, ?_, fun e he => hl e (List.mem_of_mem_take (List.mem_of_mem_drop he))⟩
  · rw [List.length_drop, List.length_take, Array.length_toList, hlen, Nat.min_eq_left (by omega), Nat.sub_mul]
  · rw [List.getElem?_drop, List.getElem?_take] at hu
    rw [cell_at hg]
    split at hu
    · simpa using hu
    · cases hu
  · have e1 : ((es.take hi).drop lo).flatten = (es.flatten.take (hi * sz)).drop (lo * sz) := by
      rw [flatten_take hl h2]
      have hl' : ∀ e ∈ es.take hi, e.length = sz := fun e he => hl e (List.mem_of_mem_take he)
      have h6 : (es.take hi).flatten = ((es.take hi).take lo).flatten ++ ((es.take hi).drop lo).flatten := by rw [← List.flatten_append, List.take_append_drop]
      rw [h6, show lo * sz = ((es.take hi).take lo).flatten.length from (flatten_take_len hl' (by simp; omega)).symm, List.drop_left]
    rw [e1]
    have h7 := (hvr.take (hi * sz)).drop (lo * sz)
    rwa [List.take_take, Nat.min_eq_left hhs] at h7
theorem s_slice3 {tt : List (TypeId × TD)} (ok : TOK P tt) {o : Oper} {T : TypeId} {x y1 y2 y3 : Operand} {E0 s1 b1 : Nat} {z1 : List Value} {d : TD} {ad : Option Addr} {n cap : Nat} {k1 k2 k3 : IntKind} {j1 j2 j3 : Int} (a b c : Nat)
    (ho : o.op = .slice T x (some y1) (some y2) (some y3)) (hdst : o.dst = some q) (hd : Nat.blt q N = true) (hg : guardA ops o (lk l) = some true)
    (hT : lkT tt T = some ⟨.slice E0, s1, b1, z1⟩) (hE : lkT tt E0 = some d) (hx : ev (lk l) x = .lit (.slice ad n cap)) (h1 : ev (lk l) y1 = .lit (.int k1 j1)) (h2 : ev (lk l) y2 = .lit (.int k2 j2)) (h3 : ev (lk l) y3 = .lit (.int k3 j3)) (e1 : j1 = a) (e2 : j2 = b) (e3 : j3 = c) (hab : a ≤ b) (hbc : b ≤ c) (hc : c ≤ cap)
    (nx : AL P N ops Q rest (lk ((q, .any) :: l)) L) : AL P N ops Q ((o, k) :: rest) (lk l) L := by
  obtain ⟨dst, op', ty, pos, after, g⟩ := o
  simp only at ho
  subst ho
  subst e1; subst e2; subst e3
  have hu := (ok _ _ hT).slice rfl
  have hsz := (ok _ _ hE).sizeOf_run
  refine s_pure hdst hd hg ⟨fun σ F w ρ hR hρ => ⟨.slice (if c = a then ad else ad.map (·.add (a * d.size))) (b - a) (c - a), ?_, .any _⟩⟩ nx
  have g0 := hρ x (by simp [Op.operands])
  have g1 := hρ y1 (by simp [Op.operands])
  have g2 := hρ y2 (by simp [Op.operands])
  have g3 := hρ y3 (by simp [Op.operands])
  rw [hx] at g0
  rw [h1] at g1
  rw [h2] at g2
  rw [h3] at g3
  have hbnd : (Instr.sliceBounds true n cap (some (ρ y1)) (some (ρ y2)) (some (ρ y3))).run P w = .ok (a, b, c) w := by
    simp [Instr.sliceBounds, g1.lit_inv, g2.lit_inv, g3.lit_inv, Instr.sliceBound, asIntOf, hab, hbc, hc]
  simp only [execOp, g0.lit_inv, Option.map_some, Instr.sliceAt, Sem.run_bind, run_underlying hu, Result.andThen_ok, Instr.slice, hbnd, hsz, Sem.run_pure]
theorem s_appendMake {tt : List (TypeId × TD)} (ok : TOK P tt) (i : Nat) {o : Oper} {T TI : TypeId} {x y : Operand} {E s1 b1 s2 b2 : Nat} {z1 z2 : List Value} {ki kq : IntKind} {d : TD} {sz : Nat} {ad : Option Addr} {n c : Nat} {es : List (List AV)} (lo m : Nat) (ho : o.op = .call ⟨.builtin .append, #[x, y], #[T, TI]⟩) (hdst : o.dst = some q) (hd : Nat.blt q N = true) (hg : guardA ops o (lk l) = some true)
    (hT : lkT tt T = some ⟨.slice E, s1, b1, z1⟩) (hTI : lkT tt TI = some ⟨.int ki, s2, b2, z2⟩) (hE : lkT tt E = some d) (hpos : 0 < d.size) (hx : ev (lk l) x = .lit (subV (.slice ad n c) sz 0 lo)) (hL : L[i]? = some (.slice ad n c, .row E sz es)) (hs : sz = d.size) (hy : ∃ j : Int, ev (lk l) y = .lit (.int kq j) ∧ j = m)
    (hlo : lo ≤ n) (hm : 0 < m) (hgrow : c < lo + m) (hlen : lo + m ≤ 140737488355328) (hby : (lo + m) * d.bytes ≤ 140737488355328)
    (nx : ∀ v', AL P N ops Q rest (lk ((q, .lit v') :: l)) ((v', .row E sz (es.take lo ++ List.replicate m (d.zero.map .lit))) :: L)) : AL P N ops Q ((o, .eff) :: rest) (lk l) L := by
  obtain ⟨dst, op', ty, pos, after, g⟩ := o
  simp only at ho
  subst ho
  obtain ⟨jj, hy, rfl⟩ := hy
  subst hs
  refine s_eff (fun x M => ∃ v', x = .lit v' ∧ M = (v', .row E d.size (es.take lo ++ List.replicate m (d.zero.map .lit))) :: L) hdst hd hg ⟨fun σ F w ρ hR hρ => ?_⟩ (fun x M ⟨p, e1, e2⟩ => by rw [e1, e2]; exact nx p)
  have e1 := hρ x (by simp [Op.operands, Call.operands])
  have e2 := hρ y (by simp [Op.operands, Call.operands])
  rw [hx] at e1
  rw [hy] at e2
  have hu := (ok _ _ hT).slice rfl
  have hui := (ok _ _ hTI).int rfl
  obtain ⟨ti, z, hi, his, hib, hz, hzz⟩ := (ok _ _ hE).get
  have hown := hR.own1 hL
  obtain ⟨b, cap, hv, hcap⟩ := own_row_val hown
  injection hv with hv1 hv2 hv3
  subst hv1; subst hv2; subst hv3
  have hsub : subV (.slice ad es.length c) d.size 0 lo = .slice ad lo c := by
    simp only [subV, Nat.zero_mul, Nat.sub_zero]
    by_cases hc : c = 0
    · rw [if_pos hc]
    · rw [if_neg hc]
      have : (ad.map (·.add 0)) = ad := by cases ad <;> simp [Addr.add]
      rw [this]
  have hsrc := SrcA.part hown (Nat.zero_le lo) hlo
  rw [hsub, List.drop_zero] at hsrc
  obtain ⟨a', cap', hv', hcells⟩ := hsrc
  have hll : (es.take lo).length = lo := by simp; omega
  rw [hll] at hv'
  injection hv' with hv1 _ hv3
  subst hv1; subst hv3
  obtain ⟨olds, hol, hfirst, hvr, hl⟩ : ∃ olds : List Value, olds.length = lo * d.size ∧ (Builtin.firstCells ti.size lo (.slice ad lo c)).run P w.drew = .ok olds.toArray w.drew ∧ VRs σ (es.take lo).flatten olds ∧ ∀ e ∈ es.take lo, e.length = d.size := by
    by_cases h0 : es.take lo = []
    · have hlo0 : lo = 0 := by rw [h0] at hll; simpa using hll.symm
      subst hlo0
      refine ⟨[], by simp, ?_, by rw [h0]; exact .nil, by rw [h0]; simp⟩
      cases ad <;> simp [Builtin.firstCells, loadCells, loadCellsFrom]
    · obtain ⟨addr, news, rfl, f1, f2, f3, f4⟩ := hcells h0
      rw [hll] at f1
      refine ⟨news, f1, ?_, f3, f4⟩
      exact run_firstCells_some (P := P) w.drew ti.size lo addr lo c news (by rw [f1, his]) f2
  have hgr := Lib.run_append_grow_zeros (P := P) w T TI ty E ti z kq ki hu hui hi hz ad lo c olds hfirst m hm (by omega) hgrow (by omega) (by rw [hib]; have : m * d.bytes ≤ (lo + m) * d.bytes := Nat.mul_le_mul_right _ (by omega); omega) (growslice_fits (by omega) (by rw [hib]; omega))
  have hrun : (execOp ρ ⟨dst, .call ⟨.builtin .append, #[x, y], #[T, TI]⟩, ty, pos, after, g⟩).run P w = .ok (.value (.slice (some ⟨w.heap.size, 0, none⟩) (lo + m) (grownCap w (lo + m) c E)))
        (w.drew.alloc (.cells (olds.toArray ++ Builtin.zeroCells z.cells m ++ Builtin.zeroCells z.cells (grownCap w (lo + m) c E - (lo + m))) E)) := by
    simp [execOp, resolve, invoke, builtin, e1.lit_inv, e2.lit_inv, hsub, hgr]
  rw [hrun]
  have hge := grownCap_ge w (lo + m) c E
  have hcm := grownCap_le_maxLen w (lo + m) c E (by simp only [maxLen]; omega)
  have hzs : z.cells.size = d.size := by have := congrArg List.length hzz; rw [(ok _ _ hE).zlen] at this; simpa using this
  have hlen2 : (es.take lo ++ List.replicate m (d.zero.map AV.lit)).length = lo + m := by rw [List.length_append, hll, List.length_replicate]
  have hel : ∀ e ∈ es.take lo ++ List.replicate m (d.zero.map AV.lit), e.length = d.size := fun e he => by
    rcases List.mem_append.1 he with he | he
    · exact hl e he
    · rw [List.eq_of_mem_replicate he, List.length_map, (ok _ _ hE).zlen]
  have hzl : (Builtin.zeroCells z.cells m).toList.length = m * d.size := by rw [Array.length_toList, size_zeroCells, hzs]
  have hnew : Own1 σ (w.drew.alloc (.cells (olds.toArray ++ Builtin.zeroCells z.cells m ++ Builtin.zeroCells z.cells (grownCap w (lo + m) c E - (lo + m))) E)) (.slice (some ⟨w.heap.size, 0, none⟩) (lo + m) (grownCap w (lo + m) c E), .row E d.size (es.take lo ++ List.replicate m (d.zero.map .lit))) := by
    refine ⟨olds ++ (Builtin.zeroCells z.cells m).toList, .inr ⟨w.heap.size, _, _, by rw [hlen2], by omega, heap_alloc_new w.drew _, by rw [hlen2]; exact hge, hcm, ?_, ?_⟩, hel, ?_⟩
    · simp only [Array.size_append, List.size_toArray, size_zeroCells, hzs, hol, ← Nat.add_mul]
      congr 1
      omega
    · simp only [Array.toList_append, List.append_assoc]
      rw [hlen2, ← List.append_assoc, show (lo + m) * d.size = (olds ++ (Builtin.zeroCells z.cells m).toList).length by rw [List.length_append, hol, hzl, Nat.add_mul]]
      exact List.take_left
    · rw [List.flatten_append]
      refine hvr.append ?_
      have := made_rep (σ := σ) (z := z.cells) (zs := d.zero) (sz := d.size) (n := m) (c := m) hzz (ok _ _ hE).zlen (Nat.le_refl _)
      rw [show madeCells z.cells (m * d.size) = Builtin.zeroCells z.cells m from ?_] at this
      · rwa [List.take_of_length_le (by rw [hzl]; exact Nat.le_refl _)] at this
      · unfold madeCells Builtin.zeroCells; rw [hzs]
  refine ⟨σ, _, _, σ.le_refl, hR.new (b := w.heap.size) (by simp [blk]; omega) (Nat.le_refl _) (fun j hj => heap_alloc_old w.drew _ hj) rfl rfl hnew, .lit _, _, rfl, rfl⟩
theorem own_front {σ : Hp} {w : World} {a : Option Addr} {n c m : Nat} {E sz : Nat} {es : List (List AV)} (h : Own1 σ w (.slice a n c, .row E sz es)) (hm : m ≤ n) : Own1 σ w (.slice a m c, .row E sz (es.take m)) := by
  obtain ⟨xs, h1, h2, h3⟩ := h
  have hn : n = es.length := by
    rcases h1 with ⟨h0, a0, e⟩ | ⟨g, cap, cur, e, _⟩
    · injection e with _ e2 _; omega
    · injection e
  have hlen : (es.take m).length = m := by rw [List.length_take]; omega
  refine ⟨xs.take (m * sz), ?_, fun e he => h2 e (List.mem_of_mem_take he), ?_⟩
  · rcases h1 with ⟨h0, a0, hv0⟩ | ⟨g, cap', cur, hv0, hc0, hg, hn', hmx, hcs, ht⟩
    · injection hv0 with e1 e2 e3
      exact .inl ⟨by rw [hlen]; omega, a, by rw [e3, show m = 0 by omega]⟩
    · injection hv0 with e1 e2 e3
      refine .inr ⟨g, c, cur, by rw [hlen, e1], by omega, hg, by rw [hlen]; omega, by omega, by rw [e3]; exact hcs, ?_⟩
      rw [hlen, ← ht, List.take_take, Nat.min_eq_left (Nat.mul_le_mul_right _ (by omega))]
  · rw [← flatten_take h2 (by omega)]
    exact h3.take _
theorem s_appendBack {tt : List (TypeId × TD)} (ok : TOK P tt) (i : Nat) {o : Oper} {T : TypeId} {x y : Operand} {E s1 b1 : Nat} {z1 : List Value} {d : TD} {sz : Nat} {ad : Option Addr} {n c : Nat} {es : List (List AV)} (lo hi : Nat) (ho : o.op = .call ⟨.builtin .append, #[x, y], #[T, T]⟩) (hdst : o.dst = some q) (hd : Nat.blt q N = true) (hg : guardA ops o (lk l) = some true)
    (hT : lkT tt T = some ⟨.slice E, s1, b1, z1⟩) (hE : lkT tt E = some d) (hpos : 0 < d.size) (hx : ev (lk l) x = .lit (subV (.slice ad n c) sz 0 lo)) (hL : L[i]? = some (.slice ad n c, .row E sz es)) (hs : sz = d.size) (hy : ev (lk l) y = .lit (subV (.slice ad n c) sz hi n))
    (h1 : lo ≤ hi) (h2 : hi ≤ n) (hcell : es.all (fun e => e.all AV.cell) = true)
    (nx : AL P N ops Q rest (lk ((q, .lit (.slice ad (lo + (n - hi)) c)) :: l)) (L.set i (.slice ad (lo + (n - hi)) c, .row E sz (es.take lo ++ es.drop hi)))) : AL P N ops Q ((o, .eff) :: rest) (lk l) L := by
  obtain ⟨dst, op', ty, pos, after, g⟩ := o
  simp only at ho
  subst ho
  subst hs
  refine s_eff (fun x M => x = .lit (.slice ad (lo + (n - hi)) c) ∧ M = L.set i (.slice ad (lo + (n - hi)) c, .row E d.size (es.take lo ++ es.drop hi))) hdst hd hg ⟨fun σ F w ρ hR hρ => ?_⟩ (fun x M ⟨e1, e2⟩ => by rw [e1, e2]; exact nx)
  have e1 := hρ x (by simp [Op.operands, Call.operands])
  have e2 := hρ y (by simp [Op.operands, Call.operands])
  rw [hx] at e1
  rw [hy] at e2
  have hu := (ok _ _ hT).slice rfl
  obtain ⟨ti, z, hi', his, hib, hz, hzz⟩ := (ok _ _ hE).get
  have hown := hR.own1 hL
  obtain ⟨b, cap, hv, hcap⟩ := own_row_val hown
  injection hv with hv1 hv2 hv3
  subst hv1; subst hv2; subst hv3
  have hsub : subV (.slice ad es.length c) d.size 0 lo = .slice ad lo c := by
    simp only [subV, Nat.zero_mul, Nat.sub_zero]
    by_cases hc : c = 0
    · rw [if_pos hc]
    · rw [if_neg hc]
      have : (ad.map (·.add 0)) = ad := by cases ad <;> simp [Addr.add]
      rw [this]
  suffices hh : ∃ w', (Builtin.append_ #[T, T] ty #[.slice ad lo c, subV (.slice ad es.length c) d.size hi es.length]).run P w = .ok (.slice ad (lo + (es.length - hi)) c) w' ∧ Own1 σ w' (.slice ad (lo + (es.length - hi)) c, .row E d.size (es.take lo ++ es.drop hi)) ∧ w.heap.size ≤ w'.heap.size ∧ (∀ i, i < w.heap.size → some i ≠ blk (.slice ad es.length c) → w'.heap[i]? = w.heap[i]?) ∧ w'.os = w.os ∧ w'.output = w.output by
    obtain ⟨w', hr, ho2, k1, k2, k3, k4⟩ := hh
    have hrun : (execOp ρ ⟨dst, .call ⟨.builtin .append, #[x, y], #[T, T]⟩, ty, pos, after, g⟩).run P w = .ok (.value (.slice ad (lo + (es.length - hi)) c)) w' := by
      simp [execOp, resolve, invoke, builtin, e1.lit_inv, e2.lit_inv, hsub, hr]
    rw [hrun]
    refine ⟨σ, _, _, σ.le_refl, hR.writeAt hL k1 k2 k3 k4 (fun b hb => .inl ?_) ho2, .lit _, rfl, rfl⟩
    cases ad with
    | none => simp [blk] at hb
    | some a => simpa [blk] using hb
  by_cases h0 : hi = es.length
  · subst h0
    refine ⟨w, ?_, ?_, Nat.le_refl _, fun _ _ _ => rfl, rfl, rfl⟩
    · rw [Nat.sub_self, Nat.add_zero]
      simp only [subV, Nat.sub_self]
      split
      · exact run_append_zero w T ty E ti hu hi' ad lo c (by omega) _ _
      · exact run_append_zero w T ty E ti hu hi' ad lo c (by omega) _ _
    · rw [Nat.sub_self, Nat.add_zero, List.drop_length, List.append_nil]
      exact own_front hown h1
  · have hne : es ≠ [] := fun e => by subst e; simp at h0 h2; omega
    have hsrc := SrcA.part hown h2 (Nat.le_refl _)
    rw [List.take_length] at hsrc
    obtain ⟨au, cu, hvu, hcells⟩ := hsrc
    have hdne : es.drop hi ≠ [] := fun e => by have := congrArg List.length e; simp at this; omega
    obtain ⟨addr, news, rfl, f1, f2, f3, f4⟩ := hcells hdne
    obtain ⟨g2, cap', cur, hv', hc0, hg2, hnc, hcm, hcs, hl, hvr⟩ := own_row_cells hown hne
    injection hv' with hv1 _ hv3
    subst hv1; subst hv3
    have hdl : (es.drop hi).length = es.length - hi := by simp
    rw [hdl] at f1 hvu
    have hone : ∀ u ∈ news, u.oneCell' = true := f3.oneCell (by
      rw [List.all_eq_true]
      intro x hx
      obtain ⟨e, he, hxe⟩ := List.mem_flatten.1 hx
      exact List.all_eq_true.1 (List.all_eq_true.1 hcell e (List.mem_of_mem_drop he)) x hxe)
    have hfit : lo * ti.size + news.length ≤ cur.size := by
      rw [f1, his, hcs, ← Nat.add_mul]
      exact Nat.mul_le_mul_right _ (by omega)
    have hr := run_append_room (P := P) w T ty E ti hu hi' g2 lo c cur hg2 addr (es.length - hi) cu news (by rw [f1, his]) f2 hone (by omega) hfit
    rw [his] at hr hfit
    refine ⟨w.setRow g2 (cur.toList.take (lo * d.size) ++ news ++ cur.toList.drop (lo * d.size + news.length)).toArray, ?_, ?_, by simp, fun q hq hne => setRow_other w g2 q _ (fun e => hne (by rw [e]; simp [blk]; omega)), rfl, rfl⟩
    · rw [hvu]; exact hr
    · have hlen2 : (es.take lo ++ es.drop hi).length = lo + (es.length - hi) := by simp; omega
      refine ⟨(cur.toList.take (es.length * d.size)).take (lo * d.size) ++ news, .inr ⟨g2, c, _, by rw [hlen2], hc0, setRow_heap w g2 cur _ E _ hg2, by rw [hlen2]; omega, hcm, ?_, ?_⟩, fun e he => ?_, ?_⟩
      · simp only [List.size_toArray, List.length_append, List.length_take, List.length_drop, Array.length_toList]
        omega
      · simp only [List.toList_toArray]
        have hlz : (cur.toList.take (lo * d.size)).length = lo * d.size := by rw [List.length_take, Array.length_toList]; omega
        rw [hlen2, List.take_take, Nat.min_eq_left (Nat.mul_le_mul_right _ (by omega)), show (lo + (es.length - hi)) * d.size = (cur.toList.take (lo * d.size) ++ news).length by rw [List.length_append, hlz, f1, Nat.add_mul]]
        exact List.take_left
      · rcases List.mem_append.1 he with he | he
        · exact hl e (List.mem_of_mem_take he)
        · exact f4 e he
      · rw [List.flatten_append, ← flatten_take hl (by omega)]
        exact (hvr.take _).append f3
theorem s_clearTail {tt : List (TypeId × TD)} (ok : TOK P tt) (i : Nat) {o : Oper} {T : TypeId} {x : Operand} {E s1 b1 : Nat} {z1 : List Value} {d : TD} {sz : Nat} {ad : Option Addr} {n c : Nat} {es : List (List AV)} (a b : Nat) (ho : o.op = .call ⟨.builtin .clear, #[x], #[T]⟩) (hdst : o.dst = none) (hg : guardA ops o (lk l) = some true)
    (hT : lkT tt T = some ⟨.slice E, s1, b1, z1⟩) (hE : lkT tt E = some d) (hx : ev (lk l) x = .lit (subV (.slice ad n c) sz a b)) (hL : L[i]? = some (.slice ad n c, .row E sz es)) (hs : sz = d.size)
    (h1 : n ≤ a) (h2 : a ≤ b) (h3 : b ≤ c) (hcell : d.zero.all Value.oneCell' = true)
    (nx : AL P N ops Q rest (lk l) L) : AL P N ops Q ((o, .eff) :: rest) (lk l) L := by
  obtain ⟨dst, op', ty, pos, after, g⟩ := o
  simp only at ho
  subst ho
  subst hs
  refine s_eff0 (fun x M => x = .lit (.tuple #[]) ∧ M = L) hdst hg ⟨fun σ F w ρ hR hρ => ?_⟩ (fun x M ⟨e1, e2⟩ => by rw [e2]; exact nx)
  have e1 := hρ x (by simp [Op.operands, Call.operands])
  rw [hx] at e1
  have hu := (ok _ _ hT).slice rfl
  have hown := hR.own1 hL
  obtain ⟨z, hz, hzz⟩ := (ok _ _ hE).zero_run w
  suffices hh : ∃ w', (Builtin.clear_ #[T] ty #[subV (.slice ad n c) d.size a b]).run P w = .ok (.tuple #[]) w' ∧ Own1 σ w' (.slice ad n c, .row E d.size es) ∧ w.heap.size ≤ w'.heap.size ∧ (∀ i, i < w.heap.size → some i ≠ blk (.slice ad n c) → w'.heap[i]? = w.heap[i]?) ∧ w'.os = w.os ∧ w'.output = w.output by
    obtain ⟨w', hr, ho2, k1, k2, k3, k4⟩ := hh
    have hrun : (execOp ρ ⟨dst, .call ⟨.builtin .clear, #[x], #[T]⟩, ty, pos, after, g⟩).run P w = .ok (.value (.tuple #[])) w' := by
      simp [execOp, resolve, invoke, builtin, e1.lit_inv, hr]
    rw [hrun]
    have hR2 := hR.writeAt hL k1 k2 k3 k4 (fun b hb => .inl hb) ho2
    have hself : L.set i (Value.slice ad n c, OB.row E d.size es) = L := by
      obtain ⟨hlt, he⟩ := List.getElem?_eq_some_iff.1 hL
      rw [← he]; exact List.set_getElem_self hlt
    rw [hself] at hR2
    exact ⟨σ, _, _, σ.le_refl, hR2, .lit _, rfl, rfl⟩
  have quiet : (b - a = 0 ∨ ad = none) → ∃ w', (Builtin.clear_ #[T] ty #[subV (.slice ad n c) d.size a b]).run P w = .ok (.tuple #[]) w' ∧ Own1 σ w' (.slice ad n c, .row E d.size es) ∧ w.heap.size ≤ w'.heap.size ∧ (∀ i, i < w.heap.size → some i ≠ blk (.slice ad n c) → w'.heap[i]? = w.heap[i]?) ∧ w'.os = w.os ∧ w'.output = w.output := fun h => by
    refine ⟨w, ?_, hown, Nat.le_refl _, fun _ _ _ => rfl, rfl, rfl⟩
    rcases h with h | h
    · simp only [subV, h]
      generalize (if c = a then ad else ad.map (·.add (a * d.size))) = ad2
      cases ad2 <;> simp [Builtin.clear_, run_underlying hu]
    · subst h
      simp only [subV, Option.map_none, ite_self]
      simp [Builtin.clear_, run_underlying hu]
  by_cases hq : b - a = 0 ∨ ad = none
  · exact quiet hq
  · obtain ⟨hab, hadn⟩ := not_or.1 hq
    have hown' := hown
    obtain ⟨xs, hrow, hl, hvr⟩ := hown'
    rcases hrow with ⟨h0, a0, e⟩ | ⟨g2, cap', cur, hv', hc0, hg2, hnc, hcm, hcs, ht⟩
    · injection e with _ _ e3; omega
    · injection hv' with hv1 hv2 hv3
      subst hv1; subst hv2; subst hv3
      have hsub : subV (.slice (some ⟨g2, 0, none⟩) es.length c) d.size a b = .slice (some ⟨g2, a * d.size, none⟩) (b - a) (c - a) := by
        simp only [subV, if_neg (show ¬ c = a by omega), Option.map_some, addr0]
      have hzs : z.cells.size = d.size := by have := congrArg List.length hzz; rw [(ok _ _ hE).zlen] at this; simpa using this
      have hone : ∀ u ∈ (Builtin.zeroCells z.cells (b - a)).toList, u.oneCell' = true := fun u hu' => by
        have hrep := made_rep (σ := σ) (z := z.cells) (zs := d.zero) (sz := d.size) (n := b - a) (c := b - a) hzz (ok _ _ hE).zlen (Nat.le_refl _)
        rw [show madeCells z.cells ((b - a) * d.size) = Builtin.zeroCells z.cells (b - a) by unfold madeCells Builtin.zeroCells; rw [hzs]] at hrep
        have hzl : (Builtin.zeroCells z.cells (b - a)).toList.length = (b - a) * d.size := by rw [Array.length_toList, size_zeroCells, hzs]
        rw [List.take_of_length_le (by rw [hzl]; exact Nat.le_refl _)] at hrep
        refine hrep.oneCell ?_ u hu'
        rw [List.all_eq_true] at hcell ⊢
        intro x hx
        obtain ⟨e, he, hxe⟩ := List.mem_flatten.1 hx
        rw [List.eq_of_mem_replicate he] at hxe
        obtain ⟨v, hv, rfl⟩ := List.mem_map.1 hxe
        exact hcell v hv
      have hzl : (Builtin.zeroCells z.cells (b - a)).toList.length = (b - a) * d.size := by rw [Array.length_toList, size_zeroCells, hzs]
      have hfit : a * d.size + (Builtin.zeroCells z.cells (b - a)).toList.length ≤ cur.size := by
        rw [hzl, hcs, ← Nat.add_mul]; exact Nat.mul_le_mul_right _ (by omega)
      have hst := run_storeCells_at P g2 (a * d.size) E (Builtin.zeroCells z.cells (b - a)).toList 0 cur w hg2 (by simpa using hfit) hone
      simp only [Nat.add_zero] at hst
      refine ⟨w.setRow g2 (cur.toList.take (a * d.size) ++ (Builtin.zeroCells z.cells (b - a)).toList ++ cur.toList.drop (a * d.size + (Builtin.zeroCells z.cells (b - a)).toList.length)).toArray, ?_, ?_, by simp, fun q hq hne => setRow_other w g2 q _ (fun e => hne (by rw [e]; simp [blk]; omega)), rfl, rfl⟩
      · rw [hsub]
        obtain ⟨m, hm⟩ : ∃ m, b - a = m + 1 := ⟨b - a - 1, by omega⟩
        rw [hm] at hst ⊢
        simp [Builtin.clear_, run_underlying hu, hz, hst]
      · refine ⟨xs, .inr ⟨g2, c, _, rfl, hc0, setRow_heap w g2 cur _ E _ hg2, hnc, hcm, ?_, ?_⟩, hl, hvr⟩
        · simp only [List.size_toArray, List.length_append, List.length_take, List.length_drop, Array.length_toList]
          rw [Array.length_toList] at hfit
          omega
        · simp only [List.toList_toArray]
          have hla : es.length * d.size ≤ a * d.size := Nat.mul_le_mul_right _ h1
          have hsz : a * d.size ≤ cur.size := Nat.le_trans (Nat.le_add_right _ _) hfit
          rw [List.append_assoc, List.take_append_of_le_length (by rw [List.length_take]; exact Nat.le_min.2 ⟨hla, by simpa using Nat.le_trans hla hsz⟩), List.take_take, Nat.min_eq_left hla]
          exact ht
end
end Go.Sj
namespace Go.Sj
inductive OX where
  | stop
  | nd (is : List Nat) (kid sib : OX)
def OX.len : OX → Nat
  | .stop => 0
  | .nd is kid _ => is.length + kid.len
def OX.all (n : Nat) : OX → Bool
  | .stop => true
  | .nd is kid sib => (is.all fun i => Nat.blt i n) && kid.all n && sib.all n
def OX.heads : OX → List Nat
  | .stop => []
  | .nd is _ sib => is.headD 0 :: sib.heads
def chkX (ops : Array Oper) (ks : List Kd) : Nat → OX → Array Bool → Bool
  | _, .stop, _ => true
  | m, .nd [] _ _, _ => false
  | m, .nd (i :: is) kid sib, li => (ks.getD i .eff == .eff) && (Nat.beq (is.length + 1 + kid.len) m) && (match chkP ops ks is (li.setIfInBounds i true) with
    | some li' => (Region.ready .any ops li' == kid.heads) && chkX ops ks kid.len kid li'
    | none => false) && chkX ops ks m sib li
def AX (ks : List Kd) (P : Program) (N : Nat) (l : List Oper) (Q : St → Own → Prop) : Bool → OX → St → Own → Prop
  | true, .stop, st, L => Q st L
  | false, .stop, _, _ => True
  | _, .nd is kid sib, st, L => AL P N l (fun st' L' => AX ks P N l Q true kid st' L') (mkLK ks l is) st L ∧ AX ks P N l Q false sib st L
section
variable {ks : List Kd} {P : Program} {N : Nat} {l : List Oper} {Q : St → Own → Prop}
theorem ax_stop {st : St} {L : Own} (h : Q st L) : AX ks P N l Q true .stop st L := h
theorem ax_none {st : St} {L : Own} : AX ks P N l Q false .stop st L := trivial
theorem ax_nd {b : Bool} {is : List Nat} {kid sib : OX} {st : St} {L : Own} (h : AL P N l (fun st' L' => AX ks P N l Q true kid st' L') (mkLK ks l is) st L) (k : AX ks P N l Q false sib st L) : AX ks P N l Q b (.nd is kid sib) st L := by
  cases b <;> exact ⟨h, k⟩
theorem AAny_x : ∀ (t : OX) (li : Array Bool) (st : St) (L : Own) (m : Nat), t.all l.length = true → AX ks P N l Q false t st L → chkX l.toArray ks m t li = true → ∀ i ∈ t.heads, ∀ o, l[i]? = some o →
    ks.getD i .eff = .eff ∧ ∃ m', m = m' + 1 ∧ AK P N l .eff o (AAny P N l ks Q m' (li.setIfInBounds i true)) st L
  | .stop, li, st, L, m, _, _, _, i, hi, o, ho => by cases hi
  | .nd [] kid sib, li, st, L, m, _, _, hc, i, hi, o, ho => by cases hc
  | .nd (i0 :: is) kid sib, li, st, L, m, hall, h, hc, i, hi, o, ho => by
    simp only [OX.all, Bool.and_eq_true] at hall
    obtain ⟨⟨hall1, hall2⟩, hall3⟩ := hall
    simp only [chkX, Bool.and_eq_true] at hc
    obtain ⟨⟨⟨c1, c2⟩, c3⟩, c4⟩ := hc
    have c2 := Nat.eq_of_beq_eq_true c2
    rcases List.mem_cons.1 hi with hi | hi
    · have hi : i = i0 := hi
      subst hi
      have ho : l[i]? = some o := ho
      have hk : ks.getD i .eff = .eff := by simpa using c1
      refine ⟨hk, is.length + kid.len, by omega, ?_⟩
      have h1 := h.1
      rw [mkLK_cons ho, hk] at h1
      simp only [List.all_cons, Bool.and_eq_true] at hall1
      obtain ⟨g1, g2⟩ := mkLK_facts (ks := ks) hall1.2
      split at c3
      · rename_i li' hli
        simp only [Bool.and_eq_true, beq_iff_eq] at c3
        obtain ⟨r1, r2⟩ := c3
        have part : ∀ st' L', AX ks P N l Q true kid st' L' → AAny P N l ks Q kid.len li' st' L' := fun st' L' hA => by
          cases kid with
          | stop => exact ⟨r1, hA⟩
          | nd is' kid' sib' =>
            have hpos : ∃ q, (OX.nd is' kid' sib').len = q + 1 := by
              cases is' with
              | nil => cases r2
              | cons a is' => exact ⟨is'.length + kid'.len, by simp only [OX.len, List.length_cons]; omega⟩
            obtain ⟨q, hq⟩ := hpos
            rw [hq] at r2 ⊢
            refine ⟨fun h0 => (by rw [r1] at h0; cases h0), fun j hj oj hoj => ?_⟩
            rw [r1] at hj
            obtain ⟨hkj, m', e1, e2⟩ := AAny_x (.nd is' kid' sib') li' st' L' (q + 1) hall2 hA r2 j hj oj hoj
            obtain rfl : q = m' := by omega
            rw [hkj]; exact e2
        refine (AL_head h1).mono fun st' L' h' => ?_
        have := AAny_pre (ks := ks) (Q := Q) (fuel := kid.len) (li := li') h' part is _ g1 g2 hli
        rw [← g1] at this
        exact this
      · cases c3
    · exact AAny_x sib li st L m hall3 h.2 c4 i hi o ho
end
theorem a_regX {P : Program} {N : Nat} {Q : Exit → St → Own → Prop} {st : St} {L : Own} {id : Nat} {l : List Oper} (ks : List Kd) (is : List Nat) (t : OX) (hm : P.follows .mixedOrders = true) (hlen : Nat.beq (is.length + t.len) l.length = true) (hin : (is.all (fun i => Nat.blt i l.length) && t.all l.length) = true)
    (hc : (match chkP l.toArray ks is (Array.replicate l.length false) with
      | some li => (Region.ready .any l.toArray li == t.heads) && chkX l.toArray ks t.len t li
      | none => false) = true)
    (h : AL P N l (fun st' L' => AX ks P N l (fun st' L' => Q .normal st' L') true t st' L') (mkLK ks l is) st L) : AWp P N (.region id l.toArray true) Q st L :=
  ⟨fun σ F w a hr ht => wp_region_any hm (by
    simp only [Bool.and_eq_true] at hin
    have hlen := Nat.eq_of_beq_eq_true hlen
    obtain ⟨g1, g2⟩ := mkLK_facts (ks := ks) hin.1
    split at hc
    · rename_i li hli
      simp only [Bool.and_eq_true, beq_iff_eq] at hc
      obtain ⟨r1, r2⟩ := hc
      have part : ∀ st' L', AX ks P N l (fun st' L' => Q .normal st' L') true t st' L' → AAny P N l ks (fun st' L' => Q .normal st' L') t.len li st' L' := fun st' L' hA => by
        cases t with
        | stop => exact ⟨r1, hA⟩
        | nd is' kid' sib' =>
          have hpos : ∃ q, (OX.nd is' kid' sib').len = q + 1 := by
            cases is' with
            | nil => cases r2
            | cons a is' => exact ⟨is'.length + kid'.len, by simp only [OX.len, List.length_cons]; omega⟩
          obtain ⟨q, hq⟩ := hpos
          rw [hq] at r2 ⊢
          refine ⟨fun h0 => (by rw [r1] at h0; cases h0), fun j hj oj hoj => ?_⟩
          rw [r1] at hj
          obtain ⟨hkj, m', e1, e2⟩ := AAny_x (.nd is' kid' sib') li st' L' (q + 1) hin.2 hA r2 j hj oj hoj
          obtain rfl : q = m' := by omega
          rw [hkj]; exact e2
      have h1 := AAny_pre (ks := ks) (Q := fun st' L' => Q .normal st' L') (fuel := t.len) (li := li) h part is (Array.replicate l.length false) g1 g2 hli
      rw [← g1, hlen] at h1
      have := AAny_wp (F := F) (Q' := Post σ N F Q) l.length _ st L σ a { w with drawn := w.drawn + 1 } h1 (hr.grow (fun _ _ => rfl) rfl rfl) ht (fun τ st' L' a' w' a1 a2 a3 a4 => ⟨τ, st', L', a1, a2, a3, a4⟩)
      simpa using this
    · cases hc)⟩
theorem a_regXP {P : Program} {N : Nat} {Q : Exit → St → Own → Prop} {st : St} {L : Own} {id : Nat} {l : List Oper} (is : List Nat) (t : OX) (hm : P.follows .mixedOrders = true) (hlen : Nat.beq (is.length + t.len) l.length = true) (hin : (is.all (fun i => Nat.blt i l.length) && t.all l.length) = true)
    (hc : (match chkP l.toArray (l.map fun o => kdOf o.op) is (Array.replicate l.length false) with
      | some li => (Region.ready .any l.toArray li == t.heads) && chkX l.toArray (l.map fun o => kdOf o.op) t.len t li
      | none => false) = true)
    (h : AL P N l (fun st' L' => AX (l.map fun o => kdOf o.op) P N l (fun st' L' => Q .normal st' L') true t st' L') (mkLK (l.map fun o => kdOf o.op) l is) st L) : AWp P N (.region id l.toArray true) Q st L := a_regX _ is t hm hlen hin hc h
end Go.Sj
namespace Go.Sj
section
variable {P : Program} {N : Nat} {ops : List Oper} {Q : St → Own → Prop} {L : Own} {rest : List (Oper × Kd)} {l : List (Nat × AV)} {k : Kd} {q : Nat}
theorem lk_self (q : Nat) (x : AV) (l : List (Nat × AV)) : lk ((q, x) :: l) q = x := by
  have : Nat.beq q q = true := Nat.beq_refl q
  simp only [lk, this, cond_true]
theorem s_appendImF {tt : List (TypeId × TD)} (ok : TOK P tt) (i : Nat) {o : Oper} {T : TypeId} {x y : Operand} {E s1 b1 : Nat} {z1 : List Value} {d : TD} {sz : Nat} {v : Value} {es es2 : List (List AV)} (ho : o.op = .call ⟨.builtin .append, #[x, y], #[T, T]⟩) (hdst : o.dst = some q) (hd : Nat.blt q N = true) (hg : guardA ops o (lk l) = some true)
    (hT : lkT tt T = some ⟨.slice E, s1, b1, z1⟩) (hE : lkT tt E = some d) (hpos : 0 < d.size) (hx : ev (lk l) x = .lit v) (hL : L[i]? = some (v, .row E sz es)) (hs : sz = d.size) (hy : ev (lk l) y = .im sz es2)
    (hcell : es2.all (fun e => e.all AV.cell) = true) (hlen : es.length + es2.length ≤ 140737488355328) (hby : (es.length + es2.length) * d.bytes ≤ 140737488355328)
    (nx : AL P N ops Q rest (lk ((q, .im sz (es ++ es2)) :: l)) (L.eraseIdx i)) : AL P N ops Q ((o, .eff) :: rest) (lk l) L :=
  s_frzNow (E := E) i hdst hd hg (s_appendIm ok i ho hdst hd hg hT hE hpos hx hL hs hy hcell hlen hby (fun v' => AL.nil ⟨v', lk_self _ _ _, List.getElem?_set_self (List.getElem?_eq_some_iff.1 hL).1, List.eraseIdx_set_eq⟩)) nx
end
end Go.Sj
end
