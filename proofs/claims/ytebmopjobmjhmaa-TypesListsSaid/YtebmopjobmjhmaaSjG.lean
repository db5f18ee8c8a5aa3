/-
  Part G: steps that make memory, append, call; what no longer changes; what is lent to a callee.
  No condition; nothing here names a program.
-/
import Derived.Test.YtebmopjobmjhmaaSjF
namespace Go.Sj
set_option linter.unusedVariables false
set_option linter.unusedSimpArgs false

section
variable {P : Program} {N : Nat} {ops : List Oper} {Q : St → Own → Prop} {L : Own} {rest : List (Oper × Kd)} {l : List (Nat × AV)} {k : Kd} {q : Nat}

theorem alloc_keep (w : World) (o : Obj) : ∀ i, i < w.heap.size → (w.alloc o).heap[i]? = w.heap[i]? := fun i hi => heap_alloc_old w o hi

/-- A new variable. -/
theorem s_alloc {tt : List (TypeId × TD)} (ok : TOK P tt) {o : Oper} {T : TypeId} {d : TD} (ho : o.op = .alloc T) (hdst : o.dst = some q) (hd : Nat.blt q N = true) (hg : guardA ops o (lk l) = some true) (hT : lkT tt T = some d)
    (n : ∀ p, AL P N ops Q rest (lk ((q, .pt p 0 0 0) :: l)) ((p, .box (d.zero.map .lit)) :: L)) : AL P N ops Q ((o, .eff) :: rest) (lk l) L := by
  obtain ⟨dst, op', ty, pos, after, g⟩ := o
  simp only at ho
  subst ho
  refine s_eff (fun x M => ∃ p, x = .pt p 0 0 0 ∧ M = (p, .box (d.zero.map .lit)) :: L) hdst hd hg ⟨fun σ F w ρ hR hρ => ?_⟩ (fun x M ⟨p, e1, e2⟩ => by rw [e1, e2]; exact n p)
  obtain ⟨z, hz, hzz⟩ := (ok _ _ hT).zero_run w
  have hrun : (execOp ρ ⟨dst, .alloc T, ty, pos, after, g⟩).run P w = .ok (.value (.pointer (some ⟨w.heap.size, 0, none⟩))) (w.alloc (.cells z.cells T)) := by
    simp [execOp, Instr.alloc, hz, newVar, newRow]
  rw [hrun]
  refine ⟨σ, _, _, σ.le_refl, hR.new (v := .pointer (some ⟨w.heap.size, 0, none⟩)) (ob := .box (d.zero.map .lit)) (b := w.heap.size) rfl (Nat.le_refl _) (alloc_keep w _) rfl rfl
    ⟨w.heap.size, z.cells, T, rfl, heap_alloc_new w _, by rw [hzz]; exact VRs.lits _⟩, ?_, ⟨_, rfl, rfl⟩⟩
  have := VR.pt (σ := σ) (.pointer (some ⟨w.heap.size, 0, none⟩)) 0 0 0 w.heap.size rfl
  simpa using this

/-- A new variable with a value. -/
theorem s_box {o : Oper} {T : TypeId} {x : Operand} {a : AV} (ho : o.op = .box T x) (hdst : o.dst = some q) (hd : Nat.blt q N = true) (hg : guardA ops o (lk l) = some true) (hx : ev (lk l) x = a) (ha : a.whole = true)
    (n : ∀ p, AL P N ops Q rest (lk ((q, .pt p 0 0 0) :: l)) ((p, .box a.cells) :: L)) : AL P N ops Q ((o, .eff) :: rest) (lk l) L := by
  obtain ⟨dst, op', ty, pos, after, g⟩ := o
  simp only at ho
  subst ho
  refine s_eff (fun x M => ∃ p, x = .pt p 0 0 0 ∧ M = (p, .box a.cells) :: L) hdst hd hg ⟨fun σ F w ρ hR hρ => ?_⟩ (fun x M ⟨p, e1, e2⟩ => by rw [e1, e2]; exact n p)
  have e1 := hρ x (by simp [Op.operands])
  rw [hx] at e1
  have hrun : (execOp ρ ⟨dst, .box T x, ty, pos, after, g⟩).run P w = .ok (.value (.pointer (some ⟨w.heap.size, 0, none⟩))) (w.alloc (.cells (ρ x).cells T)) := by
    simp [execOp, Instr.box, newVar, newRow]
  rw [hrun]
  refine ⟨σ, _, _, σ.le_refl, hR.new (v := .pointer (some ⟨w.heap.size, 0, none⟩)) (ob := .box a.cells) (b := w.heap.size) rfl (Nat.le_refl _) (alloc_keep w _) rfl rfl
    ⟨w.heap.size, _, T, rfl, heap_alloc_new w _, e1.cells (AV.whole_spec ha)⟩, ?_, ⟨_, rfl, rfl⟩⟩
  have := VR.pt (σ := σ) (.pointer (some ⟨w.heap.size, 0, none⟩)) 0 0 0 w.heap.size rfl
  simpa using this

/-- The value of a new row with n elements and room for c. -/
theorem own_new {σ : Hp} {w : World} {E sz n c : Nat} {cur : Array Value} {es : List (List AV)} (hn : es.length = n) (hnc : n ≤ c) (hm : c ≤ maxLen) (hc : cur.size = c * sz) (hl : ∀ e ∈ es, e.length = sz) (h : VRs σ es.flatten (cur.toList.take (n * sz))) :
    Own1 σ (w.alloc (.cells cur E)) (.slice (some ⟨w.heap.size, 0, none⟩) n c, .row E sz es) := by
  subst hn
  refine ⟨_, ?_, hl, h⟩
  rcases Nat.eq_zero_or_pos c with h0 | h0
  · subst h0
    exact .inl ⟨by omega, _, by rw [show es.length = 0 by omega]⟩
  · exact .inr ⟨w.heap.size, c, cur, rfl, h0, heap_alloc_new w _, hnc, hm, hc, rfl⟩
theorem HRel.newRow {σ : Hp} {L : Own} {F : Fr} {w : World} (h : HRel σ L F w) {E sz n c : Nat} {cur : Array Value} {es : List (List AV)} (hown : Own1 σ (w.alloc (.cells cur E)) (.slice (some ⟨w.heap.size, 0, none⟩) n c, .row E sz es)) :
    HRel σ ((.slice (some ⟨w.heap.size, 0, none⟩) n c, .row E sz es) :: L) F (w.alloc (.cells cur E)) := by
  by_cases hc : c = 0
  · have hg : HRel σ L F (w.alloc (.cells cur E)) := h.grow (alloc_keep w _) rfl rfl
    have hb : blk (.slice (some ⟨w.heap.size, 0, none⟩) n c) = none := by simp [blk, hc]
    refine ⟨hg.agree, hg.frame, hg.os, hg.out, fun p hp => ?_, hg.sep, ?_, ?_⟩
    · rcases List.mem_cons.1 hp with rfl | hp
      · exact hown
      · exact hg.own p hp
    · simpa [hb] using hg.nodup
    · simpa [hb] using hg.apart
  · exact h.new (b := w.heap.size) (by simp [blk, hc]) (Nat.le_refl _) (alloc_keep w _) rfl rfl hown

theorem VRs.of_lits {σ : Hp} {xs : List AV} {vs : List Value} (hl : xs.length = vs.length) (h : ∀ (i : Nat) (x : AV), xs[i]? = some x → ∃ v, x = .lit v ∧ vs[i]? = some v) : VRs σ xs vs :=
  ⟨hl.symm, fun j x y hx hy => by
    obtain ⟨v, rfl, hv⟩ := h j x hx
    rw [hv] at hy
    cases hy
    exact .lit _⟩

theorem made_rep {σ : Hp} {z : Array Value} {zs : List Value} {sz n c : Nat} (hz : z.toList = zs) (hlen : zs.length = sz) (hnc : n ≤ c) : VRs σ (List.replicate n (zs.map AV.lit)).flatten ((madeCells z (c * sz)).toList.take (n * sz)) := by
  have hzs : z.size = sz := by rw [← hlen, ← hz]; simp
  have hl : ∀ e ∈ List.replicate n (zs.map AV.lit), e.length = sz := fun e he => by rw [(List.mem_replicate.1 he).2]; simpa using hlen
  have hfl := flatten_len hl
  rw [List.length_replicate] at hfl
  have hcs : n * sz ≤ c * sz := Nat.mul_le_mul_right _ hnc
  refine VRs.of_lits (by rw [hfl, List.length_take, Array.length_toList, size_madeCells]; omega) (fun i x hx => ?_)
  have hi : i < n * sz := by rw [← hfl]; exact (List.getElem?_eq_some_iff.1 hx).1
  have hpos : 0 < sz := by
    rcases Nat.eq_zero_or_pos sz with h0 | h0
    · rw [h0] at hi; simp at hi
    · exact h0
  have hq : i / sz < n := Nat.div_lt_of_lt_mul (by rw [Nat.mul_comm]; exact hi)
  have he : (List.replicate n (zs.map AV.lit))[i / sz]? = some (zs.map AV.lit) := by simp [List.getElem?_replicate, hq]
  have hr : i % sz < (zs.map AV.lit).length := by simp [hlen]; exact Nat.mod_lt _ hpos
  have hii : i / sz * sz + i % sz = i := by rw [Nat.mul_comm]; exact Nat.div_add_mod i sz
  have hg := flatten_get hl he hr
  rw [hii, hx, List.getElem?_map] at hg
  have hlt : i % sz < zs.length := by rw [hlen]; exact Nat.mod_lt _ hpos
  rw [List.getElem?_eq_getElem hlt] at hg
  simp only [Option.map_some, Option.some.injEq] at hg
  refine ⟨_, hg, ?_⟩
  rw [List.getElem?_take, if_pos hi, Array.getElem?_toList]
  have hic : i < c * sz := by omega
  simp only [madeCells, Array.getElem?_map, Array.getElem?_range, if_pos hic, Option.map_some]
  congr 1
  subst hz
  have hlt' : i % z.size < z.size := by rw [hzs]; exact Nat.mod_lt _ hpos
  rw [getElem!_pos z (i % z.size) hlt']
  simp [hzs]

/-- 'make([]E, n, c)'. -/
theorem s_make {tt : List (TypeId × TD)} (ok : TOK P tt) {o : Oper} {T : TypeId} {x y : Operand} {E s1 b1 : Nat} {z1 : List Value} {d : TD} {k1 k2 : IntKind} {n c : Int} (ho : o.op = .makeSlice T x y) (hdst : o.dst = some q) (hd : Nat.blt q N = true) (hg : guardA ops o (lk l) = some true)
    (hT : lkT tt T = some ⟨.slice E, s1, b1, z1⟩) (hE : lkT tt E = some d) (hx : ev (lk l) x = .lit (.int k1 n)) (hy : ev (lk l) y = .lit (.int k2 c)) (h0 : 0 ≤ n) (hnc : n ≤ c) (hb : (d.bytes : Int) * c ≤ 140737488355328) (h63 : c ≤ 140737488355328)
    (nx : ∀ v, AL P N ops Q rest (lk ((q, .lit v) :: l)) ((v, .row E d.size (List.replicate n.toNat (d.zero.map .lit))) :: L)) : AL P N ops Q ((o, .eff) :: rest) (lk l) L := by
  obtain ⟨dst, op', ty, pos, after, g⟩ := o
  simp only at ho
  subst ho
  refine s_eff (fun x M => ∃ v, x = .lit v ∧ M = (v, .row E d.size (List.replicate n.toNat (d.zero.map .lit))) :: L) hdst hd hg ⟨fun σ F w ρ hR hρ => ?_⟩ (fun x M ⟨p, e1, e2⟩ => by rw [e1, e2]; exact nx p)
  have e1 := hρ x (by simp [Op.operands])
  have e2 := hρ y (by simp [Op.operands])
  rw [hx] at e1
  rw [hy] at e2
  obtain ⟨i, z, hi, his, hib, hz, hzz⟩ := (ok _ _ hE).get
  have hu := (ok _ _ hT).slice rfl
  have hr := run_make (P := P) w T E i z hu hi hz k1 k2 n c h0 hnc (by rw [hib]; omega) (by omega)
  have hrun : (execOp ρ ⟨dst, .makeSlice T x y, ty, pos, after, g⟩).run P w = .ok (.value (.slice (some ⟨w.heap.size, 0, none⟩) n.toNat c.toNat)) (w.alloc (.cells (madeCells z.cells (c.toNat * i.size)) E)) := by
    simp only [execOp, e1.lit_inv, e2.lit_inv, Sem.run_bind, hr, Result.andThen_ok, Sem.run_pure]
  rw [hrun, his]
  have hown := own_new (σ := σ) (w := w) (E := E) (sz := d.size) (n := n.toNat) (c := c.toNat) (cur := madeCells z.cells (c.toNat * d.size)) (es := List.replicate n.toNat (d.zero.map .lit)) (by simp) (by omega) (by simp only [maxLen]; omega) (size_madeCells _ _)
    (fun e he => by rw [(List.mem_replicate.1 he).2]; simpa using (ok _ _ hE).zlen) (made_rep hzz (ok _ _ hE).zlen (by omega))
  exact ⟨σ, _, _, σ.le_refl, hR.newRow hown, .lit _, _, rfl, rfl⟩

/-- The elements of a composite literal, in order. -/
def bsEs (sz : Nat) : Nat → List (Nat × AV) → Option (List (List AV))
  | _, [] => some []
  | i, (j, x) :: r => bif Nat.beq j i && Nat.beq x.cells.length sz && x.whole then
      match bsEs sz (i + 1) r with
      | some l => some (x.cells :: l)
      | none => none
    else none

theorem bs_fill {sz : Nat} : ∀ (ps : List (Nat × AV)) (i : Nat) (cs : List AV) (es : List (List AV)), bsEs sz i ps = some es → (i + ps.length) * sz ≤ cs.length →
    fillA (fun i => some (i * sz, sz)) cs ps = some (cs.take (i * sz) ++ es.flatten ++ cs.drop ((i + ps.length) * sz)) ∧ es.length = ps.length ∧ ∀ e ∈ es, e.length = sz
  | [], i, cs, es, h, hl => by
    simp [bsEs] at h
    subst h
    simp [fillA]
  | (j, x) :: ps, i, cs, es, h, hl => by
    simp only [bsEs] at h
    cases hb : (Nat.beq j i && Nat.beq x.cells.length sz && x.whole) with
    | false => rw [hb] at h; cases h
    | true =>
      rw [hb] at h
      simp only [cond_true] at h
      simp only [Bool.and_eq_true] at hb
      obtain ⟨⟨h1, h2⟩, h3⟩ := hb
      obtain rfl := Nat.eq_of_beq_eq_true h1
      have h2 := Nat.eq_of_beq_eq_true h2
      cases hr : bsEs sz (j + 1) ps with
      | none => rw [hr] at h; cases h
      | some es' =>
        rw [hr] at h
        cases h
        have hlen : (j + 1 + ps.length) * sz ≤ cs.length := by simpa [Nat.add_assoc, Nat.add_comm 1] using hl
        have hj1 : (j + 1) * sz ≤ (j + 1 + ps.length) * sz := Nat.mul_le_mul_right _ (by omega)
        have hj2 : (j + 1) * sz = j * sz + sz := by rw [Nat.add_mul, Nat.one_mul]
        have ih := bs_fill ps (j + 1) (setAll cs (j * sz) x.cells) es' hr (by rw [length_setAll]; exact hlen)
        refine ⟨?_, by simp [ih.2.1], fun e he => ?_⟩
        · have hok : (x.cells.length == sz && Nat.ble (j * sz + sz) cs.length && x.whole) = true := by
            simp only [Bool.and_eq_true, beq_iff_eq, Nat.ble_eq]
            exact ⟨⟨h2, by omega⟩, h3⟩
          simp only [fillA, hok, cond_true, ih.1]
          rw [setAll_eq _ _ _ (by rw [h2]; omega), h2]
          have ht : (cs.take (j * sz) ++ x.cells).length = (j + 1) * sz := by rw [List.length_append, List.length_take, h2]; omega
          congr 1
          rw [List.take_append, ht, List.take_of_length_le (by omega), Nat.sub_self, List.take_zero, List.append_nil, List.drop_append, ht, List.drop_of_length_le (by omega), List.nil_append, List.drop_drop, List.flatten_cons]
          have e1 : j * sz + sz + ((j + 1 + ps.length) * sz - (j + 1) * sz) = (j + (ps.length + 1)) * sz := by
            have : (j + (ps.length + 1)) * sz = (j + 1 + ps.length) * sz := by congr 1; omega
            omega
          rw [e1]
          simp [List.append_assoc]
        · rcases List.mem_cons.1 he with rfl | he
          · exact h2
          · exact ih.2.2 e he

/-- A composite literal of a slice. -/
theorem s_build {tt : List (TypeId × TD)} (ok : TOK P tt) {o : Oper} {T : TypeId} {len : Nat} {parts : List (Nat × Operand)} {E s1 b1 : Nat} {z1 : List Value} {d : TD} {es : List (List AV)} (ho : o.op = .buildSlice T len parts.toArray) (hdst : o.dst = some q) (hd : Nat.blt q N = true) (hg : guardA ops o (lk l) = some true)
    (hT : lkT tt T = some ⟨.slice E, s1, b1, z1⟩) (hE : lkT tt E = some d) (hes : bsEs d.size 0 (parts.map fun p => (p.1, ev (lk l) p.2)) = some es) (hlen : len = parts.length) (hsmall : len * d.size ≤ 65536) (hl : len ≤ 65536)
    (nx : ∀ v, AL P N ops Q rest (lk ((q, .lit v) :: l)) ((v, .row E d.size es) :: L)) : AL P N ops Q ((o, .eff) :: rest) (lk l) L := by
  obtain ⟨dst, op', ty, pos, after, g⟩ := o
  simp only at ho
  subst ho
  refine s_eff (fun x M => ∃ v, x = .lit v ∧ M = (v, .row E d.size es) :: L) hdst hd hg ⟨fun σ F w ρ hR hρ => ?_⟩ (fun x M ⟨p, e1, e2⟩ => by rw [e1, e2]; exact nx p)
  have hu := (ok _ _ hT).slice rfl
  have hsz := (ok _ _ hE).sizeOf_run
  obtain ⟨z, hz, hzz⟩ := (ok _ _ hE).zero_run w
  have hz0 : ∃ zc : Array Value, ∀ rs, Instr.fill (fun i => some (i * d.size, d.size)) (madeCells zc (len * d.size)) (parts.map fun p => (p.1, ρ p.2)) = some rs →
      (execOp ρ ⟨dst, .buildSlice T len parts.toArray, ty, pos, after, g⟩).run P w = .ok (.value (.slice (some ⟨w.heap.size, 0, none⟩) len len)) (w.alloc (.cells rs E)) := by
    have hbig : ¬ (len * d.size > 16777216) := by omega
    by_cases h0 : len * d.size = 0
    · refine ⟨#[], fun rs hrs => ?_⟩
      rw [h0] at hrs
      have hm : madeCells #[] 0 = #[] := by simp [madeCells]
      rw [hm] at hrs
      simp [execOp, Instr.buildSlice, run_underlying hu, hsz, h0, hrs, newRow, Array.range_zero']
    · refine ⟨z.cells, fun rs hrs => ?_⟩
      simp only [madeCells] at hrs
      simp [execOp, Instr.buildSlice, run_underlying hu, hsz, h0, hrs, newRow, hz, hbig]
  obtain ⟨zc, hrun0⟩ := hz0
  have hcs : (madeCells zc (len * d.size)).size = len * d.size := size_madeCells _ _
  obtain ⟨hfill, heslen, hesl⟩ := bs_fill (sz := d.size) (parts.map fun p => (p.1, ev (lk l) p.2)) 0 ((madeCells zc (len * d.size)).toList.map .lit) es hes (by rw [List.length_map, List.length_map, ← hlen, Nat.zero_add]; have := hcs; rw [← Array.length_toList] at this; omega)
  obtain ⟨rs, hrs, hrr⟩ := fillA_sound (σ := σ) (place := fun i => some (i * d.size, d.size)) (parts.map fun p => (p.1, ev (lk l) p.2)) (parts.map fun p => (p.1, ρ p.2)) _ (madeCells zc (len * d.size)) _ hfill (by simp)
    (fun j p q a b => by
      simp only [List.getElem?_map, Option.map_eq_some_iff] at a b
      obtain ⟨p', hp', rfl⟩ := a
      obtain ⟨q', hq', rfl⟩ := b
      rw [hp'] at hq'
      cases hq'
      exact ⟨rfl, hρ _ (by
        simp only [Op.operands, List.mem_toArray, List.mem_map]
        exact ⟨p', List.mem_of_getElem? hp', rfl⟩)⟩) (VRs.lits _)
  have hres : ((madeCells zc (len * d.size)).toList.map AV.lit).take (0 * d.size) ++ es.flatten ++ ((madeCells zc (len * d.size)).toList.map AV.lit).drop ((0 + (parts.map fun p => (p.1, ev (lk l) p.2)).length) * d.size) = es.flatten := by
    rw [Nat.zero_mul, List.take_zero, List.nil_append, Nat.zero_add, List.length_map, ← hlen, List.drop_of_length_le (by simp [hcs]), List.append_nil]
  rw [hres] at hrr
  have hfl : es.flatten.length = len * d.size := by rw [flatten_len hesl, heslen, List.length_map, ← hlen]
  have hrsz : rs.size = len * d.size := by have := hrr.1; rw [hfl] at this; simpa using this
  have hrun := hrun0 rs hrs
  rw [hrun]
  have hown := own_new (σ := σ) (w := w) (E := E) (sz := d.size) (n := len) (c := len) (cur := rs) (es := es) (by rw [heslen, List.length_map, hlen]) (Nat.le_refl _) (by simp only [maxLen]; omega) hrsz hesl (by rw [List.take_of_length_le (by simp [hrsz])]; exact hrr)
  exact ⟨σ, _, _, σ.le_refl, hR.newRow hown, .lit _, _, rfl, rfl⟩

/-! ### Append -/

/-- Append to what is owned at place i, of a row that never changes. -/
theorem s_appendIm {tt : List (TypeId × TD)} (ok : TOK P tt) (i : Nat) {o : Oper} {T : TypeId} {x y : Operand} {E s1 b1 : Nat} {z1 : List Value} {d : TD} {sz : Nat} {v : Value} {es es2 : List (List AV)} (ho : o.op = .call ⟨.builtin .append, #[x, y], #[T, T]⟩) (hdst : o.dst = some q) (hd : Nat.blt q N = true) (hg : guardA ops o (lk l) = some true)
    (hT : lkT tt T = some ⟨.slice E, s1, b1, z1⟩) (hE : lkT tt E = some d) (hpos : 0 < d.size) (hx : ev (lk l) x = .lit v) (hL : L[i]? = some (v, .row E sz es)) (hs : sz = d.size) (hy : ev (lk l) y = .im sz es2)
    (hcell : es2.all (fun e => e.all AV.cell) = true) (hlen : es.length + es2.length ≤ 140737488355328) (hby : (es.length + es2.length) * d.bytes ≤ 140737488355328)
    (nx : ∀ v', AL P N ops Q rest (lk ((q, .lit v') :: l)) (L.set i (v', .row E sz (es ++ es2)))) : AL P N ops Q ((o, .eff) :: rest) (lk l) L := by
  obtain ⟨dst, op', ty, pos, after, g⟩ := o
  simp only at ho
  subst ho
  refine s_eff (fun x M => ∃ v', x = .lit v' ∧ M = L.set i (v', .row E sz (es ++ es2))) hdst hd hg ⟨fun σ F w ρ hR hρ => ?_⟩ (fun x M ⟨p, e1, e2⟩ => by rw [e1, e2]; exact nx p)
  have e1 := hρ x (by simp [Op.operands, Call.operands])
  have e2 := hρ y (by simp [Op.operands, Call.operands])
  rw [hx] at e1
  rw [hy] at e2
  have hu := (ok _ _ hT).slice rfl
  obtain ⟨v', w', hr, hown, h1, h2, h3, h4, h5⟩ := own_append (P := P) (ty := ty) (hR.own1 hL) (SrcA.im hR.agree e2) hu (ok _ _ hE) hs hpos hcell (by simp only [maxLen]; omega) hby
  have hrun : (execOp ρ ⟨dst, .call ⟨.builtin .append, #[x, y], #[T, T]⟩, ty, pos, after, g⟩).run P w = .ok (.value v') w' := by
    simp [execOp, resolve, invoke, builtin, e1.lit_inv, hr]
  rw [hrun]
  exact ⟨σ, _, _, σ.le_refl, hR.writeAt hL h1 h2 h3 h4 h5 hown, .lit _, _, rfl, rfl⟩

/-- Append to what is owned at place i, of what is owned at place j. -/
theorem s_appendOwn {tt : List (TypeId × TD)} (ok : TOK P tt) (i j : Nat) {o : Oper} {T : TypeId} {x y : Operand} {E s1 b1 : Nat} {z1 : List Value} {d : TD} {sz : Nat} {v u : Value} {es es2 : List (List AV)} (ho : o.op = .call ⟨.builtin .append, #[x, y], #[T, T]⟩) (hdst : o.dst = some q) (hd : Nat.blt q N = true) (hg : guardA ops o (lk l) = some true)
    (hT : lkT tt T = some ⟨.slice E, s1, b1, z1⟩) (hE : lkT tt E = some d) (hpos : 0 < d.size) (hx : ev (lk l) x = .lit v) (hL : L[i]? = some (v, .row E sz es)) (hs : sz = d.size) (hy : ev (lk l) y = .lit u) (hL2 : L[j]? = some (u, .row E sz es2))
    (hcell : es2.all (fun e => e.all AV.cell) = true) (hlen : es.length + es2.length ≤ 140737488355328) (hby : (es.length + es2.length) * d.bytes ≤ 140737488355328)
    (nx : ∀ v', AL P N ops Q rest (lk ((q, .lit v') :: l)) (L.set i (v', .row E sz (es ++ es2)))) : AL P N ops Q ((o, .eff) :: rest) (lk l) L := by
  obtain ⟨dst, op', ty, pos, after, g⟩ := o
  simp only at ho
  subst ho
  refine s_eff (fun x M => ∃ v', x = .lit v' ∧ M = L.set i (v', .row E sz (es ++ es2))) hdst hd hg ⟨fun σ F w ρ hR hρ => ?_⟩ (fun x M ⟨p, e1, e2⟩ => by rw [e1, e2]; exact nx p)
  have e1 := hρ x (by simp [Op.operands, Call.operands])
  have e2 := hρ y (by simp [Op.operands, Call.operands])
  rw [hx] at e1
  rw [hy] at e2
  have hu := (ok _ _ hT).slice rfl
  obtain ⟨v', w', hr, hown, h1, h2, h3, h4, h5⟩ := own_append (P := P) (ty := ty) (hR.own1 hL) (SrcA.own (hR.own1 hL2)) hu (ok _ _ hE) hs hpos hcell (by simp only [maxLen]; omega) hby
  have hrun : (execOp ρ ⟨dst, .call ⟨.builtin .append, #[x, y], #[T, T]⟩, ty, pos, after, g⟩).run P w = .ok (.value v') w' := by
    simp [execOp, resolve, invoke, builtin, e1.lit_inv, e2.lit_inv, hr]
  rw [hrun]
  exact ⟨σ, _, _, σ.le_refl, hR.writeAt hL h1 h2 h3 h4 h5 hown, .lit _, _, rfl, rfl⟩

theorem a_nil {c : Code} {Q : Exit → St → Own → Prop} {st : St} (E sz : Nat) (h : AWp P N c Q st ((.slice none 0 0, .row E sz []) :: L)) : AWp P N c Q st L :=
  ⟨fun σ F w a hr ht => h.out σ F w a (hr.nil E sz none) ht⟩

/-! ### Calls -/

theorem callFunc_run {f : FuncId} (h : FOK P f) (args : Array Value) (w : World) : (callFunc f args).run P w = .ok (.enter f args) w := by
  obtain ⟨fn, hf, hn, hb⟩ := h
  simp only [callFunc, Sem.run_bind, run_program, Result.andThen_ok, hf, hn, hb, Bool.false_eq_true, if_false, Sem.run_pure]

/-- What the callee is not handed stays as it is. -/
def lend (F : Fr) (L : Own) (w : World) : Fr :=
  { F with h := fun b => match F.h b with
    | some o => some o
    | none => if b ∈ L.filterMap (blk ∘ Prod.fst) then w.heap[b]? else none }

theorem lend_none {F : Fr} {L : Own} {w : World} {b : Nat} (h1 : F.h b = none) (h2 : b ∉ L.filterMap (blk ∘ Prod.fst)) : (lend F L w).h b = none := by
  simp only [lend, h1, if_neg h2]

theorem HRel.lend {σ : Hp} {Lc Lr : Own} {F : Fr} {w : World} (h : HRel σ (Lc ++ Lr) F w) : HRel σ Lc (lend F Lr w) w := by
  have hn := h.nodup
  rw [List.filterMap_append, List.nodup_append] at hn
  refine ⟨h.agree, fun b o hb => ?_, h.os, h.out, fun p hp => h.own p (List.mem_append_left _ hp), fun b o hb => ?_, hn.1, fun b hb => ?_⟩
  · simp only [Sj.lend] at hb
    split at hb
    · rename_i o' ho
      cases hb
      exact h.frame b o ho
    · split at hb
      · exact hb
      · cases hb
  · refine lend_none (h.sep b o hb) (fun hm => ?_)
    have := (h.apart b (by rw [List.filterMap_append]; exact List.mem_append_right _ hm)).1
    rw [this] at hb; cases hb
  · have h1 := h.apart b (by rw [List.filterMap_append]; exact List.mem_append_left _ hb)
    exact ⟨h1.1, lend_none h1.2 (fun hm => hn.2.2 b hb b hm rfl)⟩

theorem HRel.back {σ τ : Hp} {Lc Lr M : Own} {F : Fr} {w w' : World} (h : HRel σ (Lc ++ Lr) F w) (hle : σ.le τ) (k : HRel τ M (Sj.lend F Lr w) w') : HRel τ (M ++ Lr) F w' := by
  have hF : ∀ b o, F.h b = some o → (Sj.lend F Lr w).h b = some o := fun b o hb => by simp only [Sj.lend, hb]
  have hmem : ∀ p ∈ Lr, ∀ b, blk p.1 = some b → b ∈ Lr.filterMap (blk ∘ Prod.fst) := fun p hp b hb => List.mem_filterMap.2 ⟨p, hp, hb⟩
  have hFn : ∀ b, (Sj.lend F Lr w).h b = none → F.h b = none := fun b hb => by
    cases e : F.h b with
    | none => rfl
    | some o => rw [hF b o e] at hb; cases hb
  have hlook : ∀ p ∈ Lr, ∀ b, blk p.1 = some b → (Sj.lend F Lr w).h b = w.heap[b]? := fun p hp b hb => by
    have h1 := h.apart b (by rw [List.filterMap_append]; exact List.mem_append_right _ (hmem p hp b hb))
    simp only [Sj.lend, h1.2, if_pos (hmem p hp b hb)]
  have hsome : ∀ p ∈ Lr, ∀ b, blk p.1 = some b → ∃ o, w.heap[b]? = some o := fun p hp b hb => by
    have := (h.own p (List.mem_append_right _ hp)).lt (v := p.1) (ob := p.2) hb
    exact ⟨_, Array.getElem?_eq_getElem this⟩
  have hn := h.nodup
  rw [List.filterMap_append, List.nodup_append] at hn
  refine ⟨k.agree, fun b o hb => k.frame b o (hF b o hb), k.os, k.out, fun p hp => ?_, fun b o hb => hFn b (k.sep b o hb), ?_, fun b hb => ?_⟩
  · rcases List.mem_append.1 hp with hp | hp
    · exact k.own p hp
    · refine ((h.own p (List.mem_append_right _ hp)).mono hle).kept (v := p.1) (ob := p.2) fun b hb => ?_
      obtain ⟨o, ho⟩ := hsome p hp b hb
      rw [ho]
      exact k.frame b o (by rw [hlook p hp b hb]; exact ho)
  · rw [List.filterMap_append, List.nodup_append]
    refine ⟨k.nodup, hn.2.1, fun a ha b hb e => ?_⟩
    subst e
    obtain ⟨p, hp, hpb⟩ := List.mem_filterMap.1 hb
    obtain ⟨o, ho⟩ := hsome p hp a hpb
    have h1 := (k.apart a ha).2
    rw [hlook p hp a hpb, ho] at h1
    cases h1
  · rw [List.filterMap_append] at hb
    rcases List.mem_append.1 hb with hb | hb
    · exact ⟨(k.apart b hb).1, hFn b (k.apart b hb).2⟩
    · obtain ⟨p, hp, hpb⟩ := List.mem_filterMap.1 hb
      obtain ⟨o, ho⟩ := hsome p hp b hpb
      refine ⟨?_, (h.apart b (by rw [List.filterMap_append]; exact List.mem_append_right _ hb)).2⟩
      cases e : τ b with
      | none => rfl
      | some o' =>
        have h1 := k.sep b o' e
        rw [hlook p hp b hpb, ho] at h1
        cases h1

/-- A call of a function whose contract is at hand. -/
theorem s_call {o : Oper} {x : Operand} {args : List Operand} {tys : Array TypeId} {f : FuncId} {first caps as : List AV} {Lc Lr : Own} {R : AV → Own → Prop} (ho : o.op = .call ⟨.value x, args.toArray, tys⟩) (hdst : o.dst = some q) (hd : Nat.blt q N = true) (hg : guardA ops o (lk l) = some true)
    (hx : ev (lk l) x = .fn (.func f) first caps) (hc : ACalls P f as Lc R) (has : SubL (first ++ args.map (ev (lk l)) ++ caps) as) (hL : L.Perm (Lc ++ Lr))
    (n : ∀ y M, R y M → AL P N ops Q rest (lk ((q, y) :: l)) (M ++ Lr)) : AL P N ops Q ((o, .eff) :: rest) (lk l) L := by
  obtain ⟨dst, op', ty, pos, after, g⟩ := o
  simp only at ho
  subst ho
  refine s_eff (fun y M => ∃ M', R y M' ∧ M = M' ++ Lr) hdst hd hg ⟨fun σ F w ρ hR hρ => ?_⟩ (fun y M ⟨M', h1, h2⟩ => by rw [h2]; exact n y M' h1)
  have e1 := hρ x (by simp [Op.operands, Call.operands])
  rw [hx] at e1
  obtain ⟨vs, us, hv, hvs, hus⟩ := e1.fn_inv
  have hargs : VRs σ (args.map (ev (lk l))) (args.map ρ) := ⟨by simp, fun j a b ha hb => by
    simp only [List.getElem?_map, Option.map_eq_some_iff] at ha hb
    obtain ⟨p, hp, rfl⟩ := ha
    obtain ⟨q, hq, rfl⟩ := hb
    rw [hp] at hq; cases hq
    exact hρ _ (by simp only [Op.operands, Call.operands, Array.mem_append, List.mem_toArray]; exact .inr (List.mem_of_getElem? hp))⟩
  have hall := has.vrs ((hvs.append hargs).append hus)
  have hR' := hR.perm hL
  have hcall := hc.out σ (Sj.lend F Lr w) w _ hR'.lend hall
  have hrun : (execOp ρ ⟨dst, .call ⟨.value x, args.toArray, tys⟩, ty, pos, after, g⟩).run P w = .ok (.enter f (vs ++ args.map ρ ++ us).toArray) w := by
    have : vs.toArray ++ (args.map ρ).toArray ++ us.toArray = (vs ++ args.map ρ ++ us).toArray := by simp
    simp only [execOp, resolve, hv, Deferred.ofValue, Sem.run_bind, Sem.run_pure, Result.andThen_ok, invoke, List.map_toArray, this, callFunc_run hc.ok]
  rw [hrun]
  exact hcall.mono fun e w' ⟨v, he, τ, y, M, h1, h2, h3, h4⟩ => ⟨v, he, τ, y, M ++ Lr, h1, hR'.back h1 h2, h3, M, h4, rfl⟩

end

end Go.Sj
