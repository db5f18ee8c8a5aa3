/- Parts of a proof. -/
import Derived.Test.YtimfponihbfimaaGreatP24
set_option linter.unusedVariables false
set_option linter.unusedSimpArgs false
section
namespace Go.Proofs.YtimfponihbfimaaGreat
open Go.Sj Go.Sj.Typ Go.Sj.Sta Go.Sj.Inc
set_option maxRecDepth 8000
set_option maxHeartbeats 16000000
theorem obSet_rowB {E j : Nat} {xs : List Bool} {a : Bool} (hj : j < xs.length) : obSet (.row E 1 (xs.map cB)) j 0 [AB a] = .row E 1 ((xs.set j a).map cB) := by
  have hget : (xs.map cB).getD j [] = cB xs[j] := by
    rw [List.getD_eq_getElem?_getD, List.getElem?_map, List.getElem?_eq_getElem hj]; rfl
  simp only [obSet, hget]
  congr 1
  rw [List.map_set]
  rfl
section
variable {P : Program} {N : Nat} {ops : List Oper} {Q : St → Own → Prop} {L : Own} {rest : List (Oper × Kd)} {l : List (Nat × AV)}
theorem s_storeBl {tt : List (TypeId × TD)} (ok : TOK P tt) (i : Nat) {o : Oper} {T : TypeId} {x y : Operand} {d : TD} {v : Value} {E j : Nat} {xs : List Bool} {a : Bool}
    (ho : o.op = .store T x y) (hdst : o.dst = none) (hg : guardA ops o (lk l) = some true) (hT : lkT tt T = some d) (hd1 : d.size = 1) (hx : ev (lk l) x = .pt v 1 j 0) (hy : ev (lk l) y = AB a) (hL : L[i]? = some (v, .row E 1 (xs.map cB))) (hj : j < xs.length)
    (n : AL P N ops Q rest (lk l) (L.set i (v, .row E 1 ((xs.set j a).map cB)))) : AL P N ops Q ((o, .eff) :: rest) (lk l) L := by
  have hget : (xs.map cB)[j]? = some (cB xs[j]) := zmp (List.getElem?_eq_getElem hj)
  refine s_store ok i ho hdst hg hT hx hy rfl (by rw [hd1]; rfl) (by omega) hL rfl (cells := cB xs[j]) (by simp only [obAt, hget]; rfl) (by simp [cB, AV.cells]) ?_
  rw [show AV.cells (AB a) = [AB a] from rfl, obSet_rowB hj]
  exact n
end
theorem range_set {A : Type} (f : Nat → A) (n i : Nat) (x : A) : ((List.range n).map f).set i x = (List.range n).map fun b => if b = i then x else f b := by
  refine List.ext_getElem? fun j => ?_
  rw [List.getElem?_set, List.getElem?_map, List.length_map, List.length_range]
  by_cases hij : i = j
  · subst hij
    by_cases hn : i < n
    · rw [if_pos rfl, if_pos hn, List.getElem?_map, List.getElem?_range hn]; simp
    · rw [if_pos rfl, if_neg hn, List.getElem?_eq_none (by simp; omega)]
  · rw [if_neg hij, List.getElem?_map]
    cases h : (List.range n)[j]? with
    | none => rfl
    | some y =>
      obtain ⟨h1, h2⟩ := List.getElem?_eq_some_iff.1 h
      rw [List.getElem_range] at h2
      subst h2
      simp [Ne.symm hij]
theorem given_zero {t : Tys} {a : Nat} (hv : (validR t).2 = 0) (ha : a < t.nodes.length) : givenR t [(a : Int)] = 0 := by
  unfold givenR
  rw [if_neg (Decidable.not_not.2 hv), if_neg]
  simp only [List.any_cons, List.any_nil, Bool.or_false, outB, decide_eq_true_eq]
  omega
theorem bel_row {t : Tys} {a : Nat} {l : List Int} (hl : l = ((List.range t.nodes.length).map fun (i : Nat) => (i : Int)).filter (fun b => decide ((a : Int) ∈ up t.nodes b))) : (List.range t.nodes.length).map (fun b : Nat => decide ((b : Int) ∈ l)) = (List.range t.nodes.length).map fun (b : Nat) => okT t a b := by
  refine List.map_congr_left fun b hb => ?_
  unfold okT
  subst hl
  have hb := List.mem_range.1 hb
  by_cases h : (a : Int) ∈ up t.nodes b
  · rw [decide_eq_true h, decide_eq_true]
    simp only [List.mem_filter, List.mem_map, List.mem_range, decide_eq_true_eq]
    exact ⟨⟨b, hb, rfl⟩, h⟩
  · rw [decide_eq_false h, decide_eq_false]
    simp only [List.mem_filter, decide_eq_true_eq]
    exact fun hh => h hh.2
theorem sbelow_spec (t : Tys) (ht : Small t) (hv : (validR t).2 = 0) : Pure Tryz.prog 116 [tysA t] (tabA (tabT t)) := by
  have lt : (t.nodes.map cNod).length = t.nodes.length := by simp
  have htn := ht.nodes
  have ltab : (tabT t).length = t.nodes.length := by simp [tabT]
  have hB := fun (a : Nat) (ha : a < t.nodes.length) => show belR t a = _ from if_neg (Decidable.not_not.2 (given_zero hv ha))
  refine zen Tryz.func116 (by kernel_rfl) rfl Tryz.ntmps116 rfl (by simp) ?_
  refine a_seq ?_
  refine a_reg ?_
  repeat (first | refine gZ pk ?_ | (show AL _ _ _ _ _ _ _; first | refine jB (fun u => ?_)))
  refine zfb 0 1 rfl rfl ?_
  repeat (first | refine gA pk ?_)
  rw [lt]
  refine a_loopG2 (fun (k : Nat) (vo : Value) => [(1, tysP t), (3, .lit vo), (12, AI t.nodes.length), (13, AI k)]) (fun k vo => [(vo, .row 115 1 (((tabT t).take k).map cRow))]) (fun k vo => k ≤ t.nodes.length) (fun k _ => t.nodes.length - k) 0 (.slice none 0 0) (Nat.zero_le _) (.sub (by exact subQ) (.free (OSub.none _))) ?_
  intro k vo hk
  have lto : (((tabT t).take k).map cRow).length = k := by rw [List.length_map, List.length_take]; omega
  rcases Nat.lt_or_ge k t.nodes.length with h | h
  · have s1 := Below_spec t ht k
    rw [hB k h] at s1
    obtain ⟨l, hl⟩ : ∃ l, ((List.range t.nodes.length).map fun (i : Nat) => (i : Int)).filter (fun b => decide ((k : Int) ∈ up t.nodes b)) = l := ⟨_, rfl⟩
    have hrow := bel_row hl.symm
    have hmem : ∀ x ∈ l, ∃ b : Nat, x = b ∧ b < t.nodes.length := fun x hx => by
      rw [← hl] at hx
      obtain ⟨b, hb, rfl⟩ := List.mem_map.1 (List.mem_filter.1 hx).1
      exact ⟨b, rfl, List.mem_range.1 hb⟩
    have hll : l.length ≤ t.nodes.length := by
      rw [← hl]
      exact Nat.le_trans (List.length_filter_le _ _) (by simp)
    rw [hl] at s1
    have ll : (rowI l).length = l.length := by simp
    have z1 : List.replicate (((t.nodes.map cNod).length : Int)).toNat (List.map AV.lit [Value.bool false]) = ((List.range t.nodes.length).map fun (b : Nat) => decide ((b : Int) ∈ l.take 0)).map cB := by
      rw [lt, List.take_zero, List.map_map]
      refine List.ext_getElem? fun i => ?_
      simp only [List.getElem?_replicate, List.getElem?_map, Int.toNat_natCast]
      by_cases hi : i < t.nodes.length
      · rw [if_pos hi, List.getElem?_range hi]; rfl
      · rw [if_neg hi, List.getElem?_eq_none (by simp; omega)]; rfl
    have htk : (tabT t).take (k + 1) = (tabT t).take k ++ [(List.range t.nodes.length).map fun (b : Nat) => decide ((b : Int) ∈ l)] := by
      have : (tabT t)[k]? = some ((List.range t.nodes.length).map fun (b : Nat) => decide ((b : Int) ∈ l)) := by
        unfold tabT
        rw [List.getElem?_map, List.getElem?_range h, hrow]; rfl
      rw [List.take_add_one, this]; rfl
    repeat (first | refine gA pk ?_ | (show AL _ _ _ _ _ _ _; first | refine s_makeQ tok rfl rfl rfl rfl rfl rfl rfl rfl z1 (by omega) (by omega) (by simp; omega) (by omega) (fun a m j => ?_) | refine jP s1 ?_))
    rw [ll]
    refine zlx (fun i : Nat => [(1, tysP t), (3, .lit vo), (5, .lit (.slice a m j)), (12, AI t.nodes.length), (13, AI k), (26, ints l), (27, AI l.length), (28, AI i)]) (fun i => [(.slice a m j, .row 4 1 (((List.range t.nodes.length).map fun (b : Nat) => decide ((b : Int) ∈ l.take i)).map cB)), (vo, .row 115 1 (((tabT t).take k).map cRow))]) (fun i => i ≤ l.length) (fun i => l.length - i) 0 (Nat.zero_le _) ?_ (OSub.refl _) ?_
    · exact subQ
    · intro i hi
      rcases Nat.lt_or_ge i l.length with h2 | h2
      · have hx := List.getElem?_eq_getElem h2
        obtain ⟨b, hb, hbn⟩ := hmem _ (List.getElem_mem h2)
        rw [hb] at hx
        have xk : (rowI l)[(i : Int).toNat]? = some [AI b] := zmp (f := cI) hx
        have lrow : ((List.range t.nodes.length).map fun (b : Nat) => decide ((b : Int) ∈ l.take i)).length = t.nodes.length := by simp
        have lrow' : (((List.range t.nodes.length).map fun (b : Nat) => decide ((b : Int) ∈ l.take i)).map cB).length = t.nodes.length := by simp
        have hset : ((List.range t.nodes.length).map fun (b : Nat) => decide ((b : Int) ∈ l.take i)).set b true = (List.range t.nodes.length).map fun (b : Nat) => decide ((b : Int) ∈ l.take (i + 1)) := by
          rw [range_set]
          refine List.map_congr_left fun b' _ => ?_
          rw [List.take_add_one, hx]
          by_cases hbb : b' = b
          · subst hbb; rw [if_pos rfl]; simp
          · rw [if_neg hbb]
            have : ¬ ((b' : Int) = (b : Int)) := by omega
            simp [this]
        generalize ((List.range t.nodes.length).map fun (b : Nat) => decide ((b : Int) ∈ l.take i)) = R at *
        repeat (first | refine gA pk ?_ | (show AL _ _ _ _ _ _ _; first | refine jX tok xk ?_ | refine zoi tok 0 rfl rfl rfl rfl (by decide) rfl rfl rfl rfl rfl rfl (by omega) (by omega) ?_ | refine s_storeBl tok 0 rfl rfl rfl rfl rfl rfl rfl rfl (by omega) ?_))
        refine ⟨i + 1, by omega, by omega, by exact subQ, ?_⟩
        rw [← hset]
        exact OSub.refl _
      · obtain rfl : i = l.length := by omega
        rw [List.take_length]
        refine a_frz 0 5 rfl rfl ?_
        repeat (first | refine gA pk ?_ | (show AL _ _ _ _ _ _ _; first | refine s_build1M tok rfl rfl rfl rfl rfl rfl rfl (fun lv => ?_) | refine zak tok 0 rfl rfl rfl rfl rfl rfl (by decide) rfl rfl rfl rfl (by omega) (by omega) (fun w hw => ?_)))
        refine ⟨k + 1, w, by omega, by omega, .sub (by exact subQ) ?_⟩
        rw [htk, List.map_append]
        exact OSub.refl _
  · obtain rfl : k = t.nodes.length := by omega
    rw [← ltab, List.take_length]
    refine a_frz 0 3 rfl rfl ?_
    repeat (first | refine gA pk ?_)
    refine finQ ?_
    exact ⟨rfl, rfl⟩
end Go.Proofs.YtimfponihbfimaaGreat
end
section
namespace Go.Sj
set_option maxRecDepth 8000
theorem FV.trans {L : Own} {x y z : AV} (h : FV L x y) (k : FV L y z) : FV L x z := fun τ u hf hv => k τ u hf (h τ u hf hv)
section
variable {P : Program} {N : Nat} {ops : List Oper} {Q : St → Own → Prop} {L : Own} {rest : List (Oper × Kd)} {l : List (Nat × AV)} {k : Kd} {q : Nat}
theorem s_max2 {o : Oper} {x y : Operand} {tys : Array TypeId} {kk : IntKind} {a b : Int} (ho : o.op = .call ⟨.builtin .max, #[x, y], tys⟩) (hdst : o.dst = some q) (hd : Nat.blt q N = true) (hg : guardA ops o (lk l) = some true)
    (hx : ev (lk l) x = .lit (.int kk a)) (hy : ev (lk l) y = .lit (.int kk b))
    (n : AL P N ops Q rest (lk ((q, .lit (.int kk (max a b))) :: l)) L) : AL P N ops Q ((o, k) :: rest) (lk l) L := by
  obtain ⟨dst, op', ty, pos, after, g⟩ := o
  simp only at ho
  subst ho
  refine s_pure hdst hd hg ⟨fun σ F w ρ hR hρ => ⟨.int kk (max a b), ?_, .lit _⟩⟩ n
  have h1 := hρ x (by simp [Op.operands, Call.operands])
  have h2 := hρ y (by simp [Op.operands, Call.operands])
  rw [hx] at h1
  rw [hy] at h2
  simp [execOp, resolve, invoke, builtin, h1.lit_inv, h2.lit_inv, Builtin.max_, Builtin.max2]
  omega
theorem s_frontC {tt : List (TypeId × TD)} (ok : TOK P tt) (i : Nat) {o : Oper} {T : TypeId} {x y : Operand} {E0 s1 b1 : Nat} {z1 : List Value} {d : TD} {E sz : Nat} {v : Value} {es : List (List AV)} {k1 : IntKind} {n : Nat}
    (ho : o.op = .slice T x none (some y) none) (hdst : o.dst = some q) (hd : Nat.blt q N = true) (hg : guardA ops o (lk l) = some true)
    (hT : lkT tt T = some ⟨.slice E0, s1, b1, z1⟩) (hE : lkT tt E0 = some d) (hx : ev (lk l) x = .lit v) (hL : L[i]? = some (v, .row E sz es)) (hy : ev (lk l) y = .lit (.int k1 n)) (hn : n ≤ es.length)
    (nx : ∀ v', v'.oneCell' = true → AL P N ops Q rest (lk ((q, .lit v') :: l)) (L.set i (v', .row E sz (es.take n)))) : AL P N ops Q ((o, .eff) :: rest) (lk l) L := by
  obtain ⟨dst, op', ty, pos, after, g⟩ := o
  simp only at ho
  subst ho
  refine s_eff (fun x M => ∃ v', x = .lit v' ∧ v'.oneCell' = true ∧ M = L.set i (v', .row E sz (es.take n))) hdst hd hg ⟨fun σ F w ρ hR hρ => ?_⟩ (fun x M ⟨p, e1, e3, e2⟩ => by rw [e1, e2]; exact nx p e3)
  have e1 := hρ x (by simp [Op.operands])
  have e2 := hρ y (by simp [Op.operands])
  rw [hx] at e1
  rw [hy] at e2
  have hu := (ok _ _ hT).slice rfl
  have hsz := (ok _ _ hE).sizeOf_run
  have hown := hR.own1 hL
  obtain ⟨a, cap, hv, hcap⟩ := own_row_val hown
  have hb : (Instr.sliceBound (.int k1 (n : Int)) cap .sliceAcap).run P w = .ok n w := by
    have : n ≤ cap := by omega
    simp [Instr.sliceBound, asIntOf, this]
  have hrun : (execOp ρ ⟨dst, .slice T x none (some y) none, ty, pos, after, g⟩).run P w = .ok (.value (.slice a n cap)) w := by
    simp only [execOp, e1.lit_inv, hv, e2.lit_inv, Option.map_none, Option.map_some, Instr.sliceAt, Sem.run_bind, run_underlying hu, Result.andThen_ok, Instr.slice, Instr.sliceBounds, if_true, hb, hsz, Sem.run_pure, Nat.sub_zero, Nat.zero_mul]
    by_cases hc : cap = 0
    · rw [if_pos hc]
    · rw [if_neg hc]
      have : (a.map (·.add 0)) = a := by cases a <;> simp [Addr.add]
      rw [this]
  rw [hrun]
  refine ⟨σ, _, _, σ.le_refl, hR.writeAt (v' := .slice a n cap) (ob' := .row E sz (es.take n)) hL (Nat.le_refl _) (fun _ _ _ => rfl) rfl rfl (fun b hb => .inl ?_) ?_, .lit _, _, rfl, rfl, rfl⟩
  · rw [hv]
    cases a with
    | none => simp [blk] at hb
    | some a => simpa [blk] using hb
  · obtain ⟨xs, h1, h2, h3⟩ := hown
    have hlen : (es.take n).length = n := by rw [List.length_take]; omega
    refine ⟨xs.take (n * sz), ?_, fun e he => h2 e (List.mem_of_mem_take he), ?_⟩
    · rcases h1 with ⟨h0, a0, hv0⟩ | ⟨g, cap', cur, hv0, hc0, hg, hn', hm, hcs, ht⟩
      · rw [hv] at hv0
        injection hv0 with _ _ hc0
        exact .inl ⟨by rw [hlen]; omega, a, by rw [hc0, show n = 0 by omega]⟩
      · rw [hv] at hv0
        cases hv0
        refine .inr ⟨g, cap, cur, by rw [hlen], hc0, hg, by rw [hlen]; omega, hm, hcs, ?_⟩
        rw [hlen, ← ht, List.take_take, Nat.min_eq_left (Nat.mul_le_mul_right _ hn)]
    · rw [← flatten_take h2 hn]
      exact h3.take _
theorem s_frzNowP (i : Nat) {o : Oper} {E sz : Nat} {es : List (List AV)} {M : Own} (hdst : o.dst = some q) (hd : Nat.blt q N = true) (hg : guardA ops o (lk l) = some true)
    (h : AL P N ops (fun st' L' => ∃ v, st' q = .lit v ∧ L'[i]? = some (v, .row E sz es) ∧ (L'.eraseIdx i).Perm M) [(o, .eff)] (lk l) L)
    (n : AL P N ops Q rest (lk ((q, .im sz es) :: l)) M) : AL P N ops Q ((o, .eff) :: rest) (lk l) L := by
  obtain ⟨h1, h2⟩ := AL_head h
  rcases h2 with ⟨hg', _⟩ | ⟨hg', hop⟩
  · rw [hg] at hg'; cases hg'
  · refine s_eff (fun x M' => x = .im sz es ∧ M' = M) hdst hd hg (AOp.turn (fun x L' hx => ?_) hop) (fun x M' ⟨e1, e2⟩ => by rw [e1, e2]; exact n)
    cases hx with
    | nil hq =>
      obtain ⟨v, hv, hL, hM⟩ := hq
      rw [hdst] at hv
      have hv' : x = .lit v := by rw [← hv]; exact (upd_same _ _ _).symm
      subst hv'
      exact ⟨_, _, ⟨rfl, rfl⟩, (Turn.freeze i hL FZ.here).trans fun τ F w u a b => ⟨τ, Hp.le_refl τ, a.perm hM, b⟩⟩
end
section
variable {P : Program} {N : Nat} {c : Code} {Q : Exit → St → Own → Prop} {st : St} {L : Own} {T1 T2 T3 T4 T5 T6 T7 : Type}
theorem a_loopG7 (sx : T1 → T2 → T3 → T4 → T5 → T6 → T7 → List (Nat × AV)) (lx : T1 → T2 → T3 → T4 → T5 → T6 → T7 → Own) (px : T1 → T2 → T3 → T4 → T5 → T6 → T7 → Prop) (m : T1 → T2 → T3 → T4 → T5 → T6 → T7 → Nat) (z1 : T1) (z2 : T2) (z3 : T3) (z4 : T4) (z5 : T5) (z6 : T6) (z7 : T7)
    (h0 : px z1 z2 z3 z4 z5 z6 z7) (hs : GoTo N st L (lk (sx z1 z2 z3 z4 z5 z6 z7)) (lx z1 z2 z3 z4 z5 z6 z7))
    (round : ∀ a1 a2 a3 a4 a5 a6 a7, px a1 a2 a3 a4 a5 a6 a7 → AWp P N c (thenA (fun st' L' => ∃ a1' a2' a3' a4' a5' a6' a7', px a1' a2' a3' a4' a5' a6' a7' ∧ m a1' a2' a3' a4' a5' a6' a7' < m a1 a2 a3 a4 a5 a6 a7 ∧ GoTo N st' L' (lk (sx a1' a2' a3' a4' a5' a6' a7')) (lx a1' a2' a3' a4' a5' a6' a7')) Q) (lk (sx a1 a2 a3 a4 a5 a6 a7)) (lx a1 a2 a3 a4 a5 a6 a7)) : AWp P N (.loop c) Q st L :=
  a_loopG (X := T1 × T2 × T3 × T4 × T5 × T6 × T7) (fun x => sx x.1 x.2.1 x.2.2.1 x.2.2.2.1 x.2.2.2.2.1 x.2.2.2.2.2.1 x.2.2.2.2.2.2) (fun x => lx x.1 x.2.1 x.2.2.1 x.2.2.2.1 x.2.2.2.2.1 x.2.2.2.2.2.1 x.2.2.2.2.2.2) (fun x => px x.1 x.2.1 x.2.2.1 x.2.2.2.1 x.2.2.2.2.1 x.2.2.2.2.2.1 x.2.2.2.2.2.2) (fun x => m x.1 x.2.1 x.2.2.1 x.2.2.2.1 x.2.2.2.2.1 x.2.2.2.2.2.1 x.2.2.2.2.2.2) (z1, z2, z3, z4, z5, z6, z7) h0 hs fun x hx =>
    (round x.1 x.2.1 x.2.2.1 x.2.2.2.1 x.2.2.2.2.1 x.2.2.2.2.2.1 x.2.2.2.2.2.2 hx).mono fun e st' L' h => by
      cases e with
      | normal =>
        obtain ⟨a1', a2', a3', a4', a5', a6', a7', k⟩ := h
        exact ⟨(a1', a2', a3', a4', a5', a6', a7'), k⟩
      | _ => exact h
end
theorem zfo {v : Value} {sz : Nat} {es : List (List AV)} {u : Value} {c c' : List AV} {L M : Own} (h : FZL v sz es c c') (k : FZO v sz es L M) : FZO v sz es ((u, .box c) :: L) ((u, .box c') :: M) := ⟨rfl, h, k⟩
theorem zfw {v : Value} {sz : Nat} {es : List (List AV)} {u : Value} {E s : Nat} {e : List (List AV)} {L M : Own} (h : ∀ x ∈ e, x.length = s) (k : FZO v sz es L M) : FZO v sz es ((u, .row E s e) :: L) ((u, .row E s e) :: M) := ⟨rfl, rfl, rfl, rfl, h, FZL.refl _, k⟩
end Go.Sj
end
