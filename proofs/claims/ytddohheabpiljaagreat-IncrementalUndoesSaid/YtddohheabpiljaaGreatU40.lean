/- Parts of a proof. -/
import Derived.Test.YtddohheabpiljaaGreatU39
set_option linter.unusedVariables false
set_option linter.unusedSimpArgs false
section
namespace Go.Sj
set_option maxRecDepth 8000
section
variable {P : Program} {N : Nat} {ops : List Oper} {Q : St → Own → Prop} {L : Own} {rest : List (Oper × Kd)} {l : List (Nat × AV)} {k : Kd} {q : Nat}
theorem subV_front (ad : Option Addr) (n c sz m : Nat) : subV (.slice ad n c) sz 0 m = .slice ad m c := by
  have h : (ad.map (·.add (0 * sz))) = ad := by cases ad <;> simp [Addr.add]
  simp only [subV, h, ite_self, Nat.sub_zero]
theorem s_litLen {tt : List (TypeId × TD)} (ok : TOK P tt) {o : Oper} {T : TypeId} {x : Operand} {E0 : TypeId} {s1 b1 : Nat} {z1 : List Value} {ad : Option Addr} {n c sz a b : Nat}
    (ho : o.op = .call ⟨.builtin .len, #[x], #[T]⟩) (hdst : o.dst = some q) (hd : Nat.blt q N = true) (hg : guardA ops o (lk l) = some true) (hT : lkT tt T = some ⟨.slice E0, s1, b1, z1⟩) (hx : ev (lk l) x = .lit (subV (.slice ad n c) sz a b))
    (nx : AL P N ops Q rest (lk ((q, .lit (.int .i64 ((b - a : Nat) : Int))) :: l)) L) : AL P N ops Q ((o, k) :: rest) (lk l) L := by
  obtain ⟨dst, op', ty, pos, after, g⟩ := o
  simp only at ho
  subst ho
  refine s_pure hdst hd hg ⟨fun σ F w ρ hR hρ => ⟨.int .i64 ((b - a : Nat) : Int), ?_, .lit _⟩⟩ nx
  have h1 := hρ x (by simp [Op.operands, Call.operands])
  rw [hx] at h1
  have hu := (ok _ _ hT).slice rfl
  simp only [subV] at h1
  simp [execOp, resolve, invoke, builtin, h1.lit_inv, Builtin.len_, run_underlying hu, goInt]
theorem s_partIndex {tt : List (TypeId × TD)} (ok : TOK P tt) (i : Nat) {o : Oper} {T : TypeId} {x y : Operand} {E0 : TypeId} {s1 b1 : Nat} {z1 : List Value} {d : TD} {E sz : Nat} {v : Value} {es : List (List AV)} {kk : IntKind} {a b : Nat} {j : Int}
    (ho : o.op = .indexAddr T x y) (hdst : o.dst = some q) (hd : Nat.blt q N = true) (hg : guardA ops o (lk l) = some true) (hk : k ≠ .pure) (hT : lkT tt T = some ⟨.slice E0, s1, b1, z1⟩) (hE : lkT tt E0 = some d) (hx : ev (lk l) x = .lit (subV v sz a b)) (hL : L[i]? = some (v, .row E sz es)) (hs : sz = d.size)
    (hy : ev (lk l) y = .lit (.int kk j)) (h0 : 0 ≤ j) (h1 : a + j < b) (hb : b ≤ es.length)
    (n : AL P N ops Q rest (lk ((q, .pt v sz (a + j.toNat) 0) :: l)) L) : AL P N ops Q ((o, k) :: rest) (lk l) L := by
  obtain ⟨dst, op', ty, pos, after, g⟩ := o
  simp only at ho
  subst ho
  subst hs
  refine s_read hdst hd hg hk ⟨fun σ F w ρ hR hρ => ?_⟩ n
  have e1 := hρ x (by simp [Op.operands])
  have e2 := hρ y (by simp [Op.operands])
  rw [hx] at e1
  rw [hy] at e2
  have hu := (ok _ _ hT).slice rfl
  have hsz := (ok _ _ hE).sizeOf_run
  obtain ⟨g, cap, cur, hv, hc0, _, hnc, _⟩ := own_row_cells (hR.own1 hL) (by intro h; subst h; simp at hb; omega)
  refine ⟨.pointer (some ⟨g, (a + j.toNat) * d.size + 0, none⟩), ?_, .pt v d.size (a + j.toNat) 0 g (by rw [hv]; simp [blk]; omega)⟩
  have hadd : ((⟨g, 0, none⟩ : Addr).add (a * d.size)).add (j.toNat * d.size) = ⟨g, (a + j.toNat) * d.size, none⟩ := by
    rw [addr0]
    unfold Addr.add
    simp [Nat.add_mul]
  have hca : ¬ cap = a := by omega
  have h2 : j < ((b - a : Nat) : Int) := by omega
  rw [hv] at e1
  simp only [subV, if_neg hca, Option.map_some] at e1
  simp [execOp, e1.lit_inv, e2.lit_inv, Instr.indexAt, asIntOf, run_underlying hu, h0, h2, hsz, hadd]
end
theorem a_front {P : Program} {N : Nat} {c : Code} {Q : Exit → St → Own → Prop} {st : St} {L : Own} (i n : Nat) {ad : Option Addr} {m cap : Nat} {E sz : Nat} {es : List (List AV)} (hL : L[i]? = some (.slice ad m cap, .row E sz es)) (hn : n ≤ es.length)
    (k : AWp P N c Q st (L.set i (.slice ad n cap, .row E sz (es.take n)))) : AWp P N c Q st L :=
  ⟨fun σ F w a hr ht => by
    refine k.out σ F w a ?_ ht
    have hown := hr.own1 hL
    refine hr.writeAt (v' := .slice ad n cap) (ob' := .row E sz (es.take n)) hL (Nat.le_refl _) (fun _ _ _ => rfl) rfl rfl (fun b hb => .inl ?_) ?_
    · cases ad with
      | none => simp [blk] at hb
      | some a => simpa [blk] using hb
    · obtain ⟨xs, h1, h2, h3⟩ := hown
      have hlen : (es.take n).length = n := by rw [List.length_take]; omega
      refine ⟨xs.take (n * sz), ?_, fun e he => h2 e (List.mem_of_mem_take he), ?_⟩
      · rcases h1 with ⟨h0, a0, hv0⟩ | ⟨g, cap', cur, hv0, hc0, hg, hn', hm, hcs, ht⟩
        · injection hv0 with e1 _ hc0
          exact .inl ⟨by rw [hlen]; omega, ad, by rw [hc0, show n = 0 by omega]⟩
        · injection hv0 with e1 e2 e3
          subst e1
          subst e3
          refine .inr ⟨g, cap, cur, by rw [hlen], hc0, hg, by rw [hlen]; omega, hm, hcs, ?_⟩
          rw [hlen, ← ht, List.take_take, Nat.min_eq_left (Nat.mul_le_mul_right _ hn)]
      · rw [← flatten_take h2 hn]
        exact h3.take _⟩
end Go.Sj
end
section
namespace Go.Proofs.YtddohheabpiljaaGreat
open Go.Sj Go.Sj.Typ Go.Sj.Sta Go.Sj.Inc
set_option maxRecDepth 8000
set_option maxHeartbeats 16000000
theorem sortF_spec (d : Array Mo) (hd : AllB d) (v : Value) :
    ACalls Tryz.prog 98 [.lit v, cmpF] [(v, rowM d)] (fun y M => y = .tup [] ∧ M = [(v, rowM (Sort.sort ltM d))]) := by
  have hn := hd.n
  have s1 := lenE_spec d.size hn
  have s2 := pdqS_spec d.size d hd 0 d.size (Sort.bitsLen d.size) (by omega) (Nat.zero_le _) (Nat.le_refl _) (by have := bitsLen_20 hn; omega) v
  have ll : (d.toList.map cMo).length = d.size := by simp
  change ACalls _ _ [.lit v, AI 0, AI d.size, AI (Sort.bitsLen d.size : Nat), cmpF] _ _ at s2
  have e : Sort.sort ltM d = Sort.pdq ltM d 0 d.size (Sort.bitsLen d.size) true true := rfl
  rw [e]
  generalize Sort.pdq ltM d 0 d.size (Sort.bitsLen d.size) true true = R at *
  generalize Sort.bitsLen d.size = z at *
  rw [← ll] at s1 s2
  refine zen Tryz.func98 (by kernel_rfl) rfl Tryz.ntmps98 rfl (by simp) ?_
  repeat (first | refine gA pk ?_ | (show AL _ _ _ _ _ _ _; first | refine zol tok 0 rfl rfl rfl rfl (by decide) rfl rfl rfl ?_ | refine s_pe (x := cmpF) tok rfl rfl rfl rfl ?_ | refine zcv tok rfl rfl rfl rfl rfl rfl rfl (IntWalk.u64_in _ (by omega)) ?_ | refine jP s1 ?_ | refine zsc (Lc := [(v, rowM d)]) (Lr := []) rfl rfl rfl rfl rfl s2 (SubL.of_eq rfl) (List.Perm.refl _) ?_; rintro _ _ ⟨rfl, ⟨w1, w2⟩, rfl⟩))
  exact fin (x := .tup []) (.inl rfl) rfl (Sub.refl _) ⟨rfl, rfl⟩ (OSub.refl _)
def ddA : Mo → List Mo → List Mo
  | _, [] => []
  | p, y :: t => if y = p then ddA p t else y :: ddA y t
def dd : List Mo → List Mo
  | [] => []
  | x :: t => x :: ddA x t
theorem ddA_snoc (y : Mo) : ∀ (p : Mo) (l : List Mo), ddA p (l ++ [y]) = if (p :: l).getLast? = some y then ddA p l else ddA p l ++ [y]
  | p, [] => by
    simp only [List.nil_append, ddA, List.getLast?_singleton, Option.some.injEq]
    by_cases h : y = p
    · rw [if_pos h, if_pos h.symm]
    · rw [if_neg h, if_neg (fun e => h e.symm)]
  | p, x :: l => by
    have e : (p :: x :: l).getLast? = (x :: l).getLast? := by simp [List.getLast?_cons_cons]
    rw [List.cons_append, ddA, ddA, e]
    by_cases hx : x = p
    · subst hx
      rw [if_pos rfl, if_pos rfl]
      exact ddA_snoc y x l
    · rw [if_neg hx, if_neg hx, ddA_snoc y x l]
      split <;> rfl
theorem dd_snoc {l : List Mo} {x y : Mo} (h : l.getLast? = some x) : dd (l ++ [y]) = if x = y then dd l else dd l ++ [y] := by
  cases l with
  | nil => cases h
  | cons z l =>
    show z :: ddA z (l ++ [y]) = _
    rw [ddA_snoc, h]
    simp only [Option.some.injEq]
    show _ = if x = y then z :: ddA z l else z :: ddA z l ++ [y]
    split <;> rfl
theorem dd_take {l : List Mo} {k : Nat} {x y : Mo} (hk : 1 ≤ k) (hx : l[k - 1]? = some x) (hy : l[k]? = some y) : dd (l.take (k + 1)) = if x = y then dd (l.take k) else dd (l.take k) ++ [y] := by
  rw [List.take_add_one, hy]
  refine dd_snoc ?_
  have := (List.getElem?_eq_some_iff.1 hy).1
  rw [List.getLast?_eq_getElem?, List.length_take, Nat.min_eq_left (by omega), List.getElem?_take, if_pos (by omega), hx]
theorem arr_at {d : Array Mo} {k : Nat} (h : k < d.size) : d.toList[k]? = some d[k]! := by
  rw [get_pos d h, List.getElem?_eq_getElem (by simpa using h)]
  simp
abbrev samF : AV := .fn (.func 42) [] []
theorem compF_spec (d : Array Mo) (hd : AllB d) (v : Value) :
    ACalls Tryz.prog 99 [.lit v, samF] [(v, rowM d)] (fun y M => ∃ v', y = .lit v' ∧ M = [(v', .row 95 2 ((dd d.toList).map cMo))]) := by
  have hn := hd.n
  have ll : (d.toList.map cMo).length = d.size := by simp
  by_cases h2 : d.size < 2
  · have e : dd d.toList = d.toList := by
      have : d.toList.length < 2 := by simpa using h2
      match hl : d.toList, this with
      | [], _ => rfl
      | [x], _ => rfl
    rw [e]
    refine zen Tryz.func99 (by kernel_rfl) rfl Tryz.ntmps99 rfl (by simp) ?_
    repeat (first | refine gA pk ?_ | (show AL _ _ _ _ _ _ _; first | refine zol tok 0 rfl rfl rfl rfl (by decide) rfl rfl rfl ?_))
    exact fin (x := .lit _) (.inr rfl) rfl (Sub.refl _) ⟨_, rfl, rfl⟩ (OSub.refl _)
  refine zen Tryz.func99 (by kernel_rfl) rfl Tryz.ntmps99 rfl (by simp) ?_
  refine a_knowRow 0 rfl (fun ad c hv hc hm _ => ?_)
  rw [ll] at hv hc
  obtain ⟨n, hnn⟩ : ∃ n, d.size = n := ⟨_, rfl⟩
  rw [hnn] at hv hc hn h2
  rw [hnn] at ll
  subst hv
  repeat (first | refine gA pk ?_ | (show AL _ _ _ _ _ _ _; first | refine zol tok 0 rfl rfl rfl rfl (by decide) rfl rfl rfl ?_))
  refine zlx (fun k : Nat => [(0, .lit (.slice ad n c)), (1, samF), (5, AI k)]) (fun _ => [(.slice ad n c, rowM d)]) (fun k => 1 ≤ k ∧ k ≤ n ∧ dd (d.toList.take k) = d.toList.take k) (fun k => n - k) 1 ⟨Nat.le_refl _, by omega, ?_⟩ ?_ (OSub.refl _) ?_
  · have h := arr_at (d := d) (k := 0) (by omega)
    cases hl : d.toList with
    | nil => rw [hl] at h; cases h
    | cons x t => rfl
  · exact subQ
  rintro k ⟨k1, k2, k3⟩
  rcases Nat.lt_or_ge k n with hk | hk
  rotate_left
  · obtain rfl : k = n := by omega
    have e : dd d.toList = d.toList := by
      rwa [List.take_of_length_le (by simp; omega)] at k3
    rw [e]
    repeat (first | refine gA pk ?_ | (show AL _ _ _ _ _ _ _; first | refine zol tok 0 rfl rfl rfl rfl (by decide) rfl rfl rfl ?_))
    exact fin (x := .lit _) (.inr rfl) rfl (Sub.refl _) ⟨_, rfl, rfl⟩ (OSub.refl _)
  have c1 := zat (d := d) (z := (k : Int)) (j := k) (by omega) (by omega)
  have c2 := zat (d := d) (z := (k : Int) - 1) (j := k - 1) (by omega) (by omega)
  have cs : Pure Tryz.prog 42 [.agg (cMo d[k]!), .agg (cMo d[k - 1]!)] (AB (decide (d[k]! = d[k - 1]!))) := isame_spec _ _ (hd.el k) (hd.el (k - 1))
  have hT := dd_take k1 (arr_at (d := d) (k := k - 1) (by omega)) (arr_at (d := d) (k := k) (by omega))
  have hTk : d.toList.take (k + 1) = d.toList.take k ++ [d[k]!] := by rw [List.take_add_one, arr_at (by omega)]; rfl
  by_cases he : d[k]! = d[k - 1]!
  · rw [decide_eq_true he] at cs
    rw [if_pos he.symm, k3] at hT
    clear hTk
    generalize d[k]! = x at *
    generalize d[k - 1]! = y at *
    repeat (first | refine gN pk ?_ | (show AL _ _ _ _ _ _ _; first | refine zol tok 0 rfl rfl rfl rfl (by decide) rfl rfl rfl ?_))
    refine zrg ((List.range 11).map fun i => if inL [10] i = true then .eff else if inL [3, 4, 8, 9] i = true then .read else .pure) [] [0, 1, 2, 3, 4, 5, 6, 7, 8, 9, 10] .stop mixed rfl rfl (by decide +kernel) ?_
    repeat' (first | (with_reducible show AG _ _ _ _ _ _ _ _ _ _; first | exact zgn | refine zgs ?_ | refine znd ?_ ?_) | (show AMid _ _ _ _; first | refine zmf ?_ | refine zmg (by first | exact OSub.refl _ | exact .drop (OSub.refl _) | exact .drop (.drop (OSub.refl _))) ?_) | refine gY pk ?_ | (show AL _ _ _ _ _ _ _; first | refine zim tok 0 rfl rfl rfl rfl (by decide) rfl rfl rfl rfl rfl rfl (by omega) (by first | omega | (simp only [Array.size_setIfInBounds]; omega)) ?_ | refine zlm tok 0 rfl rfl rfl rfl (by decide) rfl (fun _ _ => rfl) rfl rfl c1 ?_ | refine zlm tok 0 rfl rfl rfl rfl (by decide) rfl (fun _ _ => rfl) rfl rfl c2 ?_ | refine jP cs ?_) | fail)
    clear c1 c2 cs
    repeat (first | refine gA pk ?_ | (show AL _ _ _ _ _ _ _; first | refine s_capPart tok k n rfl rfl rfl rfl rfl rfl rfl rfl (by first | exact rfl | exact ⟨_, _, rfl, by omega⟩) (by first | exact rfl | exact ⟨_, _, rfl, by omega⟩) (by omega) (by omega) ?_))
    refine zlx (fun x : (Nat × Nat) × Array Mo => [(0, .lit (.slice ad n c)), (1, samF), (5, AI x.1.1), (6, .lit (subV (.slice ad n c) 2 k n)), (7, AI x.1.2)]) (fun x => [(.slice ad n c, rowM x.2)]) (fun x => k ≤ x.1.1 ∧ x.1.1 + 1 ≤ k + x.1.2 ∧ 1 ≤ x.1.2 ∧ k + x.1.2 ≤ n ∧ AllB x.2 ∧ x.2.size = n ∧ x.2.toList.take x.1.1 = dd (d.toList.take (k + x.1.2)) ∧ ∀ i, k + x.1.2 ≤ i + 1 → x.2[i]! = d[i]!) (fun x => n - x.1.2) ((k, 1), d) ⟨Nat.le_refl _, Nat.le_refl _, Nat.le_refl _, hk, hd, hnn, hT.symm, fun i _ => rfl⟩ ?_ (OSub.refl _) ?_
    · exact subQ
    rintro ⟨⟨j, q⟩, e⟩ ⟨m1, m2, m3, m4, m5, m6, m7, m8⟩
    simp only at m1 m2 m3 m4 m5 m6 m7 m8
    dsimp only
    rcases Nat.lt_or_ge (k + q) n with hq | hq
    · have g1 : e.toList[k + ((q : Nat) : Int).toNat]? = some d[k + q]! := by
        rw [Int.toNat_natCast, arr_at (by omega), m8 (k + q) (by omega)]
      have g2 : e.toList[k + (((q : Nat) : Int) - 1).toNat]? = some d[k + q - 1]! := by
        rw [show k + (((q : Nat) : Int) - 1).toNat = k + q - 1 by omega, arr_at (by omega), m8 (k + q - 1) (by omega)]
      have gs : Pure Tryz.prog 42 [.agg (cMo d[k + q]!), .agg (cMo d[k + q - 1]!)] (AB (decide (d[k + q]! = d[k + q - 1]!))) := isame_spec _ _ (hd.el _) (hd.el _)
      have hT2 := dd_take (k := k + q) (by omega) (arr_at (d := d) (k := k + q - 1) (by omega)) (arr_at (d := d) (k := k + q) (by omega))
      have hMB := hd.el (k + q)
      generalize hx2 : d[k + q]! = x2 at *
      generalize d[k + q - 1]! = y2 at *
      by_cases he2 : x2 = y2
      · rw [decide_eq_true he2] at gs
        rw [if_pos he2.symm] at hT2
        repeat (first | refine gN pk ?_ | (show AL _ _ _ _ _ _ _; first | refine s_litLen tok rfl rfl rfl rfl rfl rfl ?_))
        refine zrg ((List.range 12).map fun i => if inL [10] i = true then .eff else if inL [3, 4, 8, 9] i = true then .read else .pure) [] [0, 1, 2, 3, 4, 5, 6, 7, 8, 9, 10, 11] .stop mixed rfl rfl (by decide +kernel) ?_
        repeat' (first | (with_reducible show AG _ _ _ _ _ _ _ _ _ _; first | exact zgn | refine zgs ?_ | refine znd ?_ ?_) | (show AMid _ _ _ _; first | refine zmf ?_ | refine zmg (by first | exact OSub.refl _ | exact .drop (OSub.refl _) | exact .drop (.drop (OSub.refl _))) ?_) | refine gY pk ?_ | (show AL _ _ _ _ _ _ _; first | refine s_partIndex tok 0 rfl rfl rfl rfl (by decide) rfl rfl rfl rfl rfl rfl (by omega) (by omega) (by simp only [List.length_map, Array.length_toList]; omega) ?_ | refine zlm tok 0 rfl rfl rfl rfl (by decide) rfl (fun _ _ => rfl) rfl rfl g1 ?_ | refine zlm tok 0 rfl rfl rfl rfl (by decide) rfl (fun _ _ => rfl) rfl rfl g2 ?_ | refine jP gs ?_) | fail)
        repeat (first | refine gA pk ?_)
        exact ⟨((j, q + 1), e), ⟨m1, by show j + 1 ≤ k + (q + 1); omega, by show 1 ≤ q + 1; omega, by show k + (q + 1) ≤ n; omega, m5, m6, by rw [m7]; exact hT2.symm, fun i hi => m8 i (by have : k + (q + 1) ≤ i + 1 := hi; omega)⟩, by show n - (q + 1) < n - q; omega, by exact subQ, OSub.refl _⟩
      · rw [decide_eq_false he2] at gs
        rw [if_neg (fun h => he2 h.symm)] at hT2
        repeat (first | refine gN pk ?_ | (show AL _ _ _ _ _ _ _; first | refine s_litLen tok rfl rfl rfl rfl rfl rfl ?_))
        refine zrg ((List.range 12).map fun i => if inL [10] i = true then .eff else if inL [3, 4, 8, 9] i = true then .read else .pure) [] [0, 1, 2, 3, 4, 5, 6, 7, 8, 9, 10, 11] .stop mixed rfl rfl (by decide +kernel) ?_
        repeat' (first | (with_reducible show AG _ _ _ _ _ _ _ _ _ _; first | exact zgn | refine zgs ?_ | refine znd ?_ ?_) | (show AMid _ _ _ _; first | refine zmf ?_ | refine zmg (by first | exact OSub.refl _ | exact .drop (OSub.refl _) | exact .drop (.drop (OSub.refl _))) ?_) | refine gY pk ?_ | (show AL _ _ _ _ _ _ _; first | refine s_partIndex tok 0 rfl rfl rfl rfl (by decide) rfl rfl rfl rfl rfl rfl (by omega) (by omega) (by simp only [List.length_map, Array.length_toList]; omega) ?_ | refine zlm tok 0 rfl rfl rfl rfl (by decide) rfl (fun _ _ => rfl) rfl rfl g1 ?_ | refine zlm tok 0 rfl rfl rfl rfl (by decide) rfl (fun _ _ => rfl) rfl rfl g2 ?_ | refine jP gs ?_) | fail)
        repeat (first | refine gA pk ?_ | (show AL _ _ _ _ _ _ _; first | refine s_partIndex tok 0 rfl rfl rfl rfl (by decide) rfl rfl rfl rfl rfl rfl (by omega) (by omega) (by simp only [List.length_map, Array.length_toList]; omega) ?_ | refine zim tok 0 rfl rfl rfl rfl (by decide) rfl rfl rfl rfl rfl rfl (by omega) (by omega) ?_ | refine zlm tok 0 rfl rfl rfl rfl (by decide) rfl (fun _ _ => rfl) rfl rfl g1 ?_ | refine s_storeMo tok 0 rfl rfl rfl rfl rfl rfl rfl rfl (by omega) ?_))
        have ez : ((j : Nat) : Int).toNat = j := by omega
        rw [ez]
        refine ⟨((j + 1, q + 1), e.setIfInBounds j x2), ⟨by show k ≤ j + 1; omega, by show j + 1 + 1 ≤ k + (q + 1); omega, by show 1 ≤ q + 1; omega, by show k + (q + 1) ≤ n; omega, ⟨by rw [Array.size_setIfInBounds]; exact m5.n, fun i => ?_⟩, by rw [Array.size_setIfInBounds]; exact m6, ?_, fun i hi => ?_⟩, by show n - (q + 1) < n - q; omega, by exact subQ, OSub.refl _⟩
        · by_cases hij : i = j
          · subst hij
            rw [get_pos _ (by rw [Array.size_setIfInBounds]; omega), Array.getElem_setIfInBounds_self]
            exact hMB
          · have := m5.el i
            by_cases hi : i < e.size
            · rw [get_pos _ (by rw [Array.size_setIfInBounds]; omega), Array.getElem_setIfInBounds_ne (h := fun h => hij h.symm) (hj := hi), ← get_pos _ hi]
              exact this
            · rw [get_neg _ (by rw [Array.size_setIfInBounds]; omega), ← get_neg _ hi]
              exact this
        · show (e.setIfInBounds j x2).toList.take (j + 1) = dd (d.toList.take (k + (q + 1)))
          rw [show k + (q + 1) = k + q + 1 by omega, hT2, ← m7, Array.toList_setIfInBounds, List.take_add_one, List.take_set_of_le (Nat.le_refl _), List.getElem?_set_self (by simp; omega)]
          rfl
        · have hi' : k + (q + 1) ≤ i + 1 := hi
          have hne : i ≠ j := by omega
          rw [← m8 i (by omega)]
          by_cases hi2 : i < e.size
          · rw [get_pos _ (by rw [Array.size_setIfInBounds]; omega), Array.getElem_setIfInBounds_ne (h := fun h => hne h.symm) (hj := hi2), ← get_pos _ hi2]
          · rw [get_neg _ (by rw [Array.size_setIfInBounds]; omega), ← get_neg _ hi2]
    · obtain rfl : n = k + q := by omega
      rw [List.take_of_length_le (l := d.toList) (by simp; omega)] at m7
      rw [← m7]
      have lj : j ≤ (e.toList.map cMo).length := by simp; omega
      refine a_front 0 j rfl lj ?_
      rw [← List.map_take]
      repeat (first | refine gA pk ?_ | (show AL _ _ _ _ _ _ _; first | refine s_litLen tok rfl rfl rfl rfl rfl rfl ?_ | refine s_capPart tok j (k + q) rfl rfl rfl rfl rfl rfl rfl rfl (by first | exact rfl | exact ⟨_, _, rfl, by omega⟩) (by first | exact rfl | exact ⟨_, _, rfl, by omega⟩) (by omega) (by omega) ?_ | refine s_capPart tok 0 j rfl rfl rfl rfl rfl rfl rfl rfl (by first | exact rfl | exact ⟨_, _, rfl, by omega⟩) (by first | exact rfl | exact ⟨_, _, rfl, by omega⟩) (by omega) (by omega) ?_ | refine s_clearTail tok 0 (n := j) j (k + q) rfl rfl rfl rfl rfl rfl rfl rfl (by omega) (by omega) (by omega) rfl ?_))
      rw [subV_front]
      exact fin (x := .lit _) (.inr rfl) rfl (Sub.refl _) ⟨_, rfl, rfl⟩ (OSub.refl _)
  · rw [decide_eq_false he] at cs
    rw [if_neg (fun h => he h.symm), k3, ← hTk] at hT
    generalize d[k]! = x at *
    generalize d[k - 1]! = y at *
    repeat (first | refine gN pk ?_ | (show AL _ _ _ _ _ _ _; first | refine zol tok 0 rfl rfl rfl rfl (by decide) rfl rfl rfl ?_))
    refine zrg ((List.range 11).map fun i => if inL [10] i = true then .eff else if inL [3, 4, 8, 9] i = true then .read else .pure) [] [0, 1, 2, 3, 4, 5, 6, 7, 8, 9, 10] .stop mixed rfl rfl (by decide +kernel) ?_
    repeat' (first | (with_reducible show AG _ _ _ _ _ _ _ _ _ _; first | exact zgn | refine zgs ?_ | refine znd ?_ ?_) | (show AMid _ _ _ _; first | refine zmf ?_ | refine zmg (by first | exact OSub.refl _ | exact .drop (OSub.refl _) | exact .drop (.drop (OSub.refl _))) ?_) | refine gY pk ?_ | (show AL _ _ _ _ _ _ _; first | refine zim tok 0 rfl rfl rfl rfl (by decide) rfl rfl rfl rfl rfl rfl (by omega) (by first | omega | (simp only [Array.size_setIfInBounds]; omega)) ?_ | refine zlm tok 0 rfl rfl rfl rfl (by decide) rfl (fun _ _ => rfl) rfl rfl c1 ?_ | refine zlm tok 0 rfl rfl rfl rfl (by decide) rfl (fun _ _ => rfl) rfl rfl c2 ?_ | refine jP cs ?_) | fail)
    repeat (first | refine gA pk ?_)
    exact ⟨k + 1, ⟨by omega, by omega, hT⟩, by omega, by exact subQ, OSub.refl _⟩
end Go.Proofs.YtddohheabpiljaaGreat
end
