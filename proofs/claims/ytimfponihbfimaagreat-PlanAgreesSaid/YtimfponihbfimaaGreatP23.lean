/- Parts of a proof. -/
import Derived.Test.YtimfponihbfimaaGreatP22
set_option linter.unusedVariables false
set_option linter.unusedSimpArgs false
section
namespace Go.Proofs.YtimfponihbfimaaGreat
open Go.Sj Go.Sj.Typ
set_option maxRecDepth 8000
set_option maxHeartbeats 4000000
theorem given_own1 (t : Tys) (ht : Small t) (a : Int) (v : Value) : ACalls Tryz.prog 170 [tysA t, .lit v] [(v, .row 3 1 [[AI a]])] (fun y L => y = AI (givenR t [a]) ∧ L = []) := given_own t ht [a] (by simp) v
theorem given_at1 {t : Tys} (ht : Small t) {a : Int} (h : givenR t [a] = 0) : PR t.nodes t.nodes.length ∧ (0 ≤ a ∧ a < t.nodes.length) ∧ t.nodes.length ≤ 1000 :=
  ⟨given_pr h, (given_ok h).2 a (by simp), by have := ht.nodes; omega⟩
theorem edge_at {t : Tys} {l : List Int} (h : givenR t l = 0) {i : Nat} {x : Edg} (hx : t.edges[i]? = some x) : (0 ≤ x.fr ∧ x.fr < t.nodes.length) ∧ (0 ≤ x.to ∧ x.to < t.nodes.length) := by
  have h1 := (validR_zero.1 (given_ok h).1).2.2.2.2 i (List.getElem?_eq_some_iff.1 hx).1
  rw [edgeE_eq hx] at h1
  split at h1
  · cases h1
  · split at h1
    · cases h1
    · split at h1
      · rename_i h2; exact ⟨h2.1, h2.2.1⟩
      · cases h1
theorem Fits_spec (t : Tys) (ht : Small t) (e a b : Int) : Pure Tryz.prog 151 [tysA t, AI e, AI a, AI b] (AB (fitsR t e a b)) := by
  have s1 := given_own t ht [a, b] (by simp)
  have le : (t.edges.map cEdg).length = t.edges.length := by simp
  unfold fitsR
  by_cases hg : givenR t [a, b] = 0
  · obtain ⟨hp, ha, hb, hk⟩ := given_at ht hg
    rw [hg] at s1
    by_cases he : e < 0 ∨ (t.edges.length : Int) ≤ e
    · rw [if_pos (.inr he)]
      refine zen Tryz.func151 (by kernel_rfl) rfl Tryz.ntmps151 rfl (by simp) ?_; refine a_seq ?_; refine a_reg ?_; (repeat (first | refine gZ pk ?_ | (show AL _ _ _ _ _ _ _; first | refine jB (fun u => ?_)))); refine zfb 0 4 rfl rfl ?_
      repeat (first | refine gA pk ?_ | (show AL _ _ _ _ _ _ _; first | refine s_build tok (parts := [(0, .tmp _), (1, .tmp _)]) rfl rfl rfl rfl rfl rfl rfl rfl (by decide) (by decide) (fun u => ?_)))
      refine s_callO 0 rfl rfl rfl rfl rfl rfl (s1 _) (SubL.of_eq rfl) ?_
      rintro _ _ ⟨rfl, rfl⟩
      repeat' (first | refine gA pk ?_ | (show AL _ _ _ _ _ _ _; first | (refine s_cmp rfl rfl rfl rfl rfl rfl rfl (fun hb => ?_) (fun hb => ?_) <;> simp only [cmpP] at hb)) | fail)
      all_goals first | (exfalso; omega) | skip
      all_goals refine finQ ?_
      all_goals exact ⟨rfl, rfl⟩
    · rw [if_neg (by omega)]
      have hx := List.getElem?_eq_getElem (l := t.edges) (i := e.toNat) (by omega)
      generalize t.edges[e.toNat] = x at hx
      have xk : (t.edges.map cEdg)[e.toNat]? = some (cEdg x) := zmp hx
      rw [hx]
      have s2 := is_spec t _ (Nat.le_refl _) hk hp a x.fr (by omega) ha.2
      have s3 := is_spec t _ (Nat.le_refl _) hk hp b x.to (by omega) hb.2
      show Pure _ _ _ (AB (decide (x.fr ∈ up t.nodes a) && decide (x.to ∈ up t.nodes b)))
      generalize decide (x.fr ∈ up t.nodes a) = c at *
      generalize decide (x.to ∈ up t.nodes b) = d at *
      cases c with
      | true =>
        rw [Bool.true_and]
        refine zen Tryz.func151 (by kernel_rfl) rfl Tryz.ntmps151 rfl (by simp) ?_; refine a_seq ?_; refine a_reg ?_; (repeat (first | refine gZ pk ?_ | (show AL _ _ _ _ _ _ _; first | refine jB (fun u => ?_)))); refine zfb 0 4 rfl rfl ?_
        repeat (first | refine gA pk ?_ | (show AL _ _ _ _ _ _ _; first | refine s_build tok (parts := [(0, .tmp _), (1, .tmp _)]) rfl rfl rfl rfl rfl rfl rfl rfl (by decide) (by decide) (fun u => ?_)))
        refine s_callO 0 rfl rfl rfl rfl rfl rfl (s1 _) (SubL.of_eq rfl) ?_
        rintro _ _ ⟨rfl, rfl⟩
        repeat (first | refine gA pk ?_ | (show AL _ _ _ _ _ _ _; first | refine jX tok xk ?_ | refine jP s2 ?_ | refine jP s3 ?_))
        refine finQ ?_
        exact ⟨rfl, rfl⟩
      | false =>
        rw [Bool.false_and]
        refine zen Tryz.func151 (by kernel_rfl) rfl Tryz.ntmps151 rfl (by simp) ?_; refine a_seq ?_; refine a_reg ?_; (repeat (first | refine gZ pk ?_ | (show AL _ _ _ _ _ _ _; first | refine jB (fun u => ?_)))); refine zfb 0 4 rfl rfl ?_
        repeat (first | refine gA pk ?_ | (show AL _ _ _ _ _ _ _; first | refine s_build tok (parts := [(0, .tmp _), (1, .tmp _)]) rfl rfl rfl rfl rfl rfl rfl rfl (by decide) (by decide) (fun u => ?_)))
        refine s_callO 0 rfl rfl rfl rfl rfl rfl (s1 _) (SubL.of_eq rfl) ?_
        rintro _ _ ⟨rfl, rfl⟩
        repeat (first | refine gA pk ?_ | (show AL _ _ _ _ _ _ _; first | refine jX tok xk ?_ | refine jP s2 ?_))
        refine finQ ?_
        exact ⟨rfl, rfl⟩
  · rw [if_pos (.inl hg)]
    generalize givenR t [a, b] = g at *
    refine zen Tryz.func151 (by kernel_rfl) rfl Tryz.ntmps151 rfl (by simp) ?_; refine a_seq ?_; refine a_reg ?_; (repeat (first | refine gZ pk ?_ | (show AL _ _ _ _ _ _ _; first | refine jB (fun u => ?_)))); refine zfb 0 4 rfl rfl ?_
    repeat (first | refine gA pk ?_ | (show AL _ _ _ _ _ _ _; first | refine s_build tok (parts := [(0, .tmp _), (1, .tmp _)]) rfl rfl rfl rfl rfl rfl rfl rfl (by decide) (by decide) (fun u => ?_)))
    refine s_callO 0 rfl rfl rfl rfl rfl rfl (s1 _) (SubL.of_eq rfl) ?_
    rintro _ _ ⟨rfl, rfl⟩
    repeat (first | refine gA pk ?_)
    refine finQ ?_
    exact ⟨rfl, rfl⟩
theorem refFits_spec (t : Tys) (ht : Small t) (e a b : Int) : Pure Tryz.prog 112 [tysA t, AI e, AI a, AI b] (AB (fitsR t e a b)) := by
  have s1 := refGiven_spec t ht a b
  have hel := ht.edges
  have le : (t.edges.map cEdg).length = t.edges.length := by simp
  have s4 := in_spec e 0 ((t.edges.length : Int) - 1)
  rw [← le] at s4
  unfold fitsR
  by_cases hg : givenR t [a, b] = 0
  · obtain ⟨hp, ha, hb, hk⟩ := given_at ht hg
    rw [hg] at s1
    by_cases he : e < 0 ∨ (t.edges.length : Int) ≤ e
    · rw [if_pos (.inr he)]
      rw [decide_eq_false (by omega)] at s4
      refine zen Tryz.func112 (by kernel_rfl) rfl Tryz.ntmps112 rfl (by simp) ?_; refine a_seq ?_; refine a_reg ?_; (repeat (first | refine gZ pk ?_ | (show AL _ _ _ _ _ _ _; first | refine jB (fun u => ?_)))); refine zfb 0 4 rfl rfl ?_
      repeat (first | refine gA pk ?_ | (show AL _ _ _ _ _ _ _; first | refine jP s1 ?_ | refine jP s4 ?_))
      refine finQ ?_
      exact ⟨rfl, rfl⟩
    · rw [if_neg (by omega)]
      rw [decide_eq_true (by omega)] at s4
      have hx := List.getElem?_eq_getElem (l := t.edges) (i := e.toNat) (by omega)
      generalize t.edges[e.toNat] = x at hx
      have xk : (t.edges.map cEdg)[e.toNat]? = some (cEdg x) := zmp hx
      rw [hx]
      have hed := edge_at hg hx
      have s2 := Below1_spec t _ (Nat.le_refl _) hp x.fr hed.1.1 1000 a (by omega) (by omega) ha.2
      have s3 := Below1_spec t _ (Nat.le_refl _) hp x.to hed.2.1 1000 b (by omega) (by omega) hb.2
      show Pure _ _ _ (AB (decide (x.fr ∈ up t.nodes a) && decide (x.to ∈ up t.nodes b)))
      generalize decide (x.fr ∈ up t.nodes a) = c at *
      generalize decide (x.to ∈ up t.nodes b) = d at *
      cases c with
      | true =>
        rw [Bool.true_and]
        refine zen Tryz.func112 (by kernel_rfl) rfl Tryz.ntmps112 rfl (by simp) ?_; refine a_seq ?_; refine a_reg ?_; (repeat (first | refine gZ pk ?_ | (show AL _ _ _ _ _ _ _; first | refine jB (fun u => ?_)))); refine zfb 0 4 rfl rfl ?_
        repeat (first | refine gA pk ?_ | (show AL _ _ _ _ _ _ _; first | refine jP s1 ?_ | refine jP s4 ?_ | refine jX tok xk ?_ | refine jP s2 ?_ | refine jP s3 ?_))
        refine finQ ?_
        exact ⟨rfl, rfl⟩
      | false =>
        rw [Bool.false_and]
        refine zen Tryz.func112 (by kernel_rfl) rfl Tryz.ntmps112 rfl (by simp) ?_; refine a_seq ?_; refine a_reg ?_; (repeat (first | refine gZ pk ?_ | (show AL _ _ _ _ _ _ _; first | refine jB (fun u => ?_)))); refine zfb 0 4 rfl rfl ?_
        repeat (first | refine gA pk ?_ | (show AL _ _ _ _ _ _ _; first | refine jP s1 ?_ | refine jP s4 ?_ | refine jX tok xk ?_ | refine jP s2 ?_))
        refine finQ ?_
        exact ⟨rfl, rfl⟩
  · rw [if_pos (.inl hg)]
    generalize givenR t [a, b] = g at *
    refine zen Tryz.func112 (by kernel_rfl) rfl Tryz.ntmps112 rfl (by simp) ?_; refine a_seq ?_; refine a_reg ?_; (repeat (first | refine gZ pk ?_ | (show AL _ _ _ _ _ _ _; first | refine jB (fun u => ?_)))); refine zfb 0 4 rfl rfl ?_
    repeat (first | refine gA pk ?_ | (show AL _ _ _ _ _ _ _; first | refine jP s1 ?_))
    refine finQ ?_
    exact ⟨rfl, rfl⟩
theorem rng_succ (p : Int → Bool) (k : Nat) : ((List.range (k + 1)).map fun (i : Nat) => (i : Int)).filter p = ((List.range k).map fun (i : Nat) => (i : Int)).filter p ++ if p k = true then [(k : Int)] else [] := by
  rw [List.range_succ, List.map_append, List.filter_append]
  congr 1
  simp only [List.map_cons, List.map_nil, List.filter_cons, List.filter_nil]
theorem rng_len (p : Int → Bool) (k : Nat) : (((List.range k).map fun (i : Nat) => (i : Int)).filter p).length ≤ k := by
  have := List.length_filter_le p ((List.range k).map fun (i : Nat) => (i : Int))
  simpa using this
theorem Below_spec (t : Tys) (ht : Small t) (a : Int) : Pure Tryz.prog 165 [tysA t, AI a] (.tup [ints (belR t a).1, AI (belR t a).2]) := by
  have s1 := given_own1 t ht a
  have ln : (t.nodes.map cNod).length = t.nodes.length := by simp
  have nil1 : Sub (.lit (.slice none 0 0)) (ints []) := Sub.nil 1
  unfold belR
  by_cases hg : givenR t [a] = 0
  · obtain ⟨hp, ha, hk⟩ := given_at1 ht hg
    rw [hg] at s1
    rw [if_neg (by omega)]
    have hst := rng_succ (fun x => decide (a ∈ up t.nodes x))
    have hln := rng_len (fun x => decide (a ∈ up t.nodes x))
    have s2 : ∀ i : Int, 0 ≤ i → i < t.nodes.length → Pure Tryz.prog 171 [tysA t, AI i, AI a] (AB (decide (a ∈ up t.nodes i))) := fun i hi h2 => is_spec t _ (Nat.le_refl _) hk hp i a (by omega) h2
    generalize hP : (fun x => decide (a ∈ up t.nodes x)) = P at *
    have hP2 : ∀ x, decide (a ∈ up t.nodes x) = P x := fun x => by rw [← hP]
    simp only [hP2] at s2 hst
    refine zen Tryz.func165 (by kernel_rfl) rfl Tryz.ntmps165 rfl (by simp) ?_; refine a_seq ?_; refine a_reg ?_; (repeat (first | refine gZ pk ?_ | (show AL _ _ _ _ _ _ _; first | refine jB (fun u => ?_)))); refine zfb 0 2 rfl rfl ?_
    repeat (first | refine gA pk ?_ | (show AL _ _ _ _ _ _ _; first | refine s_build1 tok rfl rfl rfl rfl rfl rfl rfl rfl (fun u => ?_)))
    refine s_callO 0 rfl rfl rfl rfl rfl rfl (s1 _) (SubL.of_eq rfl) ?_
    rintro _ _ ⟨rfl, rfl⟩
    repeat (first | refine gA pk ?_)
    rw [ln]
    refine a_loop2 (fun (k : Nat) (v : Value) => [(1, AI a), (2, tysP t), (7, .lit v), (18, AI t.nodes.length), (19, AI k)]) (fun k v => [(v, .row 3 1 (rowI (((List.range k).map fun (i : Nat) => (i : Int)).filter P)))]) (fun k _ => k ≤ t.nodes.length) (fun k _ => t.nodes.length - k) 0 (.slice none 0 0) (by omega) ?_ (.free (OSub.none _)) ?_
    · exact subQ
    · intro k v hk
      by_cases hlt : k < t.nodes.length
      · have s3 := s2 k (by omega) (by omega)
        have hs := hst k
        have hl := hln k
        generalize ((List.range k).map fun (i : Nat) => (i : Int)).filter P = out at *
        have lo : (rowI out).length = out.length := by simp
        cases hb : P k with
        | true =>
          rw [hb] at s3
          rw [hb, if_pos rfl] at hs
          repeat (first | refine gA pk ?_ | (show AL _ _ _ _ _ _ _; first | refine jP s3 ?_))
          (first | refine s_build1 tok rfl rfl rfl rfl rfl rfl rfl rfl (fun u => ?_) | refine s_build1M tok rfl rfl rfl rfl rfl rfl rfl (fun u => ?_) | refine zba tok rfl rfl rfl rfl rfl rfl rfl rfl (by decide) (fun u => ?_)); refine s_append1 tok 0 rfl rfl rfl rfl rfl rfl (by decide) rfl rfl rfl rfl (by omega) (by omega) (fun v' => ?_)
          repeat (first | refine gA pk ?_)
          refine ⟨k + 1, v', by omega, by omega, by exact subQ, ?_⟩
          rw [hs, rowI, List.map_append]
          exact OSub.refl _
        | false =>
          rw [hb] at s3
          rw [hb, if_neg (by decide), List.append_nil] at hs
          repeat (first | refine gA pk ?_ | (show AL _ _ _ _ _ _ _; first | refine jP s3 ?_))
          refine ⟨k + 1, v, by omega, by omega, by exact subQ, ?_⟩
          rw [hs]
          exact OSub.refl _
      · obtain rfl : k = t.nodes.length := by omega
        repeat (first | refine gA pk ?_)
        exact finF 0 (x := .tup [.lit _, .lit _]) (.inr rfl) rfl rfl (FZ.tup (m := [ints (((List.range t.nodes.length).map fun (i : Nat) => (i : Int)).filter P), AI 0]) ⟨FZ.here, FZ.refl _, trivial⟩) ⟨rfl, rfl⟩
  · rw [if_pos hg]
    generalize givenR t [a] = g at *
    refine zen Tryz.func165 (by kernel_rfl) rfl Tryz.ntmps165 rfl (by simp) ?_; refine a_seq ?_; refine a_reg ?_; (repeat (first | refine gZ pk ?_ | (show AL _ _ _ _ _ _ _; first | refine jB (fun u => ?_)))); refine zfb 0 2 rfl rfl ?_
    repeat (first | refine gA pk ?_ | (show AL _ _ _ _ _ _ _; first | refine s_build1 tok rfl rfl rfl rfl rfl rfl rfl rfl (fun u => ?_)))
    refine s_callO 0 rfl rfl rfl rfl rfl rfl (s1 _) (SubL.of_eq rfl) ?_
    rintro _ _ ⟨rfl, rfl⟩
    repeat (first | refine gA pk ?_)
    exact fin (x := .tup [.lit _, .lit _]) (.inr rfl) rfl (Sub.tup (l := [.lit (.slice none 0 0), AI g]) (m := [ints [], AI g]) ⟨nil1, Sub.refl _, trivial⟩) ⟨rfl, rfl⟩ (OSub.none _)
end Go.Proofs.YtimfponihbfimaaGreat
end
section
namespace Go.Sj
set_option maxRecDepth 8000
section
variable {P : Program} {N : Nat} {ops : List Oper} {Q : St → Own → Prop} {L : Own} {rest : List (Oper × Kd)} {l : List (Nat × AV)} {q : Nat}
theorem s_makeQ {tt : List (TypeId × TD)} (ok : TOK P tt) {o : Oper} {T : TypeId} {x y : Operand} {E s1 b1 : Nat} {z1 : List Value} {d : TD} {k1 k2 : IntKind} {n c : Int} {es : List (List AV)}
    (ho : o.op = .makeSlice T x y) (hdst : o.dst = some q) (hd : Nat.blt q N = true) (hg : guardA ops o (lk l) = some true) (hT : lkT tt T = some ⟨.slice E, s1, b1, z1⟩) (hE : lkT tt E = some d)
    (hx : ev (lk l) x = .lit (.int k1 n)) (hy : ev (lk l) y = .lit (.int k2 c)) (hr : List.replicate n.toNat (d.zero.map .lit) = es) (h0 : 0 ≤ n) (hnc : n ≤ c) (hb : (d.bytes : Int) * c ≤ 140737488355328) (h63 : c ≤ 140737488355328)
    (nx : ∀ a m j, AL P N ops Q rest (lk ((q, .lit (.slice a m j)) :: l)) ((.slice a m j, .row E d.size es) :: L)) : AL P N ops Q ((o, .eff) :: rest) (lk l) L := by
  subst hr
  obtain ⟨dst, op', ty, pos, after, g⟩ := o
  simp only at ho
  subst ho
  refine s_eff (fun x M => ∃ a m j, x = .lit (.slice a m j) ∧ M = (.slice a m j, .row E d.size (List.replicate n.toNat (d.zero.map .lit))) :: L) hdst hd hg ⟨fun σ F w ρ hR hρ => ?_⟩ (fun x M ⟨a, m, j, e1, e2⟩ => by rw [e1, e2]; exact nx a m j)
  have e1 := hρ x (by simp [Op.operands])
  have e2 := hρ y (by simp [Op.operands])
  rw [hx] at e1
  rw [hy] at e2
  obtain ⟨i, z, hi, his, hib, hz, hzz⟩ := (ok _ _ hE).get
  have hu := (ok _ _ hT).slice rfl
  have hr := run_make (P := P) w T E i z hu hi hz k1 k2 n c h0 hnc (by rw [hib]; omega) (by omega)
  have hrun : (execOp ρ ⟨dst, .makeSlice T x y, ty, pos, after, g⟩).run P w = .ok (.value (.slice (some ⟨w.heap.size, 0, none⟩) n.toNat c.toNat)) (w.alloc (.cells (madeCells z.cells (c.toNat * i.size)) E)) := by
    simp only [execOp, e1.lit_inv, e2.lit_inv, Sem.run_bind, hr, Result.andThen_ok, Sem.run_pure]
  rw [hrun, his]
  have hown := own_new (σ := σ) (w := w) (E := E) (sz := d.size) (n := n.toNat) (c := c.toNat) (cur := madeCells z.cells (c.toNat * d.size)) (es := List.replicate n.toNat (d.zero.map .lit)) (by simp) (by omega) (by simp only [maxLen]; omega) (size_madeCells _ _)
    (fun e he => by rw [(List.mem_replicate.1 he).2]; simpa using (ok _ _ hE).zlen) (made_rep hzz (ok _ _ hE).zlen (by omega))
  exact ⟨σ, _, _, σ.le_refl, hR.newRow hown, .lit _, _, _, _, rfl, rfl⟩
end
theorem perm3 {A : Type} (a b c : A) : List.Perm [a, b, c] [b, a, c] ∧ List.Perm [a, b, c] [a, c, b] ∧ List.Perm [a, b, c] [c, b, a] ∧ List.Perm [a, b, c] [b, c, a] ∧ List.Perm [a, b, c] [c, a, b] ∧ List.Perm [a, b, c] [a, b, c] := by
  refine ⟨.swap _ _ _, .cons _ (.swap _ _ _), ?_, ?_, ?_, .refl _⟩
  · exact (List.Perm.cons _ (.swap _ _ _)).trans ((List.Perm.swap _ _ _).trans (.cons _ (.swap _ _ _)))
  · exact (List.Perm.swap _ _ _).trans (.cons _ (.swap _ _ _))
  · exact (List.Perm.cons _ (.swap _ _ _)).trans (.swap _ _ _)
end Go.Sj
end
section
namespace Go.Sj.Part
set_option maxRecDepth 8000
def rootF (p : List Nat) : Nat → Nat → Nat
  | 0, i => i
  | f + 1, i => if p.getD i 0 = i then i else rootF p f (p.getD i 0)
def root (p : List Nat) (i : Nat) : Nat := rootF p i i
end Go.Sj.Part
end
section
namespace Go.Sj.Dif
set_option maxRecDepth 8000
structure Ar where
  u : Int
  s : Int
  f : Nat
  t : Nat
  c : Int
  deriving DecidableEq
def Inr (N : Nat) (l : List Ar) : Prop := ∀ a ∈ l, a.f < N ∧ a.t < N
def Wk (l : List Ar) : Nat → List Ar → Nat → Prop
  | i, [], j => i = j
  | i, a :: w, j => a ∈ l ∧ a.f = i ∧ Wk l a.t w j
def wt : List Ar → Int
  | [] => 0
  | a :: w => a.c + wt w
def gd (d : List Int) (i : Nat) : Int := d.getD i 0
def rel1 (d : List Int) (a : Ar) : List Int := if gd d a.t + a.c < gd d a.f then d.set a.f (gd d a.t + a.c) else d
def chg1 (d : List Int) (a : Ar) : Bool := decide (gd d a.t + a.c < gd d a.f)
def rnd : List Ar → List Int × Bool → List Int × Bool
  | [], p => p
  | a :: l, (d, b) => rnd l (rel1 d a, b || chg1 d a)
def bf (l : List Ar) : Nat → List Int → Option (List Int)
  | 0, _ => none
  | k + 1, d => let p := rnd l (d, false); if p.2 then bf l k p.1 else some p.1
section
variable {N : Nat} {l : List Ar} (hl : Inr N l)
include hl
def Low (l : List Ar) (N k : Nat) (d : List Int) : Prop := d.length = N ∧ (∀ i, gd d i ≤ 0) ∧ (∀ i, i < N → ∃ w j, Wk l i w j ∧ wt w = gd d i) ∧ ∀ i w j, i < N → Wk l i w j → w.length ≤ k → gd d i ≤ wt w
end
end Go.Sj.Dif
end
section
namespace Go.Sj
end Go.Sj
namespace Go.Sj.Dif
set_option maxRecDepth 8000
structure Tst where
  k : Int
  lv : Int
  la : Int
  rv : Int
  ra : Int
def cT (x : Tst) : List AV := [AI x.k, AI x.lv, AI x.la, AI x.rv, AI x.ra]
def cA (a : Ar) : List AV := [AI a.u, AI a.s, AI a.f, AI a.t, AI a.c]
def AOk (n : Nat) (a : Ar) : Prop := a.f < n + 1 ∧ a.t < n + 1 ∧ -2000000 ≤ a.c ∧ a.c ≤ 2000000
section
variable {n : Nat} {l : List Ar} (hl : ∀ a ∈ l, AOk n a)
include hl
end
section
variable {n : Nat} {l : List Ar} (hl : ∀ a ∈ l, AOk n a)
include hl
end
section
variable {n : Nat} {l : List Ar} (hl : ∀ a ∈ l, AOk n a) (hn : n ≤ 100)
include hl hn
end
end Go.Sj.Dif
end
section
namespace Go.Sj
set_option maxRecDepth 8000
theorem Turn.perm {x : AV} {L M : Own} (h : L.Perm M) : Turn x L x M := fun τ F w u a b => ⟨τ, τ.le_refl, a.perm h, b⟩
namespace Dif
def cRow (xs : List Int) : List AV := [ints xs]
end Dif
end Go.Sj
end
section
namespace Go.Sj
set_option maxRecDepth 8000
theorem FZL.len {v : Value} {sz : Nat} {es : List (List AV)} : ∀ {l m : List AV}, FZL v sz es l m → l.length = m.length
  | [], [], _ => rfl
  | x :: l, y :: m, h => by rw [List.length_cons, List.length_cons, FZL.len h.2]
  | [], _ :: _, h => h.elim
  | _ :: _, [], h => h.elim
theorem FZL.at {v : Value} {sz : Nat} {es : List (List AV)} : ∀ {l m : List AV}, FZL v sz es l m → ∀ {j : Nat} {y : AV}, m[j]? = some y → ∃ x, l[j]? = some x ∧ FZ v sz es x y
  | [], [], _, j, y, hy => by simp at hy
  | x :: l, z :: m, h, 0, y, hy => by simp at hy; subst hy; exact ⟨x, rfl, h.1⟩
  | x :: l, z :: m, h, j + 1, y, hy => by
    obtain ⟨x', h1, h2⟩ := FZL.at h.2 (j := j) (by simpa using hy)
    exact ⟨x', by simpa using h1, h2⟩
  | [], _ :: _, h, _, _, _ => h.elim
  | _ :: _, [], h, _, _, _ => h.elim
theorem FZ.ipM {v : Value} {sz : Nat} {es : List (List AV)} {l m : List AV} (h : FZL v sz es l m) : FZ v sz es (.ip l) (.ip m) := fun τ u hv hu => by
  cases hu with
  | ip _ b off c E fr f h1 h2 h3 =>
    refine .ip m b off c E fr f h1 (fun j y hy => ?_) (fun j y hy => ?_)
    · obtain ⟨x, hx, _⟩ := h.at hy
      exact h2 j x hx
    · obtain ⟨x, hx, hz⟩ := h.at hy
      exact hz τ _ hv (h3 j x hx)
section
variable {P : Program} {N : Nat} {ops : List Oper} {Q : St → Own → Prop} {L : Own} {rest : List (Oper × Kd)} {l : List (Nat × AV)} {k : Kd} {q : Nat}
end
section
variable (E2 E3 : Nat) (n : Nat)
def up1 {A : Type} (f : Nat → A) (j : Nat) (x : A) : Nat → A := fun b => if b = j then x else f b
variable {E2 E3 n}
theorem range_set {A : Type} (f : Nat → A) (i : Nat) (x : A) : ((List.range n).map f).set i x = (List.range n).map (up1 f i x) := by
  refine List.ext_getElem? fun k => ?_
  rw [List.getElem?_set, List.getElem?_map, List.getElem?_map]
  rcases Nat.lt_or_ge k n with h | h
  · rw [List.getElem?_range h]
    unfold up1
    by_cases e : i = k
    · subst e; simp [h]
    · simp [e, Ne.symm e]
  · rw [List.getElem?_eq_none (by simpa using h)]
    by_cases e : i = k
    · subst e; simp; omega
    · simp [e]
end
end Go.Sj
end
