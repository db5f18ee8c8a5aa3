/- Parts of a proof. -/
import Derived.Test.YtimfponihbfimaaGreatP23
set_option linter.unusedVariables false
set_option linter.unusedSimpArgs false
section
namespace Go.Sj
set_option maxRecDepth 8000
def Frz (τ : Hp) : Value × OB → Prop
  | (v, .row _ sz es) => VR τ (.im sz es) v
  | (v, .box cells) => ∃ b, v = .pointer (some ⟨b, 0, none⟩) ∧ VR τ (.ip cells) v
  | (_, .mp _) => True
def FV (L : Own) (x y : AV) : Prop := ∀ (τ : Hp) (u : Value), (∀ p ∈ L, Frz τ p) → VR τ x u → VR τ y u
def FVL (L : Own) : List AV → List AV → Prop
  | [], [] => True
  | x :: l, y :: m => FV L x y ∧ FVL L l m
  | _, _ => False
theorem FV.refl {L : Own} (x : AV) : FV L x x := fun τ u _ k => k
theorem FV.row {L : Own} {v : Value} {E sz : Nat} {es : List (List AV)} (h : (v, .row E sz es) ∈ L) : FV L (.lit v) (.im sz es) := fun τ u hf k => by
  rw [k.lit_inv]
  exact hf _ h
theorem FV.box {L : Own} {v : Value} {cells : List AV} (h : (v, .box cells) ∈ L) : FV L (.pt v 0 0 0) (.ip cells) := fun τ u hf k => by
  obtain ⟨b, hv, h1⟩ := hf _ h
  subst hv
  cases k with
  | pt _ _ _ _ b' hb' =>
    simp [blk] at hb'
    subst hb'
    simpa using h1
theorem FVL.at {L : Own} : ∀ {l m : List AV}, FVL L l m → l.length = m.length ∧ ∀ {j : Nat} {y : AV}, m[j]? = some y → ∃ x, l[j]? = some x ∧ FV L x y
  | [], [], _ => ⟨rfl, fun {j y} hy => by simp at hy⟩
  | x :: l, z :: m, h => by
    obtain ⟨h1, h2⟩ := FVL.at h.2
    refine ⟨by rw [List.length_cons, List.length_cons, h1], fun {j y} hy => ?_⟩
    cases j with
    | zero => simp at hy; subst hy; exact ⟨x, rfl, h.1⟩
    | succ j =>
      obtain ⟨x', h3, h4⟩ := h2 (j := j) (by simpa using hy)
      exact ⟨x', by simpa using h3, h4⟩
  | [], _ :: _, h => h.elim
  | _ :: _, [], h => h.elim
theorem FVL.refl {L : Own} : ∀ l, FVL L l l
  | [] => trivial
  | x :: l => ⟨FV.refl x, FVL.refl l⟩
theorem FV.ip {L : Own} {l m : List AV} (h : FVL L l m) : FV L (.ip l) (.ip m) := fun τ u hv hu => by
  obtain ⟨_, h⟩ := h.at
  cases hu with
  | ip _ b off c E fr f h1 h2 h3 =>
    refine .ip m b off c E fr f h1 (fun j y hy => ?_) (fun j y hy => ?_)
    · obtain ⟨x, hx, _⟩ := h hy
      exact h2 j x hx
    · obtain ⟨x, hx, hz⟩ := h hy
      exact hz τ _ hv (h3 j x hx)
theorem FV.fn {L : Own} {g : Fn} {l m k k' : List AV} (h : FVL L l m) (h' : FVL L k k') : FV L (.fn g l k) (.fn g m k') := fun τ u hv hu => by
  obtain ⟨e1, h⟩ := h.at
  obtain ⟨e2, h'⟩ := h'.at
  cases hu with
  | fn _ _ _ al ak f hh s1 s2 h1 h2 h3 h4 =>
    refine .fn g m k' al ak f hh (by rw [s1, e1]) (by rw [s2, e2]) (fun j y hy => ?_) (fun j y hy => ?_) (fun j y hy => ?_) (fun j y hy => ?_)
    · obtain ⟨x, hx, _⟩ := h hy
      exact h1 j x hx
    · obtain ⟨x, hx, hz⟩ := h hy
      exact hz τ _ hv (h2 j x hx)
    · obtain ⟨x, hx, _⟩ := h' hy
      exact h3 j x hx
    · obtain ⟨x, hx, hz⟩ := h' hy
      exact hz τ _ hv (h4 j x hx)
theorem FVL.vrs {L : Own} {τ : Hp} {l m : List AV} {vs : List Value} (h : FVL L l m) (hf : ∀ p ∈ L, Frz τ p) (k : VRs τ l vs) : VRs τ m vs := by
  obtain ⟨e, h⟩ := h.at
  refine ⟨by rw [k.1, e], fun j y u hy hu => ?_⟩
  obtain ⟨x, hx, hz⟩ := h hy
  exact hz τ u hf (k.2 j x u hx hu)
theorem own_box_frozen {σ τ : Hp} {w : World} {v : Value} {cells : List AV} (h : Own1 σ w (v, .box cells)) (hle : σ.le τ) (hb : ∀ b, blk v = some b → τ b = w.heap[b]?) : ∃ b, v = .pointer (some ⟨b, 0, none⟩) ∧ VR τ (.ip cells) v := by
  obtain ⟨b, c0, E, hv, hc, hcs⟩ := h
  refine ⟨b, hv, ?_⟩
  subst hv
  refine .ip cells b 0 c0 E (0, 0) (fun j => c0.getD j undef) (by rw [hb b rfl]; exact hc) (fun j x hx => ?_) (fun j x hx => ?_)
  · obtain ⟨y, hy, _⟩ := hcs.get hx
    simp at hy
    simp [Array.getD_eq_getD_getElem?, hy]
  · obtain ⟨y, hy, hxy⟩ := hcs.get hx
    simp at hy
    simpa [Array.getD_eq_getD_getElem?, hy] using hxy.mono hle
theorem ACalls.lendA {P : Program} {f : FuncId} {args args' : List AV} {L : Own} {R : AV → Own → Prop} (h : ACalls P f args [] R) (hz : FVL L args' args) (hfree : ∀ x M, R x M → Free x ∧ M = []) :
    ACalls P f args' L fun x M => R x [] ∧ M = L :=
  ⟨h.ok, fun σ F w vs hr hvs => by
    let B := L.filterMap (blk ∘ Prod.fst)
    have hap : ∀ b ∈ B, σ b = none ∧ F.h b = none := hr.apart
    have hmemB : ∀ p ∈ L, ∀ b, blk p.1 = some b → b ∈ B := fun p hp b hb => List.mem_filterMap.2 ⟨p, hp, hb⟩
    let τ : Hp := fun b => match σ b with
      | some o => some o
      | none => if b ∈ B then w.heap[b]? else none
    have hle : σ.le τ := fun b o hb => by simp only [τ, hb]
    have hat : ∀ b ∈ B, τ b = w.heap[b]? := fun b hb => by simp only [τ, (hap b hb).1, if_pos hb]
    have hfrz : ∀ p ∈ L, Frz τ p := fun p hp => by
      have ho := hr.own p hp
      obtain ⟨v, ob⟩ := p
      cases ob with
      | row E sz es => exact own_frozen ho hle fun b hb => hat b (hmemB _ hp b hb)
      | box cells => exact own_box_frozen ho hle fun b hb => hat b (hmemB _ hp b hb)
      | mp m => trivial
    have hrel : HRel τ [] F w := by
      refine ⟨fun b o hb => ?_, hr.frame, hr.os, hr.out, by simp, fun b o hb => ?_, by simp, by simp⟩
      · simp only [τ] at hb
        split at hb
        · rename_i o' ho
          cases hb
          exact hr.agree b o ho
        · split at hb
          · exact hb
          · cases hb
      · simp only [τ] at hb
        split at hb
        · rename_i o' ho
          exact hr.sep b o' ho
        · split at hb
          · rename_i hbB
            exact (hap b hbB).2
          · cases hb
    have hargs : VRs τ args vs := hz.vrs hfrz (hvs.mono hle)
    refine (h.out τ F w vs hrel hargs).mono fun e w' ⟨u, he, τ1, x, M, k1, k2, k3, k4⟩ => ?_
    obtain ⟨f1, f2⟩ := hfree x M k4
    subst f2
    let τ' : Hp := fun b => if b ∈ B then none else τ1 b
    have hle' : σ.le τ' := fun b o hb => by
      have hne : b ∉ B := fun e => by rw [(hap b e).1] at hb; cases hb
      show (if b ∈ B then none else τ1 b) = some o
      rw [if_neg hne]
      exact k1 b o (hle b o hb)
    have hsub : Hp.le τ' τ1 := fun b o hb => by
      by_cases hb' : b ∈ B
      · simp [τ', hb'] at hb
      · simpa [τ', hb'] using hb
    have hblock : ∀ p ∈ L, ∀ b, blk p.1 = some b → w'.heap[b]? = w.heap[b]? := fun p hp b hb => by
      have hlt := (hr.own p hp).lt hb
      have e0 : w.heap[b]? = some w.heap[b] := Array.getElem?_eq_getElem hlt
      have e1 : τ b = some w.heap[b] := by rw [hat b (hmemB p hp b hb)]; exact e0
      rw [e0]
      exact k2.agree b _ (k1 b _ e1)
    refine ⟨u, he, τ', x, L, hle', ⟨k2.agree.mono hsub, k2.frame, k2.os, k2.out, fun p hp => ?_, fun b o hb => k2.sep b o (hsub b o hb), hr.nodup, fun b hb => ?_⟩, f1.move k3, k4, rfl⟩
    · exact ((hr.own p hp).mono hle').kept fun b hb => hblock p hp b hb
    · refine ⟨?_, (hap b hb).2⟩
      show (if b ∈ B then none else τ1 b) = none
      rw [if_pos hb]⟩
section
variable {P : Program} {N : Nat} {ops : List Oper} {Q : St → Own → Prop} {L : Own} {rest : List (Oper × Kd)} {l : List (Nat × AV)} {k : Kd} {q : Nat}
theorem s_min2 {o : Oper} {x y : Operand} {tys : Array TypeId} {kk : IntKind} {a b : Int} (ho : o.op = .call ⟨.builtin .min, #[x, y], tys⟩) (hdst : o.dst = some q) (hd : Nat.blt q N = true) (hg : guardA ops o (lk l) = some true)
    (hx : ev (lk l) x = .lit (.int kk a)) (hy : ev (lk l) y = .lit (.int kk b))
    (n : AL P N ops Q rest (lk ((q, .lit (.int kk (min a b))) :: l)) L) : AL P N ops Q ((o, k) :: rest) (lk l) L := by
  obtain ⟨dst, op', ty, pos, after, g⟩ := o
  simp only at ho
  subst ho
  refine s_pure hdst hd hg ⟨fun σ F w ρ hR hρ => ⟨.int kk (min a b), ?_, .lit _⟩⟩ n
  have h1 := hρ x (by simp [Op.operands, Call.operands])
  have h2 := hρ y (by simp [Op.operands, Call.operands])
  rw [hx] at h1
  rw [hy] at h2
  simp [execOp, resolve, invoke, builtin, h1.lit_inv, h2.lit_inv, Builtin.min_, Builtin.min2]
  omega
theorem s_nilNil {tt : List (TypeId × TD)} (ok : TOK P tt) {o : Oper} {T T' : TypeId} {x : Operand} {E s1 b1 : Nat} {z1 : List Value}
    (ho : o.op = .binOp .eql T x (.const (.slice none 0 0)) T') (hdst : o.dst = some q) (hd : Nat.blt q N = true) (hg : guardA ops o (lk l) = some true) (hT : lkT tt T = some ⟨.slice E, s1, b1, z1⟩) (hx : ev (lk l) x = .lit (.slice none 0 0))
    (n : AL P N ops Q rest (lk ((q, .lit (.bool true)) :: l)) L) : AL P N ops Q ((o, k) :: rest) (lk l) L := by
  obtain ⟨dst, op', ty, pos, after, g⟩ := o
  simp only at ho
  subst ho
  refine s_pure hdst hd hg ⟨fun σ F w ρ hR hρ => ⟨.bool true, ?_, .lit _⟩⟩ n
  have h1 := hρ x (by simp [Op.operands])
  have h2 := hρ (.const (.slice none 0 0)) (by simp [Op.operands])
  rw [hx] at h1
  have h2' : ρ (.const (.slice none 0 0)) = .slice none 0 0 := h2.lit_inv
  have hu := (ok _ _ hT).slice rfl
  simp [execOp, h1.lit_inv, h2', eqGuard, binOp, eqNil_run hu]
end
end Go.Sj
end
section
namespace Go.Sj.Inc
open Go.Sj Go.Sj.Sta Go.Sj.Typ
set_option maxRecDepth 8000
abbrev Mo := List Int × List Int
structure Sea where
  p : Gr
  g : Gr
  ok : Int → Int → Bool
  pn : Option (List Int)
  pe : Option (List Int)
  inj : Bool
def gvn (l : Option (List Int)) (i : Nat) : Int := match l with
  | none => -1
  | some l => l.getD i (-1)
def offN (l : Option (List Int)) (i k : Nat) : Bool := decide (0 ≤ gvn l i) && decide (gvn l i ≠ k)
def candN (S : Sea) (ns : List Int) (k : Nat) : Bool := !offN S.pn ns.length k && (S.ok (S.p.nodes.getD ns.length 0) (S.g.nodes.getD k 0) && !(S.inj && decide ((k : Int) ∈ ns)))
def eqE (S : Sea) (ns : List Int) (i k : Nat) : Bool := match S.p.edges[i]?, S.g.edges[k]? with
  | some x, some y => decide (y.ty = x.ty) && (decide (y.fr = ns.getD x.fr.toNat 0) && decide (y.to = ns.getD x.to.toNat 0))
  | _, _ => false
def fitB (S : Sea) (ns : List Int) (i k : Nat) : Bool := !offN S.pe i k && eqE S ns i k
def candE (S : Sea) (ns es : List Int) (k : Nat) : Bool := fitB S ns es.length k && !(S.inj && decide ((k : Int) ∈ es))
def findL (S : Sea) : Nat → List Int → List Int → List Mo
  | 0, ns, es => [(ns, es)]
  | m + 1, ns, es => if ns.length < S.p.nodes.length then (List.range S.g.nodes.length).flatMap fun k => if candN S ns k = true then findL S m (ns ++ [(k : Int)]) es else []
    else (List.range S.g.edges.length).flatMap fun k => if candE S ns es k = true then findL S m ns (es ++ [(k : Int)]) else []
def remS (S : Sea) (ns es : List Int) : Nat := (S.p.nodes.length - ns.length) + (S.p.edges.length - es.length)
theorem eqE_ext {S : Sea} {ns : List Int} {i k : Nat} {x : Ed} (z : Int) (hx : S.p.edges[i]? = some x) (h1 : x.fr.toNat < ns.length) (h2 : x.to.toNat < ns.length) : eqE S (ns ++ [z]) i k = eqE S ns i k := by
  unfold eqE
  rw [hx]
  cases S.g.edges[k]? with
  | none => rfl
  | some y =>
  simp only [List.getD_eq_getElem?_getD, List.getElem?_append_left h1, List.getElem?_append_left h2]
theorem find_dead {S : Sea} {i : Nat} {x : Ed} (hx : S.p.edges[i]? = some x) : ∀ (m : Nat) (ns es : List Int), m = remS S ns es → x.fr.toNat < ns.length → x.to.toNat < ns.length → ns.length ≤ S.p.nodes.length → es.length ≤ i → (ns.length < S.p.nodes.length → es = []) → (∀ k, k < S.g.edges.length → fitB S ns i k = false) → findL S m ns es = []
  | 0, ns, es, hm, h1, h2, hn, he, hne, hf => by
    have := (List.getElem?_eq_some_iff.1 hx).1
    unfold remS at hm
    omega
  | m + 1, ns, es, hm, h1, h2, hn, he, hne, hf => by
    unfold remS at hm
    unfold findL
    split
    · rename_i hlt
      rw [List.flatMap_eq_nil_iff]
      intro k hk
      split
      · have he0 := hne hlt
        subst he0
        refine find_dead hx m _ [] ?_ (by simp; omega) (by simp; omega) (by simp; omega) (Nat.zero_le _) (fun _ => rfl) (fun k hk => ?_)
        · unfold remS
          simp only [List.length_append, List.length_cons, List.length_nil] at hm ⊢
          omega
        · have := hf k hk
          unfold fitB at this ⊢
          rw [eqE_ext _ hx h1 h2]
          exact this
      · rfl
    · rename_i hlt
      rw [List.flatMap_eq_nil_iff]
      intro k hk
      have hk := List.mem_range.1 hk
      split
      · rename_i hc
        by_cases hi : es.length = i
        · unfold candE at hc
          rw [hi, hf k hk] at hc
          cases hc
        · refine find_dead hx m ns _ ?_ h1 h2 hn (by simp; omega) (fun h => absurd h hlt) hf
          unfold remS
          simp only [List.length_append, List.length_cons, List.length_nil]
          omega
      · rfl
theorem take_take_app {A : Type} (X Y Z : List A) (m : Nat) : ((X ++ Y).take m ++ Z).take m = (X ++ (Y ++ Z)).take m := by
  rw [List.take_append, List.take_take, Nat.min_self, ← List.append_assoc, List.take_append (l₁ := X ++ Y)]
  congr 1
  rw [List.length_take]
  rcases Nat.le_total m (X ++ Y).length with h | h
  · rw [Nat.min_eq_left h, Nat.sub_self, Nat.sub_eq_zero_of_le h]
  · rw [Nat.min_eq_right h]
theorem range_flat {A : Type} (f : Nat → List A) (k : Nat) : (List.range (k + 1)).flatMap f = (List.range k).flatMap f ++ f k := by
  rw [List.range_succ, List.flatMap_append]
  simp
theorem find_loop {A : Type} (out : List A) (f : Nat → List A) (k m : Nat) : ((out ++ (List.range k).flatMap f).take m ++ f k).take m = (out ++ (List.range (k + 1)).flatMap f).take m := by
  rw [range_flat, take_take_app]
def typT (t : Tys) (g : Gr) : Bool := !(g.nodes.any fun n => decide ((t.nodes.length : Int) ≤ n)) && !(g.edges.any fun e => decide ((t.edges.length : Int) ≤ e.ty))
def validS (t : Tys) (p g : Gr) : Int := if (validR t).2 ≠ 0 then (validR t).2 else if gvalid p ≠ 0 then gvalid p else if gvalid g ≠ 0 then gvalid g else if (typT t p && typT t g) = true then 0 else 13
def okT (t : Tys) (a b : Int) : Bool := decide (a ∈ up t.nodes b)
def seaA (t : Tys) (p g : Gr) (inj : Bool) : Sea := ⟨p, g, okT t, none, none, inj⟩
def matL (S : Sea) : List Mo := findL S (S.p.nodes.length + S.p.edges.length) [] []
end Go.Sj.Inc
end
section
namespace Go.Proofs.YtimfponihbfimaaGreat
open Go.Sj Go.Sj.Typ Go.Sj.Sta Go.Sj.Inc
set_option maxRecDepth 8000
set_option maxHeartbeats 16000000
abbrev cB (b : Bool) : List AV := [AB b]
abbrev boolsA (l : List Bool) : AV := .im 1 (l.map cB)
def cRow (l : List Bool) : List AV := [boolsA l]
abbrev tabA (l : List (List Bool)) : AV := .im 1 (l.map cRow)
def tabT (t : Tys) : List (List Bool) := (List.range t.nodes.length).map fun (a : Nat) => (List.range t.nodes.length).map fun (b : Nat) => okT t a b
theorem swithin1_spec (t : Tys) (ht : Small t) (x : Int) : Pure Tryz.prog 163 [AI x, tysP t] (AB (decide ((t.nodes.length : Int) ≤ x))) := by
  have lt : (t.nodes.map cNod).length = t.nodes.length := by simp
  have htn := ht.nodes
  refine zen Tryz.func163 (by kernel_rfl) rfl Tryz.ntmps163 rfl (by simp) ?_
  by_cases h : (t.nodes.length : Int) ≤ x
  · rw [decide_eq_true h]
    repeat (first | refine gA pk ?_)
    refine finQ ?_
    exact ⟨rfl, rfl⟩
  · rw [decide_eq_false h]
    repeat (first | refine gA pk ?_)
    refine finQ ?_
    exact ⟨rfl, rfl⟩
theorem swithin2_spec (t : Tys) (ht : Small t) (e : Ed) : Pure Tryz.prog 164 [.agg (cEd e), tysP t] (AB (decide ((t.edges.length : Int) ≤ e.ty))) := by
  have lt : (t.edges.map cEdg).length = t.edges.length := by simp
  have hte := ht.edges
  obtain ⟨a, b, c⟩ := e
  by_cases h : (t.edges.length : Int) ≤ a
  · rw [decide_eq_true h]
    refine zen Tryz.func164 (by kernel_rfl) rfl Tryz.ntmps164 rfl (by simp) ?_; refine a_seq ?_; refine a_reg ?_; (repeat (first | refine gZ pk ?_ | (show AL _ _ _ _ _ _ _; first | refine jB (fun u => ?_)))); refine zfb 0 2 rfl rfl ?_
    repeat (first | refine gA pk ?_)
    refine finQ ?_
    exact ⟨rfl, rfl⟩
  · rw [decide_eq_false h]
    refine zen Tryz.func164 (by kernel_rfl) rfl Tryz.ntmps164 rfl (by simp) ?_; refine a_seq ?_; refine a_reg ?_; (repeat (first | refine gZ pk ?_ | (show AL _ _ _ _ _ _ _; first | refine jB (fun u => ?_)))); refine zfb 0 2 rfl rfl ?_
    repeat (first | refine gA pk ?_)
    refine finQ ?_
    exact ⟨rfl, rfl⟩
theorem swithin_spec (t : Tys) (ht : Small t) (g : Gr) (hg : g.nodes.length ≤ 1000 ∧ g.edges.length ≤ 1000) : Pure Tryz.prog 115 [tysA t, grA g] (AB (typT t g)) := by
  have s1 := ContainsFuncI_spec g.nodes (by omega) 163 [tysP t] (fun x => decide ((t.nodes.length : Int) ≤ x)) (fun x _ => swithin1_spec t ht x)
  have s2 := ContainsFuncG_spec g.edges (by omega) 164 [tysP t] (fun e => decide ((t.edges.length : Int) ≤ e.ty)) (fun e _ => swithin2_spec t ht e)
  unfold typT
  generalize (g.nodes.any fun x => decide ((t.nodes.length : Int) ≤ x)) = p at *
  generalize (g.edges.any fun e => decide ((t.edges.length : Int) ≤ e.ty)) = q at *
  cases p
  · cases q
    all_goals
      refine zen Tryz.func115 (by kernel_rfl) rfl Tryz.ntmps115 rfl (by simp) ?_
      refine a_seq ?_
      refine a_reg ?_
      repeat (first | refine gZ pk ?_ | (show AL _ _ _ _ _ _ _; first | refine jB (fun u => ?_)))
      refine zfb 0 3 rfl rfl ?_
      refine zfb 0 2 rfl rfl ?_
      repeat (first | refine gA pk ?_ | (show AL _ _ _ _ _ _ _; first | refine jP s1 ?_ | refine jP s2 ?_))
      refine finQ ?_
      exact ⟨rfl, rfl⟩
  · refine zen Tryz.func115 (by kernel_rfl) rfl Tryz.ntmps115 rfl (by simp) ?_
    refine a_seq ?_
    refine a_reg ?_
    repeat (first | refine gZ pk ?_ | (show AL _ _ _ _ _ _ _; first | refine jB (fun u => ?_)))
    refine zfb 0 3 rfl rfl ?_
    refine zfb 0 2 rfl rfl ?_
    repeat (first | refine gA pk ?_ | (show AL _ _ _ _ _ _ _; first | refine jP s1 ?_ | refine jP s2 ?_))
    refine finQ ?_
    exact ⟨rfl, rfl⟩
theorem svalid_spec (t : Tys) (ht : Small t) (p g : Gr) (hp : OkG p) (hg : OkG g) : Pure Tryz.prog 72 [tysA t, grA p, grA g] (AI (validS t p g)) := by
  have s1 := Valid_spec t ht
  have s2 := gvalid_spec p hp
  have s3 := gvalid_spec g hg
  obtain ⟨r, hr⟩ : ∃ r, validS t p g = r := ⟨_, rfl⟩
  rw [hr]
  unfold validS at hr
  generalize (validR t).1 = nm at s1
  by_cases hv : (validR t).2 = 0
  · rw [if_neg (Decidable.not_not.2 hv)] at hr
    rw [hv] at s1
    by_cases h1 : gvalid p = 0
    · rw [if_neg (Decidable.not_not.2 h1)] at hr
      rw [h1] at s2
      have hP := gvalid_zero.1 h1
      have hpn := hP.nl
      have hpe := hP.el
      have s4 := swithin_spec t ht p ⟨by omega, by omega⟩
      by_cases h2 : gvalid g = 0
      · rw [if_neg (Decidable.not_not.2 h2)] at hr
        rw [h2] at s3
        have hG := gvalid_zero.1 h2
        have hgn := hG.nl
        have hge := hG.el
        have s5 := swithin_spec t ht g ⟨by omega, by omega⟩
        clear hP hG
        generalize typT t p = b1 at *
        generalize typT t g = b2 at *
        obtain ⟨pn, pe⟩ := p
        obtain ⟨gn, ge⟩ := g
        change Pure _ _ [.agg [ints pn, edsA pe]] _ at s2
        change Pure _ _ [.agg [ints gn, edsA ge]] _ at s3
        change Pure _ _ [tysA t, .agg [ints pn, edsA pe]] _ at s4
        change Pure _ _ [tysA t, .agg [ints gn, edsA ge]] _ at s5
        have k0 : ([[ints pn, edsA pe], [ints gn, edsA ge]] : List (List AV))[(0 : Int).toNat]? = some [ints pn, edsA pe] := rfl
        have k1 : ([[ints pn, edsA pe], [ints gn, edsA ge]] : List (List AV))[(1 : Int).toNat]? = some [ints gn, edsA ge] := rfl
        cases b1 <;> cases b2
        all_goals
          subst hr
          refine zen Tryz.func72 (by kernel_rfl) rfl Tryz.ntmps72 rfl (by simp) ?_
          refine a_seq ?_
          refine a_reg ?_
          repeat (first | refine gZ pk ?_ | (show AL _ _ _ _ _ _ _; first | refine jB (fun u => ?_)))
          refine zfb 0 5 rfl rfl ?_
          refine zfb 0 4 rfl rfl ?_
          refine zfb 0 3 rfl rfl ?_
          repeat (first | refine gA pk ?_ | (show AL _ _ _ _ _ _ _; first | refine jP s1 ?_ | refine s_frzNow 0 rfl rfl rfl (s_build tok rfl rfl rfl rfl rfl rfl rfl rfl (by decide) (by decide) (fun v => AL.nil ⟨v, rfl, rfl, rfl⟩)) ?_))
          refine zlx (fun k : Nat => [(3, tysP t), (4, .ip [ints pn, edsA pe]), (5, .ip [ints gn, edsA ge]), (22, .im 2 [[ints pn, edsA pe], [ints gn, edsA ge]]), (23, AI 2), (24, AI k)]) (fun _ => []) (fun k => k ≤ 2) (fun k => 2 - k) 0 (Nat.zero_le _) ?_ (OSub.none _) ?_
          · exact subQ
          · intro k hk
            have hk3 : k = 0 ∨ k = 1 ∨ k = 2 := by omega
            rcases hk3 with rfl | rfl | rfl
            · repeat (first | refine gA pk ?_ | (show AL _ _ _ _ _ _ _; first | refine jX tok k0 ?_ | refine jL tok (fun u => ?_) | refine jS tok 0 ?_ | refine jO tok 0 ?_ | refine jP s2 ?_))
              exact ⟨1, by omega, by omega, by exact subQ, OSub.none _⟩
            · repeat (first | refine gA pk ?_ | (show AL _ _ _ _ _ _ _; first | refine jX tok k1 ?_ | refine jL tok (fun u => ?_) | refine jS tok 0 ?_ | refine jO tok 0 ?_ | refine jP s3 ?_))
              exact ⟨2, by omega, by omega, by exact subQ, OSub.none _⟩
            · repeat (first | refine gA pk ?_ | (show AL _ _ _ _ _ _ _; first | refine jP s4 ?_ | refine jP s5 ?_))
              refine finQ ?_
              exact ⟨rfl, rfl⟩
      · rw [if_pos h2] at hr
        subst hr
        generalize gvalid g = e at *
        clear hP
        obtain ⟨pn, pe⟩ := p
        obtain ⟨gn, ge⟩ := g
        change Pure _ _ [.agg [ints pn, edsA pe]] _ at s2
        change Pure _ _ [.agg [ints gn, edsA ge]] _ at s3
        have k0 : ([[ints pn, edsA pe], [ints gn, edsA ge]] : List (List AV))[(0 : Int).toNat]? = some [ints pn, edsA pe] := rfl
        have k1 : ([[ints pn, edsA pe], [ints gn, edsA ge]] : List (List AV))[(1 : Int).toNat]? = some [ints gn, edsA ge] := rfl
        refine zen Tryz.func72 (by kernel_rfl) rfl Tryz.ntmps72 rfl (by simp) ?_
        refine a_seq ?_
        refine a_reg ?_
        repeat (first | refine gZ pk ?_ | (show AL _ _ _ _ _ _ _; first | refine jB (fun u => ?_)))
        refine zfb 0 5 rfl rfl ?_
        refine zfb 0 4 rfl rfl ?_
        refine zfb 0 3 rfl rfl ?_
        repeat (first | refine gA pk ?_ | (show AL _ _ _ _ _ _ _; first | refine jP s1 ?_ | refine s_frzNow 0 rfl rfl rfl (s_build tok rfl rfl rfl rfl rfl rfl rfl rfl (by decide) (by decide) (fun v => AL.nil ⟨v, rfl, rfl, rfl⟩)) ?_))
        refine zlx (fun k : Nat => [(3, tysP t), (4, .ip [ints pn, edsA pe]), (5, .ip [ints gn, edsA ge]), (22, .im 2 [[ints pn, edsA pe], [ints gn, edsA ge]]), (23, AI 2), (24, AI k)]) (fun _ => []) (fun k => k ≤ 1) (fun k => 1 - k) 0 (Nat.zero_le _) ?_ (OSub.none _) ?_
        · exact subQ
        · intro k hk
          have hk3 : k = 0 ∨ k = 1 := by omega
          rcases hk3 with rfl | rfl
          · repeat (first | refine gA pk ?_ | (show AL _ _ _ _ _ _ _; first | refine jX tok k0 ?_ | refine jL tok (fun u => ?_) | refine jS tok 0 ?_ | refine jO tok 0 ?_ | refine jP s2 ?_))
            exact ⟨1, by omega, by omega, by exact subQ, OSub.none _⟩
          · repeat (first | refine gA pk ?_ | (show AL _ _ _ _ _ _ _; first | refine jX tok k1 ?_ | refine jL tok (fun u => ?_) | refine jS tok 0 ?_ | refine jO tok 0 ?_ | refine jP s3 ?_))
            refine finQ ?_
            exact ⟨rfl, rfl⟩
    · rw [if_pos h1] at hr
      subst hr
      generalize gvalid p = e at *
      obtain ⟨pn, pe⟩ := p
      obtain ⟨gn, ge⟩ := g
      change Pure _ _ [.agg [ints pn, edsA pe]] _ at s2
      change Pure _ _ [.agg [ints gn, edsA ge]] _ at s3
      have k0 : ([[ints pn, edsA pe], [ints gn, edsA ge]] : List (List AV))[(0 : Int).toNat]? = some [ints pn, edsA pe] := rfl
      have k1 : ([[ints pn, edsA pe], [ints gn, edsA ge]] : List (List AV))[(1 : Int).toNat]? = some [ints gn, edsA ge] := rfl
      refine zen Tryz.func72 (by kernel_rfl) rfl Tryz.ntmps72 rfl (by simp) ?_
      refine a_seq ?_
      refine a_reg ?_
      repeat (first | refine gZ pk ?_ | (show AL _ _ _ _ _ _ _; first | refine jB (fun u => ?_)))
      refine zfb 0 5 rfl rfl ?_
      refine zfb 0 4 rfl rfl ?_
      refine zfb 0 3 rfl rfl ?_
      repeat (first | refine gA pk ?_ | (show AL _ _ _ _ _ _ _; first | refine jP s1 ?_ | refine s_frzNow 0 rfl rfl rfl (s_build tok rfl rfl rfl rfl rfl rfl rfl rfl (by decide) (by decide) (fun v => AL.nil ⟨v, rfl, rfl, rfl⟩)) ?_))
      refine zlx (fun k : Nat => [(3, tysP t), (4, .ip [ints pn, edsA pe]), (5, .ip [ints gn, edsA ge]), (22, .im 2 [[ints pn, edsA pe], [ints gn, edsA ge]]), (23, AI 2), (24, AI k)]) (fun _ => []) (fun k => k ≤ 0) (fun k => 0 - k) 0 (Nat.zero_le _) ?_ (OSub.none _) ?_
      · exact subQ
      · intro k hk
        have hk3 : k = 0 := by omega
        subst hk3
        · repeat (first | refine gA pk ?_ | (show AL _ _ _ _ _ _ _; first | refine jX tok k0 ?_ | refine jL tok (fun u => ?_) | refine jS tok 0 ?_ | refine jO tok 0 ?_ | refine jP s2 ?_))
          refine finQ ?_
          exact ⟨rfl, rfl⟩
  · rw [if_pos hv] at hr
    subst hr
    generalize (validR t).2 = e at *
    obtain ⟨pn, pe⟩ := p
    obtain ⟨gn, ge⟩ := g
    change Pure _ _ [.agg [ints pn, edsA pe]] _ at s2
    change Pure _ _ [.agg [ints gn, edsA ge]] _ at s3
    have k0 : ([[ints pn, edsA pe], [ints gn, edsA ge]] : List (List AV))[(0 : Int).toNat]? = some [ints pn, edsA pe] := rfl
    have k1 : ([[ints pn, edsA pe], [ints gn, edsA ge]] : List (List AV))[(1 : Int).toNat]? = some [ints gn, edsA ge] := rfl
    refine zen Tryz.func72 (by kernel_rfl) rfl Tryz.ntmps72 rfl (by simp) ?_
    refine a_seq ?_
    refine a_reg ?_
    repeat (first | refine gZ pk ?_ | (show AL _ _ _ _ _ _ _; first | refine jB (fun u => ?_)))
    refine zfb 0 5 rfl rfl ?_
    refine zfb 0 4 rfl rfl ?_
    refine zfb 0 3 rfl rfl ?_
    repeat (first | refine gA pk ?_ | (show AL _ _ _ _ _ _ _; first | refine jP s1 ?_))
    refine finQ ?_
    exact ⟨rfl, rfl⟩
abbrev nilS : AV := .lit (.slice none 0 0)
def optA : Option (List Int) → AV
  | none => nilS
  | some x => ints x
theorem sgiven_spec (l : Option (List Int)) (i : Nat) (hi : ∀ x, l = some x → i < x.length ∧ x.length ≤ 1000) : Pure Tryz.prog 166 [optA l, AI i] (AI (gvn l i)) := by
  cases l with
  | none =>
    show Pure _ _ [nilS, AI i] (AI (-1))
    refine zen Tryz.func166 (by kernel_rfl) rfl Tryz.ntmps166 rfl (by simp) ?_
    repeat (first | refine gA pk ?_ | (show AL _ _ _ _ _ _ _; first | refine s_nilNil tok rfl rfl rfl rfl rfl rfl ?_))
    refine finQ ?_
    exact ⟨rfl, rfl⟩
  | some x =>
    obtain ⟨h1, h2⟩ := hi x rfl
    have lx : (rowI x).length = x.length := by simp
    have hx := List.getElem?_eq_getElem h1
    have hg : gvn (some x) i = x[i] := by
      show x.getD i (-1) = _
      rw [List.getD_eq_getElem?_getD, hx]; rfl
    rw [hg]
    generalize x[i] = y at hx
    have xk : (rowI x)[(i : Int).toNat]? = some [AI y] := zmp (f := cI) hx
    cases x with
    | nil => cases h1
    | cons z zs =>
      show Pure _ _ [ints (z :: zs), AI i] _
      refine zen Tryz.func166 (by kernel_rfl) rfl Tryz.ntmps166 rfl (by simp) ?_
      repeat (first | refine gA pk ?_)
      refine s_eqNil tok rfl rfl rfl rfl rfl rfl (fun h => ?_) ?_
      · cases h
      · repeat (first | refine gA pk ?_ | (show AL _ _ _ _ _ _ _; first | refine jX tok xk ?_))
        refine finQ ?_
        exact ⟨rfl, rfl⟩
end Go.Proofs.YtimfponihbfimaaGreat
end
