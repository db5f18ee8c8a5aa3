/-
  Parts of the proof of the law IncrementalOpposite (texts L28): steps, plain mathematics, contracts of functions. Each theorem states its own conditions.
-/
import Derived.Test.YtddohheabpiljaaGreatB25
section
/-
  Handing what is owned, rows and boxes, to a callee that only reads. No condition; nothing here names a program.
-/
namespace Go.Sj
set_option maxRecDepth 8000
set_option linter.unusedVariables false
set_option linter.unusedSimpArgs false

/-- What an owned thing is while it does not change. -/
def Frz (τ : Hp) : Value × OB → Prop
  | (v, .row _ sz es) => VR τ (.im sz es) v
  | (v, .box cells) => ∃ b, v = .pointer (some ⟨b, 0, none⟩) ∧ VR τ (.ip cells) v
  | (_, .mp _) => True
def FV (L : Own) (x y : AV) : Prop := ∀ (τ : Hp) (u : Value), (∀ p ∈ L, Frz τ p) → VR τ x u → VR τ y u
def FVL (L : Own) : List AV → List AV → Prop
  | [], [] => True
  | x :: l, y :: m => FV L x y ∧ FVL L l m
  | _, _ => False
theorem FV.refl {L : Own} (x : AV) : FV L x x := fun τ u _ k => k
theorem FV.row {L : Own} {v : Value} {E sz : Nat} {es : List (List AV)} (h : (v, .row E sz es) ∈ L) : FV L (.lit v) (.im sz es) := fun τ u hf k => by
  rw [k.lit_inv]
  exact hf _ h
theorem FV.box {L : Own} {v : Value} {cells : List AV} (h : (v, .box cells) ∈ L) : FV L (.pt v 0 0 0) (.ip cells) := fun τ u hf k => by
  obtain ⟨b, hv, h1⟩ := hf _ h
  subst hv
  cases k with
  | pt _ _ _ _ b' hb' =>
    simp [blk] at hb'
    subst hb'
    simpa using h1
theorem FVL.at {L : Own} : ∀ {l m : List AV}, FVL L l m → l.length = m.length ∧ ∀ {j : Nat} {y : AV}, m[j]? = some y → ∃ x, l[j]? = some x ∧ FV L x y
  | [], [], _ => ⟨rfl, fun {j y} hy => by simp at hy⟩
  | x :: l, z :: m, h => by
    obtain ⟨h1, h2⟩ := FVL.at h.2
    refine ⟨by rw [List.length_cons, List.length_cons, h1], fun {j y} hy => ?_⟩
    cases j with
    | zero => simp at hy; subst hy; exact ⟨x, rfl, h.1⟩
    | succ j =>
      obtain ⟨x', h3, h4⟩ := h2 (j := j) (by simpa using hy)
      exact ⟨x', by simpa using h3, h4⟩
  | [], _ :: _, h => h.elim
  | _ :: _, [], h => h.elim
theorem FVL.refl {L : Own} : ∀ l, FVL L l l
  | [] => trivial
  | x :: l => ⟨FV.refl x, FVL.refl l⟩
theorem FV.ip {L : Own} {l m : List AV} (h : FVL L l m) : FV L (.ip l) (.ip m) := fun τ u hv hu => by
  obtain ⟨_, h⟩ := h.at
  cases hu with
  | ip _ b off c E fr f h1 h2 h3 =>
    refine .ip m b off c E fr f h1 (fun j y hy => ?_) (fun j y hy => ?_)
    · obtain ⟨x, hx, _⟩ := h hy
      exact h2 j x hx
    · obtain ⟨x, hx, hz⟩ := h hy
      exact hz τ _ hv (h3 j x hx)
theorem FV.fn {L : Own} {g : Fn} {l m k k' : List AV} (h : FVL L l m) (h' : FVL L k k') : FV L (.fn g l k) (.fn g m k') := fun τ u hv hu => by
  obtain ⟨e1, h⟩ := h.at
  obtain ⟨e2, h'⟩ := h'.at
  cases hu with
  | fn _ _ _ al ak f hh s1 s2 h1 h2 h3 h4 =>
    refine .fn g m k' al ak f hh (by rw [s1, e1]) (by rw [s2, e2]) (fun j y hy => ?_) (fun j y hy => ?_) (fun j y hy => ?_) (fun j y hy => ?_)
    · obtain ⟨x, hx, _⟩ := h hy
      exact h1 j x hx
    · obtain ⟨x, hx, hz⟩ := h hy
      exact hz τ _ hv (h2 j x hx)
    · obtain ⟨x, hx, _⟩ := h' hy
      exact h3 j x hx
    · obtain ⟨x, hx, hz⟩ := h' hy
      exact hz τ _ hv (h4 j x hx)
theorem FVL.vrs {L : Own} {τ : Hp} {l m : List AV} {vs : List Value} (h : FVL L l m) (hf : ∀ p ∈ L, Frz τ p) (k : VRs τ l vs) : VRs τ m vs := by
  obtain ⟨e, h⟩ := h.at
  refine ⟨by rw [k.1, e], fun j y u hy hu => ?_⟩
  obtain ⟨x, hx, hz⟩ := h hy
  exact hz τ u hf (k.2 j x u hx hu)
theorem own_box_frozen {σ τ : Hp} {w : World} {v : Value} {cells : List AV} (h : Own1 σ w (v, .box cells)) (hle : σ.le τ) (hb : ∀ b, blk v = some b → τ b = w.heap[b]?) : ∃ b, v = .pointer (some ⟨b, 0, none⟩) ∧ VR τ (.ip cells) v := by
  obtain ⟨b, c0, E, hv, hc, hcs⟩ := h
  refine ⟨b, hv, ?_⟩
  subst hv
  refine .ip cells b 0 c0 E (0, 0) (fun j => c0.getD j undef) (by rw [hb b rfl]; exact hc) (fun j x hx => ?_) (fun j x hx => ?_)
  · obtain ⟨y, hy, _⟩ := hcs.get hx
    simp at hy
    simp [Array.getD_eq_getD_getElem?, hy]
  · obtain ⟨y, hy, hxy⟩ := hcs.get hx
    simp at hy
    simpa [Array.getD_eq_getD_getElem?, hy] using hxy.mono hle
/-- All that is handed comes back. -/
theorem ACalls.lendA {P : Program} {f : FuncId} {args args' : List AV} {L : Own} {R : AV → Own → Prop} (h : ACalls P f args [] R) (hz : FVL L args' args) (hfree : ∀ x M, R x M → Free x ∧ M = []) :
    ACalls P f args' L fun x M => R x [] ∧ M = L :=
  ⟨h.ok, fun σ F w vs hr hvs => by
    let B := L.filterMap (blk ∘ Prod.fst)
    have hap : ∀ b ∈ B, σ b = none ∧ F.h b = none := hr.apart
    have hmemB : ∀ p ∈ L, ∀ b, blk p.1 = some b → b ∈ B := fun p hp b hb => List.mem_filterMap.2 ⟨p, hp, hb⟩
    let τ : Hp := fun b => match σ b with
      | some o => some o
      | none => if b ∈ B then w.heap[b]? else none
    have hle : σ.le τ := fun b o hb => by simp only [τ, hb]
    have hat : ∀ b ∈ B, τ b = w.heap[b]? := fun b hb => by simp only [τ, (hap b hb).1, if_pos hb]
    have hfrz : ∀ p ∈ L, Frz τ p := fun p hp => by
      have ho := hr.own p hp
      obtain ⟨v, ob⟩ := p
      cases ob with
      | row E sz es => exact own_frozen ho hle fun b hb => hat b (hmemB _ hp b hb)
      | box cells => exact own_box_frozen ho hle fun b hb => hat b (hmemB _ hp b hb)
      | mp m => trivial
    have hrel : HRel τ [] F w := by
      refine ⟨fun b o hb => ?_, hr.frame, hr.os, hr.out, by simp, fun b o hb => ?_, by simp, by simp⟩
      · simp only [τ] at hb
        split at hb
        · rename_i o' ho
          cases hb
          exact hr.agree b o ho
        · split at hb
          · exact hb
          · cases hb
      · simp only [τ] at hb
        split at hb
        · rename_i o' ho
          exact hr.sep b o' ho
        · split at hb
          · rename_i hbB
            exact (hap b hbB).2
          · cases hb
    have hargs : VRs τ args vs := hz.vrs hfrz (hvs.mono hle)
    refine (h.out τ F w vs hrel hargs).mono fun e w' ⟨u, he, τ1, x, M, k1, k2, k3, k4⟩ => ?_
    obtain ⟨f1, f2⟩ := hfree x M k4
    subst f2
    let τ' : Hp := fun b => if b ∈ B then none else τ1 b
    have hle' : σ.le τ' := fun b o hb => by
      have hne : b ∉ B := fun e => by rw [(hap b e).1] at hb; cases hb
      show (if b ∈ B then none else τ1 b) = some o
      rw [if_neg hne]
      exact k1 b o (hle b o hb)
    have hsub : Hp.le τ' τ1 := fun b o hb => by
      by_cases hb' : b ∈ B
      · simp [τ', hb'] at hb
      · simpa [τ', hb'] using hb
    have hblock : ∀ p ∈ L, ∀ b, blk p.1 = some b → w'.heap[b]? = w.heap[b]? := fun p hp b hb => by
      have hlt := (hr.own p hp).lt hb
      have e0 : w.heap[b]? = some w.heap[b] := Array.getElem?_eq_getElem hlt
      have e1 : τ b = some w.heap[b] := by rw [hat b (hmemB p hp b hb)]; exact e0
      rw [e0]
      exact k2.agree b _ (k1 b _ e1)
    refine ⟨u, he, τ', x, L, hle', ⟨k2.agree.mono hsub, k2.frame, k2.os, k2.out, fun p hp => ?_, fun b o hb => k2.sep b o (hsub b o hb), hr.nodup, fun b hb => ?_⟩, f1.move k3, k4, rfl⟩
    · exact ((hr.own p hp).mono hle').kept fun b hb => hblock p hp b hb
    · refine ⟨?_, (hap b hb).2⟩
      show (if b ∈ B then none else τ1 b) = none
      rw [if_pos hb]⟩

section
variable {P : Program} {N : Nat} {ops : List Oper} {Q : St → Own → Prop} {L : Own} {rest : List (Oper × Kd)} {l : List (Nat × AV)} {k : Kd} {q : Nat}
theorem s_nilNil {tt : List (TypeId × TD)} (ok : TOK P tt) {o : Oper} {T T' : TypeId} {x : Operand} {E s1 b1 : Nat} {z1 : List Value}
    (ho : o.op = .binOp .eql T x (.const (.slice none 0 0)) T') (hdst : o.dst = some q) (hd : Nat.blt q N = true) (hg : guardA ops o (lk l) = some true) (hT : lkT tt T = some ⟨.slice E, s1, b1, z1⟩) (hx : ev (lk l) x = .lit (.slice none 0 0))
    (n : AL P N ops Q rest (lk ((q, .lit (.bool true)) :: l)) L) : AL P N ops Q ((o, k) :: rest) (lk l) L := by
  obtain ⟨dst, op', ty, pos, after, g⟩ := o
  simp only at ho
  subst ho
  refine s_pure hdst hd hg ⟨fun σ F w ρ hR hρ => ⟨.bool true, ?_, .lit _⟩⟩ n
  have h1 := hρ x (by simp [Op.operands])
  have h2 := hρ (.const (.slice none 0 0)) (by simp [Op.operands])
  rw [hx] at h1
  have h2' : ρ (.const (.slice none 0 0)) = .slice none 0 0 := h2.lit_inv
  have hu := (ok _ _ hT).slice rfl
  simp [execOp, h1.lit_inv, h2', eqGuard, binOp, eqNil_run hu]
end
end Go.Sj

end
