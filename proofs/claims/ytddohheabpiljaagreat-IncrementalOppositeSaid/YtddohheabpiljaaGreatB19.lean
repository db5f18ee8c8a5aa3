/-
  Parts of the proof of the law IncrementalOpposite (texts Y9, Y10): steps, plain mathematics, contracts of functions. Each theorem states its own conditions.
-/
import Derived.Test.YtddohheabpiljaaGreatB09
import Derived.Test.YtddohheabpiljaaGreatB18
section
/-
  Attributes: the walks.
-/
namespace Go.Proofs.YtddohheabpiljaaGreat
open Go.Sj Go.Sj.Typ
set_option maxRecDepth 8000
set_option linter.unusedVariables false
set_option maxHeartbeats 4000000

def RgP (a : Att) : Prop := (a.names.length = 0 ∧ -1000000 ≤ a.lo ∧ a.lo ≤ a.hi ∧ a.hi ≤ 1000000) ∨ (a.names.length ≠ 0 ∧ a.lo = 0 ∧ a.hi = a.names.length - 1)
instance (a : Att) : Decidable (RgP a) := inferInstanceAs (Decidable (_ ∨ _))
theorem rg_iff (a : Att) : rangeE a = if RgP a then 0 else 6 := by
  unfold rangeE RgP
  by_cases h : a.names = []
  · simp [h]
  · have : a.names.length ≠ 0 := fun e => h (List.length_eq_zero_iff.1 e)
    rw [if_neg h]
    simp [h]
theorem rg_ok {a : Att} (h : RgP a) : AI 0 = AI (rangeE a) := by rw [rg_iff, if_pos h]
theorem rg_bad {a : Att} (h : ¬ RgP a) : AI 6 = AI (rangeE a) := by rw [rg_iff, if_neg h]
theorem attribute1_spec (b a : Att) : Pure Tryz.prog 169 [.agg (cAtt b), .ip (cAtt a)] (AB (decide (b.name = a.name))) := by
  refine a_enter Tryz.func169 (by kernel_rfl) rfl Tryz.ntmps169 rfl (by simp) ?_; refine a_seq ?_; refine a_reg ?_; (repeat (first | refine gZ pk ?_ | (show AL _ _ _ _ _ _ _; first | refine jB (fun u => ?_)))); refine a_frzBox 0 2 rfl rfl ?_
  repeat' (first | refine gA pk ?_ | (show AL _ _ _ _ _ _ _; first | refine s_strEqB rfl rfl rfl rfl rfl rfl (fun hb => ?_) (fun hb => ?_) | (refine s_cmp rfl rfl rfl rfl rfl rfl rfl (fun hb => ?_) (fun hb => ?_) <;> simp only [cmpP] at hb)) | fail)
  · refine finQ ?_
    exact ⟨ABt hb, rfl⟩
  · refine finQ ?_
    exact ⟨ABf hb, rfl⟩
/-- Attributes whose strings are not too long. -/
def AttS (a : Att) : Prop := a.name.size ≤ 1000000 ∧ a.names.length ≤ 1000000 ∧ ∀ s ∈ a.names, s.size ≤ 1000000
theorem attribute_spec (a : Att) (ha : AttS a) (b : List Att) (hb : b.length ≤ 1000000) : Pure Tryz.prog 148 [.agg (cAtt a), attrsA b] (AI (attrE a b)) := by
  obtain ⟨h1, h2, h3⟩ := ha
  have ll : (a.names.map cS).length = a.names.length := by simp
  have s1 := IsName_spec a.name h1
  have s2 := ContainsFuncA_spec b hb 169 [.ip (cAtt a)] (fun x => decide (x.name = a.name)) (fun x _ => attribute1_spec x a)
  have s3 := names_spec a.names h2 h3
  unfold attrE bodyE
  generalize (b.any fun x => decide (x.name = a.name)) = c at *
  cases hn : nameB a.name with
  | false =>
    rw [hn] at s1
    rw [if_pos rfl]
    refine a_enter Tryz.func148 (by kernel_rfl) rfl Tryz.ntmps148 rfl (by simp) ?_; refine a_seq ?_; refine a_reg ?_; (repeat (first | refine gZ pk ?_ | (show AL _ _ _ _ _ _ _; first | refine jB (fun u => ?_)))); refine a_frzBox 0 2 rfl rfl ?_
    repeat (first | refine gA pk ?_ | (show AL _ _ _ _ _ _ _; first | refine jP s1 ?_))
    refine finQ ?_
    exact ⟨rfl, rfl⟩
  | true =>
    rw [hn] at s1
    rw [if_neg (by decide)]
    cases c with
    | true =>
      rw [if_pos rfl]
      refine a_enter Tryz.func148 (by kernel_rfl) rfl Tryz.ntmps148 rfl (by simp) ?_; refine a_seq ?_; refine a_reg ?_; (repeat (first | refine gZ pk ?_ | (show AL _ _ _ _ _ _ _; first | refine jB (fun u => ?_)))); refine a_frzBox 0 2 rfl rfl ?_
      repeat (first | refine gA pk ?_ | (show AL _ _ _ _ _ _ _; first | refine jP s1 ?_ | refine jP s2 ?_))
      refine finQ ?_
      exact ⟨rfl, rfl⟩
    | false =>
      rw [if_neg (by decide)]
      generalize namesE a.names = e at *
      by_cases he : e = 0
      · rw [if_neg (by omega)]
        subst he
        have rgi := @rg_ok a
        have rgb := @rg_bad a
        unfold RgP at rgi rgb
        refine a_enter Tryz.func148 (by kernel_rfl) rfl Tryz.ntmps148 rfl (by simp) ?_; refine a_seq ?_; refine a_reg ?_; (repeat (first | refine gZ pk ?_ | (show AL _ _ _ _ _ _ _; first | refine jB (fun u => ?_)))); refine a_frzBox 0 2 rfl rfl ?_
        repeat' (first | refine gA pk ?_ | (show AL _ _ _ _ _ _ _; first | refine jP s1 ?_ | refine jP s2 ?_ | refine jP s3 ?_ | (refine s_cmp rfl rfl rfl rfl rfl rfl rfl (fun hb => ?_) (fun hb => ?_) <;> simp only [cmpP] at hb)) | fail)
        all_goals refine finQ ?_
        all_goals first | exact ⟨rgi (by omega), rfl⟩ | exact ⟨rgb (by omega), rfl⟩
      · rw [if_pos he]
        refine a_enter Tryz.func148 (by kernel_rfl) rfl Tryz.ntmps148 rfl (by simp) ?_; refine a_seq ?_; refine a_reg ?_; (repeat (first | refine gZ pk ?_ | (show AL _ _ _ _ _ _ _; first | refine jB (fun u => ?_)))); refine a_frzBox 0 2 rfl rfl ?_
        repeat (first | refine gA pk ?_ | (show AL _ _ _ _ _ _ _; first | refine jP s1 ?_ | refine jP s2 ?_ | refine jP s3 ?_))
        refine finQ ?_
        exact ⟨rfl, rfl⟩
end Go.Proofs.YtddohheabpiljaaGreat

end
section
/-
  The attributes of a type with those of its supertypes: the walks.
-/
namespace Go.Proofs.YtddohheabpiljaaGreat
open Go.Sj Go.Sj.Typ
set_option maxRecDepth 8000
set_option linter.unusedVariables false
set_option maxHeartbeats 4000000

theorem cAtt_cell (l : List Att) : (l.map cAtt).all (fun e => e.all AV.cell) = true := by simp [cAtt, AV.cell, Value.oneCell']
theorem attrsOf_len {ns : List Nod} {k m : Nat} (h : PR ns k) (hk : k ≤ ns.length) (hm : ∀ n ∈ ns, n.attrs.length ≤ m) : ∀ (f : Nat) (a : Int), a + 1 ≤ f → a < k → (attrsOf ns a).length ≤ m * f
  | 0, a, hf, ha => by rw [attrsOf_neg (by omega)]; simp
  | f + 1, a, hf, ha => by
    by_cases h0 : a < 0
    · rw [attrsOf_neg h0]; simp
    · have hx := List.getElem?_eq_getElem (l := ns) (i := a.toNat) (by omega)
      have hp := h a.toNat _ (by omega) hx
      have hmm := hm _ (List.getElem_mem (l := ns) (n := a.toNat) (by omega))
      rw [attrsOf_step h (by omega) ha hx]
      have := attrsOf_len h hk hm f _ (by omega : (ns[a.toNat]).par + 1 ≤ f) (by omega)
      rw [List.length_append, Nat.mul_add]
      omega
theorem attrs_spec (t : Tys) (ht : Small t) (k : Nat) (hk : k ≤ t.nodes.length) (hp : PR t.nodes k) : ∀ (m : Nat) (a : Int), 0 ≤ a → a < k → a < m →
    Gives Tryz.prog 147 [tysA t, AI a] 109 4 ((attrsOf t.nodes a).map cAtt)
  | 0, a, h0, _, hm => by omega
  | m + 1, a, h0, ha, hm => by
    have ih := attrs_spec t ht k hk hp m
    have hx := List.getElem?_eq_getElem (l := t.nodes) (i := a.toNat) (by omega)
    have hmem := List.getElem_mem (l := t.nodes) (n := a.toNat) (by omega)
    have hn := ht.node _ hmem
    have hpar := hp a.toNat _ (by omega) hx
    have hs := attrsOf_step hp h0 ha hx
    generalize t.nodes[a.toNat] = n at hx hn hpar hs
    have xk : (t.nodes.map cNod)[a.toNat]? = some (cNod n) := map_get hx
    have hlen := attrsOf_len hp hk (fun n hn => (ht.node n hn).2.1) 20 n.par (by have := ht.nodes; omega) (by omega)
    have ln : (n.attrs.map cAtt).length = n.attrs.length := by simp
    have lp : ((attrsOf t.nodes n.par).map cAtt).length = (attrsOf t.nodes n.par).length := by simp
    have hna := hn.2.1
    by_cases h1 : 0 ≤ n.par
    · have hc := ih n.par h1 (by omega) (by omega)
      refine a_enter Tryz.func147 (by kernel_rfl) rfl Tryz.ntmps147 rfl (by simp) ?_; refine a_seq ?_; refine a_reg ?_; (repeat (first | refine gZ pk ?_ | (show AL _ _ _ _ _ _ _; first | refine jB (fun u => ?_)))); refine a_frzBox 0 2 rfl rfl ?_
      repeat (first | refine gA pk ?_ | (show AL _ _ _ _ _ _ _; first | refine jX tok xk ?_ | refine s_callG rfl rfl rfl rfl rfl (hc) (SubL.of_eq rfl) (fun v => ?_)))
      refine s_appendIm tok 0 rfl rfl rfl rfl rfl rfl (by decide) rfl rfl rfl rfl (cAtt_cell n.attrs) (by omega) (by simp only [ln, lp]; omega) (fun v' => ?_)
      repeat (first | refine gA pk ?_)
      rw [hs, List.map_append]
      refine finR ?_
      exact ⟨_, rfl, rfl⟩
    · rw [attrsOf_neg (a := n.par) (by omega), List.nil_append] at hs
      refine a_enter Tryz.func147 (by kernel_rfl) rfl Tryz.ntmps147 rfl (by simp) ?_; refine a_seq ?_; refine a_reg ?_; (repeat (first | refine gZ pk ?_ | (show AL _ _ _ _ _ _ _; first | refine jB (fun u => ?_)))); refine a_frzBox 0 2 rfl rfl ?_
      repeat (first | refine gA pk ?_ | (show AL _ _ _ _ _ _ _; first | refine jX tok xk ?_))
      refine s_appendZ tok rfl rfl rfl rfl rfl rfl (by decide) Sub.z0nil rfl rfl (cAtt_cell n.attrs) (by omega) (by simp only [ln]; omega) (fun v' => ?_)
      repeat (first | refine gA pk ?_)
      rw [hs]
      refine finR ?_
      exact ⟨_, rfl, rfl⟩
end Go.Proofs.YtddohheabpiljaaGreat

end
