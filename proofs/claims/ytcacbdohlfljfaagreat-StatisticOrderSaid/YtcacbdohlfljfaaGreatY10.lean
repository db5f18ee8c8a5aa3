/-
  The attributes of a type with those of its supertypes: the walks.
-/
import Derived.Test.YtcacbdohlfljfaaGreatSjQ8
import Derived.Test.YtcacbdohlfljfaaGreatY9
namespace Go.Proofs.YtcacbdohlfljfaaGreat
open Go.Sj Go.Sj.Typ
set_option linter.unusedVariables false
set_option maxHeartbeats 4000000

theorem cAtt_cell (l : List Att) : (l.map cAtt).all (fun e => e.all AV.cell) = true := by simp [cAtt, AV.cell, Value.oneCell']
theorem attrsOf_len {ns : List Nod} {k m : Nat} (h : PR ns k) (hk : k ≤ ns.length) (hm : ∀ n ∈ ns, n.attrs.length ≤ m) : ∀ (f : Nat) (a : Int), a + 1 ≤ f → a < k → (attrsOf ns a).length ≤ m * f
  | 0, a, hf, ha => by rw [attrsOf_neg (by omega)]; simp
  | f + 1, a, hf, ha => by
    by_cases h0 : a < 0
    · rw [attrsOf_neg h0]; simp
    · have hx := List.getElem?_eq_getElem (l := ns) (i := a.toNat) (by omega)
      have hp := h a.toNat _ (by omega) hx
      have hmm := hm _ (List.getElem_mem (l := ns) (n := a.toNat) (by omega))
      rw [attrsOf_step h (by omega) ha hx]
      have := attrsOf_len h hk hm f _ (by omega : (ns[a.toNat]).par + 1 ≤ f) (by omega)
      rw [List.length_append, Nat.mul_add]
      omega
theorem attrs_spec (t : Tys) (ht : Small t) (k : Nat) (hk : k ≤ t.nodes.length) (hp : PR t.nodes k) : ∀ (m : Nat) (a : Int), 0 ≤ a → a < k → a < m →
    Gives Tryz.prog 98 [tysA t, AI a] 81 4 ((attrsOf t.nodes a).map cAtt)
  | 0, a, h0, _, hm => by omega
  | m + 1, a, h0, ha, hm => by
    have ih := attrs_spec t ht k hk hp m
    have hx := List.getElem?_eq_getElem (l := t.nodes) (i := a.toNat) (by omega)
    have hmem := List.getElem_mem (l := t.nodes) (n := a.toNat) (by omega)
    have hn := ht.node _ hmem
    have hpar := hp a.toNat _ (by omega) hx
    have hs := attrsOf_step hp h0 ha hx
    generalize t.nodes[a.toNat] = n at hx hn hpar hs
    have xk : (t.nodes.map cNod)[a.toNat]? = some (cNod n) := map_get hx
    have hlen := attrsOf_len hp hk (fun n hn => (ht.node n hn).2.1) 20 n.par (by have := ht.nodes; omega) (by omega)
    have ln : (n.attrs.map cAtt).length = n.attrs.length := by simp
    have lp : ((attrsOf t.nodes n.par).map cAtt).length = (attrsOf t.nodes n.par).length := by simp
    have hna := hn.2.1
    by_cases h1 : 0 ≤ n.par
    · have hc := ih n.par h1 (by omega) (by omega)
      refine a_enter Tryz.func98 (by kernel_rfl) rfl Tryz.ntmps98 rfl (by simp) ?_; refine a_seq ?_; refine a_reg ?_; (repeat (first | refine gZ pk ?_ | (show AL _ _ _ _ _ _ _; first | refine jB (fun u => ?_)))); refine a_frzBox 0 2 rfl rfl ?_
      repeat (first | refine gA pk ?_ | (show AL _ _ _ _ _ _ _; first | refine jX tok xk ?_ | refine s_callG rfl rfl rfl rfl rfl (hc) (SubL.of_eq rfl) (fun v => ?_)))
      refine s_appendIm tok 0 rfl rfl rfl rfl rfl rfl (by decide) rfl rfl rfl rfl (cAtt_cell n.attrs) (by omega) (by simp only [ln, lp]; omega) (fun v' => ?_)
      repeat (first | refine gA pk ?_)
      rw [hs, List.map_append]
      refine finR ?_
      exact ⟨_, rfl, rfl⟩
    · rw [attrsOf_neg (a := n.par) (by omega), List.nil_append] at hs
      refine a_enter Tryz.func98 (by kernel_rfl) rfl Tryz.ntmps98 rfl (by simp) ?_; refine a_seq ?_; refine a_reg ?_; (repeat (first | refine gZ pk ?_ | (show AL _ _ _ _ _ _ _; first | refine jB (fun u => ?_)))); refine a_frzBox 0 2 rfl rfl ?_
      repeat (first | refine gA pk ?_ | (show AL _ _ _ _ _ _ _; first | refine jX tok xk ?_))
      refine s_appendZ tok rfl rfl rfl rfl rfl rfl (by decide) Sub.z0nil rfl rfl (cAtt_cell n.attrs) (by omega) (by simp only [ln]; omega) (fun v' => ?_)
      repeat (first | refine gA pk ?_)
      rw [hs]
      refine finR ?_
      exact ⟨_, rfl, rfl⟩
theorem refAttrs_spec (t : Tys) (ht : Small t) (k : Nat) (hk : k ≤ t.nodes.length) (hp : PR t.nodes k) : ∀ (m : Nat) (a : Int), -1 ≤ a → a < k → a < m →
    Gives Tryz.prog 107 [tysA t, AI a] 81 4 ((attrsOf t.nodes a).map cAtt)
  | 0, a, h0, _, hm => by
    obtain rfl : a = -1 := by omega
    rw [attrsOf_neg (by omega)]
    refine a_enter Tryz.func107 (by kernel_rfl) rfl Tryz.ntmps107 rfl (by simp) ?_; refine a_seq ?_; refine a_reg ?_; (repeat (first | refine gZ pk ?_ | (show AL _ _ _ _ _ _ _; first | refine jB (fun u => ?_)))); refine a_frzBox 0 2 rfl rfl ?_
    repeat (first | refine gA pk ?_)
    exact fin (x := .lit _) (.inr rfl) rfl (Sub.refl _) ⟨_, rfl, rfl⟩ (.free .nil)
  | m + 1, a, h0, ha, hm => by
    have ih := refAttrs_spec t ht k hk hp m
    by_cases h00 : a < 0
    · rw [attrsOf_neg h00]
      refine a_enter Tryz.func107 (by kernel_rfl) rfl Tryz.ntmps107 rfl (by simp) ?_; refine a_seq ?_; refine a_reg ?_; (repeat (first | refine gZ pk ?_ | (show AL _ _ _ _ _ _ _; first | refine jB (fun u => ?_)))); refine a_frzBox 0 2 rfl rfl ?_
      repeat (first | refine gA pk ?_)
      exact fin (x := .lit _) (.inr rfl) rfl (Sub.refl _) ⟨_, rfl, rfl⟩ (.free .nil)
    · have hx := List.getElem?_eq_getElem (l := t.nodes) (i := a.toNat) (by omega)
      have hmem := List.getElem_mem (l := t.nodes) (n := a.toNat) (by omega)
      have hn := ht.node _ hmem
      have hpar := hp a.toNat _ (by omega) hx
      have hs := attrsOf_step hp (by omega) ha hx
      generalize t.nodes[a.toNat] = n at hx hn hpar hs
      have xk : (t.nodes.map cNod)[a.toNat]? = some (cNod n) := map_get hx
      have hlen := attrsOf_len hp hk (fun n hn => (ht.node n hn).2.1) 20 n.par (by have := ht.nodes; omega) (by omega)
      have ln : (n.attrs.map cAtt).length = n.attrs.length := by simp
      have lp : ((attrsOf t.nodes n.par).map cAtt).length = (attrsOf t.nodes n.par).length := by simp
      have hna := hn.2.1
      have hc := ih n.par hpar.1 (by omega) (by omega)
      refine a_enter Tryz.func107 (by kernel_rfl) rfl Tryz.ntmps107 rfl (by simp) ?_; refine a_seq ?_; refine a_reg ?_; (repeat (first | refine gZ pk ?_ | (show AL _ _ _ _ _ _ _; first | refine jB (fun u => ?_)))); refine a_frzBox 0 2 rfl rfl ?_
      repeat (first | refine gN pk ?_)
      refine a_regT (.br [1, 2, 3, 4, 5, 6, 7, 10, 11, 12, 13, 14, 15] (.seg [0, 8, 9, 16, 17]) (.seg [8, 0, 9, 16, 17])) mixed rfl rfl (by decide +kernel) (at_br ?_)
      repeat (first | refine gZ pk ?_ | (show AL _ _ _ _ _ _ _; first | refine jX tok xk ?_))
      refine ⟨at_seg ?_, at_seg ?_⟩
      · refine s_build tok (parts := []) rfl rfl rfl rfl rfl rfl rfl rfl (by decide) (by decide) (fun v => ?_)
        refine s_callG rfl rfl rfl rfl rfl (hc) (SubL.of_eq rfl) (fun v => ?_)
        refine s_appendOwn tok 1 0 rfl rfl rfl rfl rfl rfl (by decide) rfl rfl rfl rfl rfl (cAtt_cell _) (by simp only [lp, List.length_nil]; omega) (by simp only [lp, List.length_nil]; omega) (fun v1 => ?_)
        refine s_appendIm tok 1 rfl rfl rfl rfl rfl rfl (by decide) rfl rfl rfl rfl (cAtt_cell n.attrs) (by simp only [List.length_append, ln, lp, List.length_nil]; omega) (by simp only [List.length_append, ln, lp, List.length_nil]; omega) (fun v' => ?_)
        repeat (first | refine gA pk ?_)
        refine fin (x := .lit _) (.inr rfl) rfl (Sub.refl _) ⟨_, rfl, rfl⟩ ?_
        rw [hs, List.map_append]
        exact .drop (OSub.refl _)
      · refine s_callG rfl rfl rfl rfl rfl (hc) (SubL.of_eq rfl) (fun v => ?_)
        refine s_build tok (parts := []) rfl rfl rfl rfl rfl rfl rfl rfl (by decide) (by decide) (fun v => ?_)
        refine s_appendOwn tok 0 1 rfl rfl rfl rfl rfl rfl (by decide) rfl rfl rfl rfl rfl (cAtt_cell _) (by simp only [lp, List.length_nil]; omega) (by simp only [lp, List.length_nil]; omega) (fun v1 => ?_)
        refine s_appendIm tok 0 rfl rfl rfl rfl rfl rfl (by decide) rfl rfl rfl rfl (cAtt_cell n.attrs) (by simp only [List.length_append, ln, lp, List.length_nil]; omega) (by simp only [List.length_append, ln, lp, List.length_nil]; omega) (fun v' => ?_)
        repeat (first | refine gA pk ?_)
        refine fin (x := .lit _) (.inr rfl) rfl (Sub.refl _) ⟨_, rfl, rfl⟩ ?_
        rw [hs, List.map_append]
        exact .keep (.drop .nil)
end Go.Proofs.YtcacbdohlfljfaaGreat
