/-
  Typed graphs: the walks. Conditions: small type graphs.
-/
import Derived.Test.YtcacbdohlfljfaaGreatSjQ8
import Derived.Test.YtcacbdohlfljfaaGreatZ7
import Derived.Test.YtcacbdohlfljfaaGreatY18
namespace Go.Proofs.YtcacbdohlfljfaaGreat
open Go.Sj Go.Sj.Typ Go.Sj.Sta
set_option linter.unusedVariables false
set_option linter.unusedSimpArgs false
set_option maxHeartbeats 8000000

theorem tyE_at {t : Tys} {g : Gr} {k : Nat} {e : Ed} (h : g.edges[k]? = some e) : tyE t g k = tyEd t g e := by simp only [tyE, h]
theorem typed_spec (t : Tys) (ht : Small t) (g : Gr) (hg : OkG g) : Pure Tryz.prog 35 [tysA t, grA g] (AI (typedE t g)) := by
  have ln : (rowI g.nodes).length = g.nodes.length := by simp
  have le : (g.edges.map cEd).length = g.edges.length := by simp
  have lt : (t.nodes.map cNod).length = t.nodes.length := by simp
  have lte : (t.edges.map cEdg).length = t.edges.length := by simp
  have htn := ht.nodes
  have hte := ht.edges
  have s1 := Valid_spec t ht
  have s2 := gvalid_spec g hg
  obtain ⟨r, hr⟩ : ∃ r, typedE t g = r := ⟨_, rfl⟩
  rw [hr]
  unfold typedE at hr
  by_cases hv : (validR t).2 = 0
  · rw [if_neg (Decidable.not_not.2 hv)] at hr
    generalize (validR t).1 = nm at s1
    rw [hv] at s1
    by_cases hgv : gvalid g = 0
    · have hG := gvalid_zero.1 hgv
      have hg1 := hG.nl
      have hg2 := hG.el
      rw [if_neg (Decidable.not_not.2 hgv)] at hr
      rw [hgv] at s2
      refine a_enter Tryz.func35 (by kernel_rfl) rfl Tryz.ntmps35 rfl (by simp) ?_
      refine a_seq ?_
      refine a_reg ?_
      repeat (first | refine gZ pk ?_ | (show AL _ _ _ _ _ _ _; first | refine jB (fun u => ?_)))
      refine a_frzBox 0 3 rfl rfl ?_
      refine a_frzBox 0 2 rfl rfl ?_
      repeat (first | refine gA pk ?_ | (show AL _ _ _ _ _ _ _; first | refine jP s1 ?_ | refine jP s2 ?_))
      rw [ln]
      refine a_loopX (fun k : Nat => [(2, tysP t), (3, grP g), (26, ints g.nodes), (27, AI g.nodes.length), (28, AI k)]) (fun _ => []) (fun k => k ≤ g.nodes.length ∧ ∀ x ∈ g.nodes.take k, decide ((t.nodes.length : Int) ≤ x) = false) (fun k => g.nodes.length - k) 0 ⟨Nat.zero_le _, by simp⟩ ?_ (OSub.none _) ?_
      · exact subQ
      · rintro k ⟨hk, hno⟩
        rcases Nat.lt_or_ge k g.nodes.length with h | h
        · have hx := List.getElem?_eq_getElem h
          generalize g.nodes[k] = y at hx
          have xk : (rowI g.nodes)[(k : Int).toNat]? = some [AI y] := map_get (f := cI) hx
          by_cases hy : (t.nodes.length : Int) ≤ y
          · rw [any_take_some (p := fun n => decide ((t.nodes.length : Int) ≤ n)) hx (decide_eq_true hy), if_pos rfl] at hr
            subst hr
            repeat (first | refine gA pk ?_ | (show AL _ _ _ _ _ _ _; first | refine jX tok xk ?_))
            refine finQ ?_
            exact ⟨rfl, rfl⟩
          · have hn := none_takeP (p := fun n => decide ((t.nodes.length : Int) ≤ n)) hno hx (decide_eq_false hy)
            repeat (first | refine gA pk ?_ | (show AL _ _ _ _ _ _ _; first | refine jX tok xk ?_))
            exact ⟨k + 1, ⟨by omega, hn⟩, by omega, by exact subQ, OSub.none _⟩
        · obtain rfl : k = g.nodes.length := by omega
          rw [List.take_length] at hno
          rw [any_take_none (p := fun n => decide ((t.nodes.length : Int) ≤ n)) hno, if_neg (by decide)] at hr
          repeat (first | refine gA pk ?_)
          rw [le]
          refine a_loopX (fun k : Nat => [(2, tysP t), (3, grP g), (39, edsA g.edges), (40, AI g.edges.length), (41, AI k)]) (fun _ => []) (fun k => k ≤ g.edges.length ∧ ∀ j, j < k → tyE t g j = 0) (fun k => g.edges.length - k) 0 ⟨Nat.zero_le _, fun j hj => (by omega)⟩ ?_ (OSub.none _) ?_
          · exact subQ
          · rintro k ⟨hk, hno⟩
            rcases Nat.lt_or_ge k g.edges.length with h | h
            · have hx := List.getElem?_eq_getElem h
              have hed := hG.edges _ (List.getElem_mem h)
              have hE := tyE_at (t := t) hx
              generalize g.edges[k] = y at hx hed hE
              obtain ⟨c1, c2, c3⟩ := y
              simp only at hed
              have xk : (g.edges.map cEd)[(k : Int).toNat]? = some [AI c1, AI c2, AI c3] := map_get (f := cEd) hx
              have xa : (rowI g.nodes)[c2.toNat]? = some [AI (nodeAt g c2)] := map_get (f := cI) (nodeAt_get hed.2.1.1 hed.2.1.2)
              have xb : (rowI g.nodes)[c3.toNat]? = some [AI (nodeAt g c3)] := map_get (f := cI) (nodeAt_get hed.2.2.1 hed.2.2.2)
              have s3 := Fits_spec t ht c1 (nodeAt g c2) (nodeAt g c3)
              unfold tyEd at hE
              simp only at hE
              generalize nodeAt g c2 = na at *
              generalize nodeAt g c3 = nb at *
              by_cases h1 : (t.edges.length : Int) ≤ c1
              · rw [if_pos h1] at hE
                rw [firstN_at hno h (by rw [hE]; decide), hE] at hr
                subst hr
                repeat (first | refine gA pk ?_ | (show AL _ _ _ _ _ _ _; first | refine jX tok xk ?_ | refine jL tok (fun u => ?_) | refine jS tok 0 ?_ | refine jO tok 0 ?_))
                refine finQ ?_
                exact ⟨rfl, rfl⟩
              · rw [if_neg h1] at hE
                cases hf : fitsR t c1 na nb with
                | false =>
                  rw [hf] at s3
                  rw [hf, if_pos rfl] at hE
                  rw [firstN_at hno h (by rw [hE]; decide), hE] at hr
                  subst hr
                  repeat (first | refine gN pk ?_ | (show AL _ _ _ _ _ _ _; first | refine jX tok xk ?_ | refine jL tok (fun u => ?_) | refine jS tok 0 ?_ | refine jO tok 0 ?_))
                  refine a_frzBox 0 11 rfl rfl ?_
                  repeat (first | refine gA pk ?_ | (show AL _ _ _ _ _ _ _; first | refine jX tok xa ?_ | refine jX tok xb ?_ | refine jP s3 ?_))
                  refine finQ ?_
                  exact ⟨rfl, rfl⟩
                | true =>
                  rw [hf] at s3
                  rw [hf, if_neg (by decide)] at hE
                  repeat (first | refine gN pk ?_ | (show AL _ _ _ _ _ _ _; first | refine jX tok xk ?_ | refine jL tok (fun u => ?_) | refine jS tok 0 ?_ | refine jO tok 0 ?_))
                  refine a_frzBox 0 11 rfl rfl ?_
                  repeat (first | refine gA pk ?_ | (show AL _ _ _ _ _ _ _; first | refine jX tok xa ?_ | refine jX tok xb ?_ | refine jP s3 ?_))
                  exact ⟨k + 1, ⟨by omega, fun j hj => by rcases Nat.lt_or_ge j k with hj' | hj'; exact hno j hj'; obtain rfl : j = k := by omega
                                                          exact hE⟩, by omega, by exact subQ, OSub.none _⟩
            · obtain rfl : k = g.edges.length := by omega
              rw [firstN_none hno] at hr
              subst hr
              repeat (first | refine gA pk ?_)
              refine finQ ?_
              exact ⟨rfl, rfl⟩
    · rw [if_pos hgv] at hr
      rw [hr] at s2 hgv
      refine a_enter Tryz.func35 (by kernel_rfl) rfl Tryz.ntmps35 rfl (by simp) ?_
      refine a_seq ?_
      refine a_reg ?_
      repeat (first | refine gZ pk ?_ | (show AL _ _ _ _ _ _ _; first | refine jB (fun u => ?_)))
      refine a_frzBox 0 3 rfl rfl ?_
      refine a_frzBox 0 2 rfl rfl ?_
      repeat (first | refine gA pk ?_ | (show AL _ _ _ _ _ _ _; first | refine jP s1 ?_ | refine jP s2 ?_))
      refine finQ ?_
      exact ⟨rfl, rfl⟩
  · rw [if_pos hv] at hr
    generalize (validR t).1 = nm at s1
    rw [hr] at s1 hv
    refine a_enter Tryz.func35 (by kernel_rfl) rfl Tryz.ntmps35 rfl (by simp) ?_
    refine a_seq ?_
    refine a_reg ?_
    repeat (first | refine gZ pk ?_ | (show AL _ _ _ _ _ _ _; first | refine jB (fun u => ?_)))
    refine a_frzBox 0 3 rfl rfl ?_
    refine a_frzBox 0 2 rfl rfl ?_
    repeat (first | refine gA pk ?_ | (show AL _ _ _ _ _ _ _; first | refine jP s1 ?_))
    refine finQ ?_
    exact ⟨rfl, rfl⟩
theorem refTyped_spec (t : Tys) (ht : Small t) (g : Gr) (hg : OkG g) : Pure Tryz.prog 37 [tysA t, grA g] (AI (typedE t g)) := by
  have ln : (rowI g.nodes).length = g.nodes.length := by simp
  have le : (g.edges.map cEd).length = g.edges.length := by simp
  have lt : (t.nodes.map cNod).length = t.nodes.length := by simp
  have lte : (t.edges.map cEdg).length = t.edges.length := by simp
  have htn := ht.nodes
  have hte := ht.edges
  have s1 := refValid_spec t ht
  have s2 := refgvalid_spec g hg
  obtain ⟨r, hr⟩ : ∃ r, typedE t g = r := ⟨_, rfl⟩
  rw [hr]
  unfold typedE at hr
  by_cases hv : (validR t).2 = 0
  · rw [if_neg (Decidable.not_not.2 hv)] at hr
    generalize (validR t).1 = nm at s1
    rw [hv] at s1
    by_cases hgv : gvalid g = 0
    · have hG := gvalid_zero.1 hgv
      have hg1 := hG.nl
      have hg2 := hG.el
      rw [if_neg (Decidable.not_not.2 hgv)] at hr
      rw [hgv] at s2
      refine a_enter Tryz.func37 (by kernel_rfl) rfl Tryz.ntmps37 rfl (by simp) ?_
      refine a_seq ?_
      refine a_reg ?_
      repeat (first | refine gZ pk ?_ | (show AL _ _ _ _ _ _ _; first | refine jB (fun u => ?_)))
      refine a_frzBox 0 3 rfl rfl ?_
      refine a_frzBox 0 2 rfl rfl ?_
      repeat (first | refine gA pk ?_ | (show AL _ _ _ _ _ _ _; first | refine jP s1 ?_ | refine jP s2 ?_))
      refine a_loopX (fun k : Nat => [(2, tysP t), (3, grP g), (8, AI k)]) (fun _ => []) (fun k => k ≤ g.nodes.length ∧ ∀ x ∈ g.nodes.take k, decide ((t.nodes.length : Int) ≤ x) = false) (fun k => g.nodes.length - k) 0 ⟨Nat.zero_le _, by simp⟩ ?_ (OSub.none _) ?_
      · exact subQ
      · rintro k ⟨hk, hno⟩
        rcases Nat.lt_or_ge k g.nodes.length with h | h
        · have hx := List.getElem?_eq_getElem h
          generalize g.nodes[k] = y at hx
          have xk : (rowI g.nodes)[(k : Int).toNat]? = some [AI y] := map_get (f := cI) hx
          by_cases hy : (t.nodes.length : Int) ≤ y
          · rw [any_take_some (p := fun n => decide ((t.nodes.length : Int) ≤ n)) hx (decide_eq_true hy), if_pos rfl] at hr
            subst hr
            repeat (first | refine gA pk ?_ | (show AL _ _ _ _ _ _ _; first | refine jX tok xk ?_))
            refine finQ ?_
            exact ⟨rfl, rfl⟩
          · have hn := none_takeP (p := fun n => decide ((t.nodes.length : Int) ≤ n)) hno hx (decide_eq_false hy)
            repeat (first | refine gA pk ?_ | (show AL _ _ _ _ _ _ _; first | refine jX tok xk ?_))
            exact ⟨k + 1, ⟨by omega, hn⟩, by omega, by exact subQ, OSub.none _⟩
        · obtain rfl : k = g.nodes.length := by omega
          rw [List.take_length] at hno
          rw [any_take_none (p := fun n => decide ((t.nodes.length : Int) ≤ n)) hno, if_neg (by decide)] at hr
          repeat (first | refine gA pk ?_)
          refine a_loopX (fun k : Nat => [(2, tysP t), (3, grP g), (9, AI k)]) (fun _ => []) (fun k => k ≤ g.edges.length ∧ ∀ j, j < k → tyE t g j = 0) (fun k => g.edges.length - k) 0 ⟨Nat.zero_le _, fun j hj => (by omega)⟩ ?_ (OSub.none _) ?_
          · exact subQ
          · rintro k ⟨hk, hno⟩
            rcases Nat.lt_or_ge k g.edges.length with h | h
            · have hx := List.getElem?_eq_getElem h
              have hed := hG.edges _ (List.getElem_mem h)
              have hE := tyE_at (t := t) hx
              generalize g.edges[k] = y at hx hed hE
              obtain ⟨c1, c2, c3⟩ := y
              simp only at hed
              have xk : (g.edges.map cEd)[(k : Int).toNat]? = some [AI c1, AI c2, AI c3] := map_get (f := cEd) hx
              have xa : (rowI g.nodes)[c2.toNat]? = some [AI (nodeAt g c2)] := map_get (f := cI) (nodeAt_get hed.2.1.1 hed.2.1.2)
              have xb : (rowI g.nodes)[c3.toNat]? = some [AI (nodeAt g c3)] := map_get (f := cI) (nodeAt_get hed.2.2.1 hed.2.2.2)
              have s3 := refFits_spec t ht c1 (nodeAt g c2) (nodeAt g c3)
              unfold tyEd at hE
              simp only at hE
              generalize nodeAt g c2 = na at *
              generalize nodeAt g c3 = nb at *
              by_cases h1 : (t.edges.length : Int) ≤ c1
              · rw [if_pos h1] at hE
                rw [firstN_at hno h (by rw [hE]; decide), hE] at hr
                subst hr
                repeat (first | refine gA pk ?_ | (show AL _ _ _ _ _ _ _; first | refine jX tok xk ?_ | refine jL tok (fun u => ?_) | refine jS tok 0 ?_ | refine jO tok 0 ?_))
                refine finQ ?_
                exact ⟨rfl, rfl⟩
              · rw [if_neg h1] at hE
                cases hf : fitsR t c1 na nb with
                | false =>
                  rw [hf] at s3
                  rw [hf, if_pos rfl] at hE
                  rw [firstN_at hno h (by rw [hE]; decide), hE] at hr
                  subst hr
                  repeat (first | refine gN pk ?_ | (show AL _ _ _ _ _ _ _; first | refine jX tok xk ?_ | refine jL tok (fun u => ?_) | refine jS tok 0 ?_ | refine jO tok 0 ?_))
                  refine a_frzBox 0 10 rfl rfl ?_
                  repeat (first | refine gA pk ?_ | (show AL _ _ _ _ _ _ _; first | refine jX tok xa ?_ | refine jX tok xb ?_ | refine jP s3 ?_))
                  refine finQ ?_
                  exact ⟨rfl, rfl⟩
                | true =>
                  rw [hf] at s3
                  rw [hf, if_neg (by decide)] at hE
                  repeat (first | refine gN pk ?_ | (show AL _ _ _ _ _ _ _; first | refine jX tok xk ?_ | refine jL tok (fun u => ?_) | refine jS tok 0 ?_ | refine jO tok 0 ?_))
                  refine a_frzBox 0 10 rfl rfl ?_
                  repeat (first | refine gA pk ?_ | (show AL _ _ _ _ _ _ _; first | refine jX tok xa ?_ | refine jX tok xb ?_ | refine jP s3 ?_))
                  exact ⟨k + 1, ⟨by omega, fun j hj => by rcases Nat.lt_or_ge j k with hj' | hj'; exact hno j hj'; obtain rfl : j = k := by omega
                                                          exact hE⟩, by omega, by exact subQ, OSub.none _⟩
            · obtain rfl : k = g.edges.length := by omega
              rw [firstN_none hno] at hr
              subst hr
              repeat (first | refine gA pk ?_)
              refine finQ ?_
              exact ⟨rfl, rfl⟩
    · rw [if_pos hgv] at hr
      rw [hr] at s2 hgv
      refine a_enter Tryz.func37 (by kernel_rfl) rfl Tryz.ntmps37 rfl (by simp) ?_
      refine a_seq ?_
      refine a_reg ?_
      repeat (first | refine gZ pk ?_ | (show AL _ _ _ _ _ _ _; first | refine jB (fun u => ?_)))
      refine a_frzBox 0 3 rfl rfl ?_
      refine a_frzBox 0 2 rfl rfl ?_
      repeat (first | refine gA pk ?_ | (show AL _ _ _ _ _ _ _; first | refine jP s1 ?_ | refine jP s2 ?_))
      refine finQ ?_
      exact ⟨rfl, rfl⟩
  · rw [if_pos hv] at hr
    generalize (validR t).1 = nm at s1
    rw [hr] at s1 hv
    refine a_enter Tryz.func37 (by kernel_rfl) rfl Tryz.ntmps37 rfl (by simp) ?_
    refine a_seq ?_
    refine a_reg ?_
    repeat (first | refine gZ pk ?_ | (show AL _ _ _ _ _ _ _; first | refine jB (fun u => ?_)))
    refine a_frzBox 0 3 rfl rfl ?_
    refine a_frzBox 0 2 rfl rfl ?_
    repeat (first | refine gA pk ?_ | (show AL _ _ _ _ _ _ _; first | refine jP s1 ?_))
    refine finQ ?_
    exact ⟨rfl, rfl⟩
end Go.Proofs.YtcacbdohlfljfaaGreat
