/- Parts of a proof. -/
import Derived.Test.YtimfponihbfimaaGreatP42
import Derived.Test.YtimfponihbfimaaGreatP48
set_option linter.unusedVariables false
set_option linter.unusedSimpArgs false
section
namespace Go.Proofs.YtimfponihbfimaaGreat
open Go.Sj Go.Sj.Typ Go.Sj.Sta
set_option maxRecDepth 8000
set_option maxHeartbeats 8000000
theorem tyE_at {t : Tys} {g : Gr} {k : Nat} {e : Ed} (h : g.edges[k]? = some e) : tyE t g k = tyEd t g e := by simp only [tyE, h]
theorem refTyped_spec (t : Tys) (ht : Small t) (g : Gr) (hg : OkG g) : Pure Tryz.prog 70 [tysA t, grA g] (AI (typedE t g)) := by
  have ln : (rowI g.nodes).length = g.nodes.length := by simp
  have le : (g.edges.map cEd).length = g.edges.length := by simp
  have lt : (t.nodes.map cNod).length = t.nodes.length := by simp
  have lte : (t.edges.map cEdg).length = t.edges.length := by simp
  have htn := ht.nodes
  have hte := ht.edges
  have s1 := refValid_spec t ht
  have s2 := refgvalid_spec g hg
  obtain ⟨r, hr⟩ : ∃ r, typedE t g = r := ⟨_, rfl⟩
  rw [hr]
  unfold typedE at hr
  by_cases hv : (validR t).2 = 0
  · rw [if_neg (Decidable.not_not.2 hv)] at hr
    generalize (validR t).1 = nm at s1
    rw [hv] at s1
    by_cases hgv : gvalid g = 0
    · have hG := gvalid_zero.1 hgv
      have hg1 := hG.nl
      have hg2 := hG.el
      rw [if_neg (Decidable.not_not.2 hgv)] at hr
      rw [hgv] at s2
      refine zen Tryz.func70 (by kernel_rfl) rfl Tryz.ntmps70 rfl (by simp) ?_
      refine a_seq ?_
      refine a_reg ?_
      repeat (first | refine gZ pk ?_ | (show AL _ _ _ _ _ _ _; first | refine jB (fun u => ?_)))
      refine zfb 0 3 rfl rfl ?_
      refine zfb 0 2 rfl rfl ?_
      repeat (first | refine gA pk ?_ | (show AL _ _ _ _ _ _ _; first | refine jP s1 ?_ | refine jP s2 ?_))
      refine zlx (fun k : Nat => [(2, tysP t), (3, grP g), (8, AI k)]) (fun _ => []) (fun k => k ≤ g.nodes.length ∧ ∀ x ∈ g.nodes.take k, decide ((t.nodes.length : Int) ≤ x) = false) (fun k => g.nodes.length - k) 0 ⟨Nat.zero_le _, by simp⟩ ?_ (OSub.none _) ?_
      · exact subQ
      · rintro k ⟨hk, hno⟩
        rcases Nat.lt_or_ge k g.nodes.length with h | h
        · have hx := List.getElem?_eq_getElem h
          generalize g.nodes[k] = y at hx
          have xk : (rowI g.nodes)[(k : Int).toNat]? = some [AI y] := zmp (f := cI) hx
          by_cases hy : (t.nodes.length : Int) ≤ y
          · rw [any_take_some (p := fun n => decide ((t.nodes.length : Int) ≤ n)) hx (decide_eq_true hy), if_pos rfl] at hr
            subst hr
            repeat (first | refine gA pk ?_ | (show AL _ _ _ _ _ _ _; first | refine jX tok xk ?_))
            refine finQ ?_
            exact ⟨rfl, rfl⟩
          · have hn := none_takeP (p := fun n => decide ((t.nodes.length : Int) ≤ n)) hno hx (decide_eq_false hy)
            repeat (first | refine gA pk ?_ | (show AL _ _ _ _ _ _ _; first | refine jX tok xk ?_))
            exact ⟨k + 1, ⟨by omega, hn⟩, by omega, by exact subQ, OSub.none _⟩
        · obtain rfl : k = g.nodes.length := by omega
          rw [List.take_length] at hno
          rw [any_take_none (p := fun n => decide ((t.nodes.length : Int) ≤ n)) hno, if_neg (by decide)] at hr
          repeat (first | refine gA pk ?_)
          refine zlx (fun k : Nat => [(2, tysP t), (3, grP g), (9, AI k)]) (fun _ => []) (fun k => k ≤ g.edges.length ∧ ∀ j, j < k → tyE t g j = 0) (fun k => g.edges.length - k) 0 ⟨Nat.zero_le _, fun j hj => (by omega)⟩ ?_ (OSub.none _) ?_
          · exact subQ
          · rintro k ⟨hk, hno⟩
            rcases Nat.lt_or_ge k g.edges.length with h | h
            · have hx := List.getElem?_eq_getElem h
              have hed := hG.edges _ (List.getElem_mem h)
              have hE := tyE_at (t := t) hx
              generalize g.edges[k] = y at hx hed hE
              obtain ⟨c1, c2, c3⟩ := y
              simp only at hed
              have xk : (g.edges.map cEd)[(k : Int).toNat]? = some [AI c1, AI c2, AI c3] := zmp (f := cEd) hx
              have xa : (rowI g.nodes)[c2.toNat]? = some [AI (nodeAt g c2)] := zmp (f := cI) (nodeAt_get hed.2.1.1 hed.2.1.2)
              have xb : (rowI g.nodes)[c3.toNat]? = some [AI (nodeAt g c3)] := zmp (f := cI) (nodeAt_get hed.2.2.1 hed.2.2.2)
              have s3 := refFits_spec t ht c1 (nodeAt g c2) (nodeAt g c3)
              unfold tyEd at hE
              simp only at hE
              generalize nodeAt g c2 = na at *
              generalize nodeAt g c3 = nb at *
              by_cases h1 : (t.edges.length : Int) ≤ c1
              · rw [if_pos h1] at hE
                rw [firstN_at hno h (by rw [hE]; decide), hE] at hr
                subst hr
                repeat (first | refine gA pk ?_ | (show AL _ _ _ _ _ _ _; first | refine jX tok xk ?_ | refine jL tok (fun u => ?_) | refine jS tok 0 ?_ | refine jO tok 0 ?_))
                refine finQ ?_
                exact ⟨rfl, rfl⟩
              · rw [if_neg h1] at hE
                cases hf : fitsR t c1 na nb with
                | false =>
                  rw [hf] at s3
                  rw [hf, if_pos rfl] at hE
                  rw [firstN_at hno h (by rw [hE]; decide), hE] at hr
                  subst hr
                  repeat (first | refine gN pk ?_ | (show AL _ _ _ _ _ _ _; first | refine jX tok xk ?_ | refine jL tok (fun u => ?_) | refine jS tok 0 ?_ | refine jO tok 0 ?_))
                  refine zfb 0 10 rfl rfl ?_
                  repeat (first | refine gA pk ?_ | (show AL _ _ _ _ _ _ _; first | refine jX tok xa ?_ | refine jX tok xb ?_ | refine jP s3 ?_))
                  refine finQ ?_
                  exact ⟨rfl, rfl⟩
                | true =>
                  rw [hf] at s3
                  rw [hf, if_neg (by decide)] at hE
                  repeat (first | refine gN pk ?_ | (show AL _ _ _ _ _ _ _; first | refine jX tok xk ?_ | refine jL tok (fun u => ?_) | refine jS tok 0 ?_ | refine jO tok 0 ?_))
                  refine zfb 0 10 rfl rfl ?_
                  repeat (first | refine gA pk ?_ | (show AL _ _ _ _ _ _ _; first | refine jX tok xa ?_ | refine jX tok xb ?_ | refine jP s3 ?_))
                  exact ⟨k + 1, ⟨by omega, fun j hj => by rcases Nat.lt_or_ge j k with hj' | hj'; exact hno j hj'; obtain rfl : j = k := by omega
                                                          exact hE⟩, by omega, by exact subQ, OSub.none _⟩
            · obtain rfl : k = g.edges.length := by omega
              rw [firstN_none hno] at hr
              subst hr
              repeat (first | refine gA pk ?_)
              refine finQ ?_
              exact ⟨rfl, rfl⟩
    · rw [if_pos hgv] at hr
      rw [hr] at s2 hgv
      refine zen Tryz.func70 (by kernel_rfl) rfl Tryz.ntmps70 rfl (by simp) ?_
      refine a_seq ?_
      refine a_reg ?_
      repeat (first | refine gZ pk ?_ | (show AL _ _ _ _ _ _ _; first | refine jB (fun u => ?_)))
      refine zfb 0 3 rfl rfl ?_
      refine zfb 0 2 rfl rfl ?_
      repeat (first | refine gA pk ?_ | (show AL _ _ _ _ _ _ _; first | refine jP s1 ?_ | refine jP s2 ?_))
      refine finQ ?_
      exact ⟨rfl, rfl⟩
  · rw [if_pos hv] at hr
    generalize (validR t).1 = nm at s1
    rw [hr] at s1 hv
    refine zen Tryz.func70 (by kernel_rfl) rfl Tryz.ntmps70 rfl (by simp) ?_
    refine a_seq ?_
    refine a_reg ?_
    repeat (first | refine gZ pk ?_ | (show AL _ _ _ _ _ _ _; first | refine jB (fun u => ?_)))
    refine zfb 0 3 rfl rfl ?_
    refine zfb 0 2 rfl rfl ?_
    repeat (first | refine gA pk ?_ | (show AL _ _ _ _ _ _ _; first | refine jP s1 ?_))
    refine finQ ?_
    exact ⟨rfl, rfl⟩
end Go.Proofs.YtimfponihbfimaaGreat
end
section
namespace Go.Proofs.YtimfponihbfimaaGreat
open Go.Sj Go.Sj.Typ Go.Sj.Sta
set_option maxRecDepth 8000
set_option maxHeartbeats 8000000
abbrev SN0 : AV := .lit (.slice none 0 0)
theorem nil_cnts : Sub SN0 (cntsA []) := Sub.nil 4
theorem smN_sm {c : Cnt} (h : smN c) : smC c := by unfold smN at h; unfold smC; omega
theorem refOf_spec (t : Tys) (ht : Small t) (g : Gr) (hg : OkG g) : Pure Tryz.prog 30 [tysA t, grA g] (.tup [staA (ofR t g).1, AI (ofR t g).2]) := by
  have ln : (rowI g.nodes).length = g.nodes.length := by simp
  have le : (g.edges.map cEd).length = g.edges.length := by simp
  have s1 := refTyped_spec t ht g hg
  unfold ofR
  by_cases he : typedE t g = 0
  · have hT := typedE_zero.1 he
    have hG := hT.graph
    have hg1 := hG.nl
    have hg2 := hG.el
    rw [he] at s1
    rw [if_neg (Decidable.not_not.2 he)]
    refine a_enterM (rs := [.cell 4 64, .tmp 5]) tok Tryz.func30 (by kernel_rfl) rfl Tryz.ntmps30 rfl (by decide) (by simp) ?_
    refine a_seq ?_
    refine a_reg ?_
    repeat (first | refine gZ pk ?_ | (show AL _ _ _ _ _ _ _; first | refine jB (fun u => ?_) | refine jL tok (fun u4 => ?_)))
    refine zfb 1 3 rfl rfl ?_
    refine zfb 1 2 rfl rfl ?_
    repeat (first | refine gA pk ?_ | (show AL _ _ _ _ _ _ _; first | refine jP s1 ?_ | refine jL tok (fun u7 => ?_)))
    refine a_loopG (fun k : Nat => [(3, grP g), (4, .pt u4 0 0 0), (7, .pt u7 0 0 0), (8, AI k)]) (fun k => [(u7, .box [cntsA (ofN g (g.nodes.take k)), SN0]), (u4, .box [SN0, SN0])]) (fun k => k ≤ g.nodes.length) (fun k => g.nodes.length - k) 0 (Nat.zero_le _) (GoTo.weak (by exact subQ) ⟨rfl, ⟨nil_cnts, Sub.refl _, trivial⟩, rfl, ⟨Sub.refl _, Sub.refl _, trivial⟩, trivial⟩) ?_
    intro k hk
    rcases Nat.lt_or_ge k g.nodes.length with h | h
    · have hx := List.getElem?_eq_getElem h
      generalize g.nodes[k] = y at hx
      have xk : (rowI g.nodes)[(k : Int).toNat]? = some [AI y] := zmp (f := cI) hx
      have hlen : (ofN g (g.nodes.take k)).length ≤ 40 := by have := ofN_len g (g.nodes.take k); rw [List.length_take] at this; omega
      have hm := ofN_small g (l := g.nodes.take k) (fun n hn => hG.nodes n (List.mem_of_mem_take hn)) (by rw [List.length_take]; omega)
      have hsn := ofN_snoc g hx
      have s2 := refchange_spec (ofN g (g.nodes.take k)) (ofN_srt g _) (by omega) (fun c hc => ⟨smN_sm (hm c hc).1, (hm c hc).2⟩) y 0 0 0 1 (by have := hG.nodes _ (List.mem_of_getElem? hx); unfold smC; simp only; omega) (.inl rfl)
      repeat (first | refine gN pk ?_)
      refine a_regRO [0, 1, 2, 3, 4, 5, 6, 7, 8, 9, 10] mixed rfl rfl (by decide +kernel) ?_
      repeat (first | refine gY pk ?_ | (show AL _ _ _ _ _ _ _; first | refine jX tok xk ?_ | refine jO tok 0 ?_ | refine jP s2 ?_ | refine jS tok 0 ?_))
      repeat (first | refine gA pk ?_)
      refine ⟨k + 1, by omega, by omega, GoTo.sub (by exact subQ) ?_⟩
      rw [hsn]
      exact OSub.refl _
    · obtain rfl : k = g.nodes.length := by omega
      rw [List.take_length]
      repeat (first | refine gA pk ?_)
      refine a_loopG (fun k : Nat => [(3, grP g), (4, .pt u4 0 0 0), (7, .pt u7 0 0 0), (9, AI k)]) (fun k => [(u7, .box [cntsA (ofN g g.nodes), cntsA (ofE g (g.edges.take k))]), (u4, .box [SN0, SN0])]) (fun k => k ≤ g.edges.length) (fun k => g.edges.length - k) 0 (Nat.zero_le _) (GoTo.weak (by exact subQ) ⟨rfl, ⟨Sub.refl _, nil_cnts, trivial⟩, rfl, ⟨Sub.refl _, Sub.refl _, trivial⟩, trivial⟩) ?_
      intro k hk
      rcases Nat.lt_or_ge k g.edges.length with h | h
      · have hx := List.getElem?_eq_getElem h
        have hed := hG.edges _ (List.getElem_mem h)
        have hsn := ofE_snoc g hx
        generalize g.edges[k] = y at hx hed hsn
        obtain ⟨c1, c2, c3⟩ := y
        simp only at hed
        have xk : (g.edges.map cEd)[(k : Int).toNat]? = some [AI c1, AI c2, AI c3] := zmp (f := cEd) hx
        have xa : (rowI g.nodes)[c2.toNat]? = some [AI (nodeAt g c2)] := zmp (f := cI) (nodeAt_get hed.2.1.1 hed.2.1.2)
        have xb : (rowI g.nodes)[c3.toNat]? = some [AI (nodeAt g c3)] := zmp (f := cI) (nodeAt_get hed.2.2.1 hed.2.2.2)
        have ra := hG.nodes _ (nodeAt_mem (g := g) hed.2.1.1 hed.2.1.2)
        have rb := hG.nodes _ (nodeAt_mem (g := g) hed.2.2.1 hed.2.2.2)
        have hlen : (ofE g (g.edges.take k)).length ≤ 80 := by have := ofE_len g (g.edges.take k); rw [List.length_take] at this; omega
        have hm := ofE_small g (l := g.edges.take k) (fun e he => by
          have h5 := hG.edges e (List.mem_of_mem_take he)
          exact ⟨h5.1, hG.nodes _ (nodeAt_mem h5.2.1.1 h5.2.1.2), hG.nodes _ (nodeAt_mem h5.2.2.1 h5.2.2.2)⟩) (by rw [List.length_take]; omega)
        have hsn : ofE g (g.edges.take (k + 1)) = addC (ofE g (g.edges.take k)) ⟨c1, nodeAt g c2, nodeAt g c3, 1⟩ := hsn
        generalize nodeAt g c2 = na at *
        generalize nodeAt g c3 = nb at *
        have s2 := refchange_spec (ofE g (g.edges.take k)) (ofE_srt g _) (by omega) (fun c hc => ⟨smN_sm (hm c hc).1, (hm c hc).2⟩) c1 na nb 0 1 (by unfold smC; simp only; omega) (.inl rfl)
        repeat (first | refine gN pk ?_ | (show AL _ _ _ _ _ _ _; first | refine jX tok xk ?_ | refine jL tok (fun u => ?_) | refine jS tok 0 ?_ | refine jO tok 0 ?_))
        refine zfb 0 10 rfl rfl ?_
        refine a_regRO [0, 1, 2, 3, 4, 5, 6, 7, 8, 9, 10, 11, 12, 13, 14, 15, 16, 17, 18, 19] mixed rfl rfl (by decide +kernel) ?_
        repeat (first | refine gY pk ?_ | (show AL _ _ _ _ _ _ _; first | refine jX tok xa ?_ | refine jX tok xb ?_ | refine jO tok 0 ?_ | refine jP s2 ?_ | refine jS tok 0 ?_))
        repeat (first | refine gA pk ?_)
        refine ⟨k + 1, by omega, by omega, GoTo.sub (by exact subQ) ?_⟩
        rw [hsn]
        exact OSub.refl _
      · obtain rfl : k = g.edges.length := by omega
        rw [List.take_length]
        repeat (first | refine gV pk ?_ | (show AL _ _ _ _ _ _ _; first | refine jO tok 0 ?_ | refine jS tok 1 ?_))
        refine zfb 1 4 rfl rfl ?_
        refine a_ret ?_
        exact ⟨.inr rfl, _, _, [], rfl, Turn.of (Sub.refl _) (OSub.none _), rfl, rfl⟩
  · rw [if_pos he]
    generalize typedE t g = e at *
    refine a_enterM (rs := [.cell 4 64, .tmp 5]) tok Tryz.func30 (by kernel_rfl) rfl Tryz.ntmps30 rfl (by decide) (by simp) ?_
    refine a_seq ?_
    refine a_reg ?_
    repeat (first | refine gZ pk ?_ | (show AL _ _ _ _ _ _ _; first | refine jB (fun u => ?_) | refine jL tok (fun u4 => ?_)))
    refine zfb 1 3 rfl rfl ?_
    refine zfb 1 2 rfl rfl ?_
    repeat (first | refine gV pk ?_ | (show AL _ _ _ _ _ _ _; first | refine jP s1 ?_ | refine jS tok 0 ?_))
    refine zfb 0 4 rfl rfl ?_
    refine a_ret ?_
    exact ⟨.inr rfl, _, .tup [staA ⟨[], []⟩, AI e], [], rfl, Turn.of (Sub.tup (l := [.agg [SN0, SN0], AI e]) ⟨Sub.agg (m := [cntsA [], cntsA []]) ⟨nil_cnts, nil_cnts, trivial⟩, Sub.refl _, trivial⟩) (OSub.none _), rfl, rfl⟩
end Go.Proofs.YtimfponihbfimaaGreat
end
section
namespace Go.Proofs.YtimfponihbfimaaGreat
open Go.Sj Go.Sj.Typ
set_option maxRecDepth 8000
set_option maxHeartbeats 4000000
def exTys : Tys := ⟨[⟨⟨#[65, 99, 99, 111, 117, 110, 116]⟩, -1, true, [⟨⟨#[98, 97, 108, 97, 110, 99, 101]⟩, -1000, 1000, []⟩]⟩, ⟨⟨#[67, 97, 115, 104]⟩, 0, false, []⟩,
  ⟨⟨#[76, 111, 97, 110]⟩, 0, false, [⟨⟨#[115, 116, 97, 116, 101]⟩, 0, 1, [⟨#[111, 112, 101, 110]⟩, ⟨#[99, 108, 111, 115, 101, 100]⟩]⟩]⟩, ⟨⟨#[80, 101, 114, 115, 111, 110]⟩, -1, false, []⟩],
  [⟨⟨#[111, 119, 110, 115]⟩, 3, 0, 0, -1, 1, 1⟩, ⟨⟨#[112, 97, 121, 115]⟩, 1, 1, 0, -1, 0, -1⟩]⟩
theorem exSmall : Small exTys := ⟨by decide, by decide, by decide, by decide⟩
def exRaw : AV := .agg [.im 4 [[AS ⟨#[65, 99, 99, 111, 117, 110, 116]⟩, AI (-1), AB true, .im 4 [[AS ⟨#[98, 97, 108, 97, 110, 99, 101]⟩, AI (-1000), AI 1000, .lit (.slice none 0 0)]]],
  [AS ⟨#[67, 97, 115, 104]⟩, AI 0, AB false, .lit (.slice none 0 0)],
  [AS ⟨#[76, 111, 97, 110]⟩, AI 0, AB false, .im 4 [[AS ⟨#[115, 116, 97, 116, 101]⟩, AI 0, AI 1, .im 1 [[AS ⟨#[111, 112, 101, 110]⟩], [AS ⟨#[99, 108, 111, 115, 101, 100]⟩]]]]],
  [AS ⟨#[80, 101, 114, 115, 111, 110]⟩, AI (-1), AB false, .lit (.slice none 0 0)]],
  .im 7 [[AS ⟨#[111, 119, 110, 115]⟩, AI 3, AI 0, AI 0, AI (-1), AI 1, AI 1], [AS ⟨#[112, 97, 121, 115]⟩, AI 1, AI 1, AI 0, AI (-1), AI 0, AI (-1)]]]
theorem exSub : Sub exRaw (tysA exTys) :=
  Sub.agg ⟨Sub.im ⟨⟨Sub.refl _, Sub.refl _, Sub.refl _, Sub.im ⟨⟨Sub.refl _, Sub.refl _, Sub.refl _, Sub.nil 1, trivial⟩, trivial⟩, trivial⟩,
    ⟨Sub.refl _, Sub.refl _, Sub.refl _, Sub.nil 4, trivial⟩, ⟨Sub.refl _, Sub.refl _, Sub.refl _, Sub.refl _, trivial⟩, ⟨Sub.refl _, Sub.refl _, Sub.refl _, Sub.nil 4, trivial⟩, trivial⟩, Sub.refl _, trivial⟩
theorem Example_spec : Pure Tryz.prog 35 [] (tysA exTys) := by
  refine a_enterC Tryz.func35 (by kernel_rfl) rfl Tryz.ntmps35 rfl (tok _ _ rfl) (by simp) ?_
  repeat (first | refine gV pk ?_ | (show AL _ _ _ _ _ _ _; first | refine jL tok (fun u => ?_) | refine s_frzNow 0 rfl rfl rfl (s_build tok rfl rfl rfl rfl rfl rfl rfl rfl (by decide) (by decide) (fun v => AL.nil ⟨v, rfl, rfl, rfl⟩)) ?_ | refine jS tok 0 ?_))
  refine zfb 0 0 rfl rfl ?_
  refine a_ret ?_
  exact ⟨.inr rfl, _, exRaw, _, _, rfl, rfl, Turn.of exSub (OSub.refl _), rfl, rfl⟩
end Go.Proofs.YtimfponihbfimaaGreat
end
section
namespace Go.Proofs.YtimfponihbfimaaGreat
open Go.Sj Go.Sj.Typ Go.Sj.Sta
set_option maxRecDepth 8000
set_option maxHeartbeats 8000000
def exG : Gr := ⟨[3, 1, 1], [⟨0, 0, 1⟩, ⟨0, 0, 2⟩]⟩
def exS : Sta := ⟨[⟨1, 0, 0, 2⟩, ⟨3, 0, 0, 1⟩], [⟨0, 3, 1, 2⟩]⟩
theorem exOf : ofR exTys exG = (exS, 0) := by kernel_rfl
end Go.Proofs.YtimfponihbfimaaGreat
end
section
namespace Go.Proofs.YtimfponihbfimaaGreat
open Go.Sj Go.Sj.Typ Go.Sj.Sta Go.Sj.Inc Go.Sj.Pln
set_option maxRecDepth 8000
set_option maxHeartbeats 16000000
def exPn : Gr := ⟨[3, 0], [⟨0, 0, 1⟩]⟩
def exPl : List Opn := [⟨1, 0⟩, ⟨2, 0⟩]
theorem exPricE : pricE exTys exS exPn = 0 := by decide +kernel
theorem exBestL : (bestB exTys exS exPn).l = exPl := by decide +kernel
theorem exBestC : (bestB exTys exS exPn).c = 3 := by decide +kernel
theorem exBest : bestR exTys exS exPn = (exPl, 3, 0) := by
  unfold bestR
  rw [if_neg (Decidable.not_not.2 exPricE), if_neg (by decide), exBestL, exBestC]
theorem exValidS : validS exTys exPn exG = 0 := by decide +kernel
theorem exPlanE : planE exPn (kn0 exPn) exPl = 0 := by decide +kernel
theorem exRunM : runM (extM (seaA exTys exPn exG true)) [noMo exPn] exPl = some ([([0, 1], [0]), ([0, 2], [1])], [1, 2]) := by decide +kernel
theorem exRun : ∃ l : List Mo, l.length = 2 ∧ runR exTys exPn exG exPl true = (l, [1, 2], 0) := by
  unfold runR
  rw [if_neg (Decidable.not_not.2 exValidS), if_neg (Decidable.not_not.2 exPlanE), exRunM]
  exact ⟨srtL [([0, 1], [0]), ([0, 2], [1])], (srtL_perm _).length_eq, rfl⟩
theorem example_spec : Pure Tryz.prog 36 [] (.tup [grA exPn, grA exG]) := by
  refine a_enterM (rs := [.cell 0 29, .cell 1 29]) tok Tryz.func36 (by kernel_rfl) rfl Tryz.ntmps36 rfl (by decide) (by simp) ?_
  repeat (first | refine gV pk ?_ | (show AL _ _ _ _ _ _ _; first | refine s_frzNow 0 rfl rfl rfl (s_build tok rfl rfl rfl rfl rfl rfl rfl rfl (by decide) (by decide) (fun v => AL.nil ⟨v, rfl, rfl, rfl⟩)) ?_ | refine jL tok (fun uq => ?_) | refine jS tok 0 ?_ | refine jO tok 0 ?_ | refine jS tok 1 ?_ | refine jS tok 2 ?_))
  refine zfb 2 0 rfl rfl ?_
  refine zfb 1 1 rfl rfl ?_
  refine a_ret ?_
  exact ⟨.inr rfl, _, _, [], rfl, Turn.of (Sub.refl _) (OSub.none _), rfl, rfl⟩
theorem awakeP_spec : Pure Tryz.prog 11 [] (AB true) := by
  have s0 := Example_spec
  have s1 := example_spec
  have s2 := refOf_spec exTys exSmall exG ⟨by decide, by decide⟩
  rw [exOf] at s2
  have s3 := best_spec exTys exSmall exS ⟨by decide, by decide⟩ exPn ⟨by decide, by decide⟩
  rw [exBest] at s3
  have s4 := prun_spec exTys exSmall exPn exG ⟨by decide, by decide⟩ ⟨by decide, by decide⟩ exPl (by decide) true
  obtain ⟨L, hL, hr⟩ := exRun
  rw [hr] at s4
  have s5 := gSameOps_spec exPl exPl (by decide) (by decide)
  rw [decide_eq_true rfl] at s5
  have s6 := Equal_spec [1, 2] [1, 2] (by decide) (by decide)
  rw [decide_eq_true rfl] at s6
  have lm : (L.map cMo).length = 2 := by rw [List.length_map, hL]
  clear hr
  change Pure _ _ _ (.tup [opsA exPl, AI 3, AI 0]) at s3
  generalize exTys.nodes = N at *
  generalize exTys.edges = E at *
  generalize exPn.nodes = PN at *
  generalize exPn.edges = PE at *
  generalize exG.nodes = GN at *
  generalize exG.edges = GE at *
  generalize exS.nodes = SN at *
  generalize exS.edges = SE at *
  refine zen Tryz.func11 (by kernel_rfl) rfl Tryz.ntmps11 rfl (by simp) ?_
  repeat (first | refine gA pk ?_ | (show AL _ _ _ _ _ _ _; first | refine jP s0 ?_ | refine jP s1 ?_ | refine jP s2 ?_ | refine jP s3 ?_ | refine jP s4 ?_ | refine jP s5 ?_ | refine jP s6 ?_ | refine s_frzNow 0 rfl rfl rfl (s_build tok rfl rfl rfl rfl rfl rfl rfl rfl (by decide) (by decide) (fun v => AL.nil ⟨v, rfl, rfl, rfl⟩)) ?_ | refine jL tok (fun u => ?_) | refine jS tok 0 ?_ | refine jS tok 1 ?_ | refine jO tok 0 ?_ | refine jO tok 1 ?_ | refine jO tok 2 ?_ | refine jO tok 3 ?_))
  refine finQ ?_
  exact ⟨rfl, rfl⟩
end Go.Proofs.YtimfponihbfimaaGreat
end
