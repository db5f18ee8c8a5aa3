/- Parts of a proof. -/
import Derived.Test.YtddohheabpiljaaGreatU25
set_option linter.unusedVariables false
set_option linter.unusedSimpArgs false
section
namespace Go.Proofs.YtddohheabpiljaaGreat
open Go.Sj Go.Sj.Typ Go.Sj.Sta Go.Sj.Inc
set_option maxRecDepth 8000
set_option maxHeartbeats 16000000
theorem gnodes_rec (t : Tys) (ht : Small t) (hv : (validR t).2 = 0) (S : Sea) (hS : SeaT t S) (a b : List Int) (ha : S.pn = some a) (hb : S.pe = some b) (most : Nat) (hmost : most ≤ 10000) : ∀ (m : Nat) (ns : List Int), m = S.p.nodes.length - ns.length → ns.length ≤ S.p.nodes.length → ∀ (u vo : Value) (out : List Mo), out.length ≤ most + 1 →
    ACalls Tryz.prog 108 [.pt u 0 0 0, ints ns] (roL 95 t S a b most u vo out) (fun y M => ∃ vo', y = .tup [] ∧ M = roL 95 t S a b most u vo' ((out ++ findL S (m + S.p.edges.length) ns []).take (most + 1))) := by
  have hgn := hS.g.nl
  have hge := hS.g.el
  have hpn := hS.p.nl
  have hpe := hS.p.el
  have hal := hS.pn a ha
  have htn := ht.nodes
  have hPR : PR t.nodes t.nodes.length := pr_of (validR_zero.1 hv).2.2.2.1
  have lpn : (rowI S.p.nodes).length = S.p.nodes.length := by simp
  have lgn : (rowI S.g.nodes).length = S.g.nodes.length := by simp
  have la : (rowI a).length = a.length := by simp
  intro m
  induction m with
  | zero =>
    intro ns hm hn u vo out ho
    have lns : (rowI ns).length = ns.length := by simp
    have lo : (out.map cMo).length = out.length := by simp
    have sf := ACalls.lendA (L := roL 95 t S a b most u vo out) (args' := [.pt u 0 0 0, ints ns]) (gfits_rec t S hS.toSeaOk a b most (mosA out) ns (by omega)) ⟨ro_fv _ t S a b most u vo out, FV.refl _, trivial⟩ fd_free
    have se := gedges_rec t S hS.toSeaOk a b hb most hmost ns (by omega) S.p.edges.length [] rfl (Nat.zero_le _) u vo out ho
    have hdead : gfitB S ns = false → findL S (0 + S.p.edges.length) ns [] = [] := fun h => gfit_dead hS.p h (by unfold remS; simp; omega) hn rfl
    rw [Nat.zero_add] at hdead ⊢
    rcases Nat.lt_or_ge most out.length with h | h
    · rw [List.take_left' (l₁ := out) (by omega)]
      refine zen Tryz.func108 (by kernel_rfl) rfl Tryz.ntmps108 rfl (by simp) ?_
      repeat (first | refine gN pk ?_)
      refine zrg ((List.range 16).map fun i => if inL [13] i = true then .eff else if inL [3, 4, 8] i = true then .read else .pure) [] [0, 1, 2, 3, 4, 5, 6, 7, 8, 9, 10, 11, 12, 13, 14, 15] .stop mixed rfl rfl (by decide +kernel) ?_
      repeat' (first | (with_reducible show AG _ _ _ _ _ _ _ _ _ _; first | exact zgn | refine zgs ?_ | refine znd ?_ ?_) | (show AMid _ _ _ _; first | refine zmf ?_ | refine zmg (by first | exact OSub.refl _ | exact .drop (OSub.refl _) | exact .drop (.drop (OSub.refl _))) ?_) | refine gY pk ?_ | (show AL _ _ _ _ _ _ _; first | refine jO tok 0 ?_ | refine zol tok 1 rfl rfl rfl rfl (by decide) rfl rfl rfl ?_) | fail)
      repeat (first | refine gA pk ?_)
      exact fin (x := .tup []) (.inr rfl) rfl (Sub.refl _) ⟨_, rfl, rfl⟩ (OSub.refl _)
    · generalize gfitB S ns = gb at *
      cases gb with
      | false =>
        rw [hdead rfl, List.append_nil, List.take_of_length_le (by omega)]
        refine zen Tryz.func108 (by kernel_rfl) rfl Tryz.ntmps108 rfl (by simp) ?_
        repeat (first | refine gN pk ?_)
        refine zrg ((List.range 16).map fun i => if inL [13] i = true then .eff else if inL [3, 4, 8] i = true then .read else .pure) [] [0, 1, 2, 3, 4, 5, 6, 7, 8, 9, 10, 11, 12, 13, 14, 15] .stop mixed rfl rfl (by decide +kernel) ?_
        repeat' (first | (with_reducible show AG _ _ _ _ _ _ _ _ _ _; first | exact zgn | refine zgs ?_ | refine znd ?_ ?_) | (show AMid _ _ _ _; first | refine zmf ?_ | refine zmg (by first | exact OSub.refl _ | exact .drop (OSub.refl _) | exact .drop (.drop (OSub.refl _))) ?_) | refine gY pk ?_ | (show AL _ _ _ _ _ _ _; first | refine jO tok 0 ?_ | refine zol tok 1 rfl rfl rfl rfl (by decide) rfl rfl rfl ?_ | refine zsc (Lc := roL 95 t S a b most u vo out) (Lr := []) rfl rfl rfl rfl rfl sf (SubL.of_eq rfl) (List.Perm.refl _) ?_; rintro _ _ ⟨⟨rfl, -⟩, rfl⟩) | fail)
        repeat (first | refine gA pk ?_)
        exact fin (x := .tup []) (.inr rfl) rfl (Sub.refl _) ⟨_, rfl, rfl⟩ (OSub.refl _)
      | true =>
        refine zen Tryz.func108 (by kernel_rfl) rfl Tryz.ntmps108 rfl (by simp) ?_
        repeat (first | refine gN pk ?_)
        refine zrg ((List.range 16).map fun i => if inL [13] i = true then .eff else if inL [3, 4, 8] i = true then .read else .pure) [] [0, 1, 2, 3, 4, 5, 6, 7, 8, 9, 10, 11, 12, 13, 14, 15] .stop mixed rfl rfl (by decide +kernel) ?_
        repeat' (first | (with_reducible show AG _ _ _ _ _ _ _ _ _ _; first | exact zgn | refine zgs ?_ | refine znd ?_ ?_) | (show AMid _ _ _ _; first | refine zmf ?_ | refine zmg (by first | exact OSub.refl _ | exact .drop (OSub.refl _) | exact .drop (.drop (OSub.refl _))) ?_) | refine gY pk ?_ | (show AL _ _ _ _ _ _ _; first | refine jO tok 0 ?_ | refine zol tok 1 rfl rfl rfl rfl (by decide) rfl rfl rfl ?_ | refine zsc (Lc := roL 95 t S a b most u vo out) (Lr := []) rfl rfl rfl rfl rfl sf (SubL.of_eq rfl) (List.Perm.refl _) ?_; rintro _ _ ⟨⟨rfl, -⟩, rfl⟩) | fail)
        repeat (first | refine gA pk ?_ | (show AL _ _ _ _ _ _ _; first | refine jO tok 0 ?_ | refine zsc (Lc := roL 95 t S a b most u vo out) (Lr := []) rfl rfl rfl rfl rfl se ⟨Sub.refl _, Sub.refl _, Sub.nil 1, trivial⟩ (List.Perm.refl _) ?_; rintro _ _ ⟨vo2, rfl, rfl⟩))
        exact fin (x := .tup []) (.inr rfl) rfl (Sub.refl _) ⟨_, rfl, rfl⟩ (OSub.refl _)
  | succ m ih =>
    intro ns hm hn u vo out ho
    have lns : (rowI ns).length = ns.length := by simp
    have lo : (out.map cMo).length = out.length := by simp
    have hlt : ns.length < S.p.nodes.length := by omega
    have sf := ACalls.lendA (L := roL 95 t S a b most u vo out) (args' := [.pt u 0 0 0, ints ns]) (gfits_rec t S hS.toSeaOk a b most (mosA out) ns (by omega)) ⟨ro_fv _ t S a b most u vo out, FV.refl _, trivial⟩ fd_free
    have hdead : gfitB S ns = false → findL S (m + 1 + S.p.edges.length) ns [] = [] := fun h => gfit_dead hS.p h (by unfold remS; simp; omega) hn rfl
    rw [show m + 1 + S.p.edges.length = m + S.p.edges.length + 1 by omega] at hdead ⊢
    rcases Nat.lt_or_ge most out.length with h | h
    · rw [List.take_left' (l₁ := out) (by omega)]
      refine zen Tryz.func108 (by kernel_rfl) rfl Tryz.ntmps108 rfl (by simp) ?_
      repeat (first | refine gN pk ?_)
      refine zrg ((List.range 16).map fun i => if inL [13] i = true then .eff else if inL [3, 4, 8] i = true then .read else .pure) [] [0, 1, 2, 3, 4, 5, 6, 7, 8, 9, 10, 11, 12, 13, 14, 15] .stop mixed rfl rfl (by decide +kernel) ?_
      repeat' (first | (with_reducible show AG _ _ _ _ _ _ _ _ _ _; first | exact zgn | refine zgs ?_ | refine znd ?_ ?_) | (show AMid _ _ _ _; first | refine zmf ?_ | refine zmg (by first | exact OSub.refl _ | exact .drop (OSub.refl _) | exact .drop (.drop (OSub.refl _))) ?_) | refine gY pk ?_ | (show AL _ _ _ _ _ _ _; first | refine jO tok 0 ?_ | refine zol tok 1 rfl rfl rfl rfl (by decide) rfl rfl rfl ?_) | fail)
      repeat (first | refine gA pk ?_)
      exact fin (x := .tup []) (.inr rfl) rfl (Sub.refl _) ⟨_, rfl, rfl⟩ (OSub.refl _)
    · generalize gfitB S ns = gb at *
      cases gb with
      | false =>
        rw [hdead rfl, List.append_nil, List.take_of_length_le (by omega)]
        refine zen Tryz.func108 (by kernel_rfl) rfl Tryz.ntmps108 rfl (by simp) ?_
        repeat (first | refine gN pk ?_)
        refine zrg ((List.range 16).map fun i => if inL [13] i = true then .eff else if inL [3, 4, 8] i = true then .read else .pure) [] [0, 1, 2, 3, 4, 5, 6, 7, 8, 9, 10, 11, 12, 13, 14, 15] .stop mixed rfl rfl (by decide +kernel) ?_
        repeat' (first | (with_reducible show AG _ _ _ _ _ _ _ _ _ _; first | exact zgn | refine zgs ?_ | refine znd ?_ ?_) | (show AMid _ _ _ _; first | refine zmf ?_ | refine zmg (by first | exact OSub.refl _ | exact .drop (OSub.refl _) | exact .drop (.drop (OSub.refl _))) ?_) | refine gY pk ?_ | (show AL _ _ _ _ _ _ _; first | refine jO tok 0 ?_ | refine zol tok 1 rfl rfl rfl rfl (by decide) rfl rfl rfl ?_ | refine zsc (Lc := roL 95 t S a b most u vo out) (Lr := []) rfl rfl rfl rfl rfl sf (SubL.of_eq rfl) (List.Perm.refl _) ?_; rintro _ _ ⟨⟨rfl, -⟩, rfl⟩) | fail)
        repeat (first | refine gA pk ?_)
        exact fin (x := .tup []) (.inr rfl) rfl (Sub.refl _) ⟨_, rfl, rfl⟩ (OSub.refl _)
      | true =>
        clear hdead
        rw [findL_nodes hlt]
        refine zen Tryz.func108 (by kernel_rfl) rfl Tryz.ntmps108 rfl (by simp) ?_
        repeat (first | refine gN pk ?_)
        refine zrg ((List.range 16).map fun i => if inL [13] i = true then .eff else if inL [3, 4, 8] i = true then .read else .pure) [] [0, 1, 2, 3, 4, 5, 6, 7, 8, 9, 10, 11, 12, 13, 14, 15] .stop mixed rfl rfl (by decide +kernel) ?_
        repeat' (first | (with_reducible show AG _ _ _ _ _ _ _ _ _ _; first | exact zgn | refine zgs ?_ | refine znd ?_ ?_) | (show AMid _ _ _ _; first | refine zmf ?_ | refine zmg (by first | exact OSub.refl _ | exact .drop (OSub.refl _) | exact .drop (.drop (OSub.refl _))) ?_) | refine gY pk ?_ | (show AL _ _ _ _ _ _ _; first | refine jO tok 0 ?_ | refine zol tok 1 rfl rfl rfl rfl (by decide) rfl rfl rfl ?_ | refine zsc (Lc := roL 95 t S a b most u vo out) (Lr := []) rfl rfl rfl rfl rfl sf (SubL.of_eq rfl) (List.Perm.refl _) ?_; rintro _ _ ⟨⟨rfl, -⟩, rfl⟩) | fail)
        repeat (first | refine gA pk ?_ | (show AL _ _ _ _ _ _ _; first | refine jO tok 0 ?_))
        rw [lns]
        obtain ⟨f, hf⟩ : ∃ f : Nat → List Mo, (fun k => if candN S ns k = true then findL S (m + S.p.edges.length) (ns ++ [(k : Int)]) [] else []) = f := ⟨_, rfl⟩
        have hfk := fun k => (congrFun hf k).symm
        rw [hf]
        have h0 : (out ++ (List.range 0).flatMap f).take (most + 1) = out := by rw [List.range_zero, List.flatMap_nil, List.append_nil]; exact List.take_of_length_le (by omega)
        refine a_loopG2 (fun (k : Nat) (vo : Value) => [(0, .pt u 0 0 0), (1, ints ns), (4, AI ns.length), (5, AI k)]) (fun k vo => roL 95 t S a b most u vo ((out ++ (List.range k).flatMap f).take (most + 1))) (fun k _ => k ≤ S.g.nodes.length) (fun k _ => S.g.nodes.length - k) 0 vo (Nat.zero_le _) (.sub (by exact subQ) (by rw [h0]; exact OSub.refl _)) ?_
        clear vo h0 sf
        intro k vo hk
        have hlo : ((out ++ (List.range k).flatMap f).take (most + 1)).length ≤ most + 1 := by rw [List.length_take]; omega
        rcases Nat.lt_or_ge k S.g.nodes.length with h2 | h2
        · have hstep := find_loop out f k (most + 1)
          generalize (out ++ (List.range k).flatMap f).take (most + 1) = O at *
          have hx := List.getElem?_eq_getElem h2
          have hz := List.getElem?_eq_getElem hlt
          have hyr := hS.tg _ (List.getElem_mem h2)
          have hzr := hS.tp _ (List.getElem_mem hlt)
          have hai := List.getElem?_eq_getElem (l := a) (i := ns.length) (by omega)
          have hgv : gvn S.pn ns.length = a[ns.length]'(by omega) := by
            rw [ha]
            show a.getD ns.length (-1) = _
            rw [List.getD_eq_getElem?_getD, hai]; rfl
          generalize a[ns.length]'(by omega) = w at *
          generalize S.g.nodes[k] = y at *
          generalize S.p.nodes[ns.length] = z at *
          have ak : (rowI a)[(ns.length : Int).toNat]? = some [AI w] := zmp (f := cI) hai
          have xk : (rowI S.g.nodes)[(k : Int).toNat]? = some [AI y] := zmp (f := cI) hx
          have zk : (rowI S.p.nodes)[(ns.length : Int).toNat]? = some [AI z] := zmp (f := cI) hz
          have su := ACalls.lendA (L := roL 95 t S a b most u vo O) (args' := [.pt u 0 0 0, ints ns, AI k]) (gused_spec t S a b most (mosA O) ns (by omega) k) ⟨ro_fv _ t S a b most u vo O, FV.refl _, FV.refl _, trivial⟩ fd_free
          have sb := Below1_spec t t.nodes.length (Nat.le_refl _) hPR z hzr.1 (y + 1).toNat y (by omega) (by omega) hyr.2
          have hcand : candN S ns k = (!offN S.pn ns.length k && (okT t z y && !(S.inj && decide ((k : Int) ∈ ns)))) := by
            unfold candN
            rw [hS.ok, List.getD_eq_getElem?_getD, List.getD_eq_getElem?_getD, hz, hx]; rfl
          obtain ⟨cb, hcb⟩ : ∃ cb, candN S ns k = cb := ⟨_, rfl⟩
          have hff := hfk k
          rw [hcb] at hff hcand
          unfold offN okT at hcand
          rw [hgv] at hcand
          generalize (S.inj && decide ((k : Int) ∈ ns)) = us at *
          generalize decide (z ∈ up t.nodes y) = okb at *
          repeat (first | refine gN pk ?_ | (show AL _ _ _ _ _ _ _; first | refine jO tok 0 ?_))
          refine AWp.mono (Q := fun e st L => e = .normal ∧ GoTo 104 st L (lk [(0, .pt u 0 0 0), (1, ints ns), (4, AI ns.length), (5, AI k), (95, AB (!cb))]) (roL 95 t S a b most u vo O)) ?_ (fun e st L h' => ?_)
          · refine zrg ((List.range 51).map fun i => if inL [25, 48] i = true then .eff else if inL [4, 6, 7, 14, 16, 17, 31, 36, 38, 39, 44, 46, 47] i = true then .read else .pure) [] [0, 1, 2, 3, 4, 5, 6, 7, 8, 9, 10, 11, 12, 13, 14, 15, 16, 17, 18, 19, 20, 21, 22, 23, 24, 25, 26, 27, 28, 29, 30, 31, 32, 33, 34, 35, 36, 37, 38, 39, 40, 41, 42, 43, 44, 45, 46, 47, 48, 49, 50] .stop mixed rfl rfl (by decide +kernel) ?_
            have hd : (0 ≤ w ∧ w ≠ k) ∨ ¬ 0 ≤ w ∨ (0 ≤ w ∧ w = k) := by omega
            rcases hd with ⟨hw0, hwk⟩ | hw0 | ⟨hw0, hwk⟩
            · have hcf : cb = false := by rw [hcand]; simp [hw0, hwk]
              subst hcf
              repeat' (first | (with_reducible show AG _ _ _ _ _ _ _ _ _ _; first | exact zgn | refine zgs ?_ | refine znd ?_ ?_) | (show AMid _ _ _ _; first | refine zmf ?_ | refine zmg (by first | exact OSub.refl _ | exact .drop (OSub.refl _) | exact .drop (.drop (OSub.refl _))) ?_) | refine gY pk ?_ | (show AL _ _ _ _ _ _ _; first | refine jO tok 0 ?_ | refine jX tok ak ?_) | fail)
              exact ⟨rfl, .sub (by exact subQ) (OSub.refl _)⟩
            all_goals
              have hc2 : cb = (okb && !us) := by rw [hcand]; simp [hw0, *]
              subst hc2
              cases us with
              | true =>
                rw [Bool.not_true, Bool.and_false]
                repeat' (first | (with_reducible show AG _ _ _ _ _ _ _ _ _ _; first | exact zgn | refine zgs ?_ | refine znd ?_ ?_) | (show AMid _ _ _ _; first | refine zmf ?_ | refine zmg (by first | exact OSub.refl _ | exact .drop (OSub.refl _) | exact .drop (.drop (OSub.refl _))) ?_) | refine gY pk ?_ | (show AL _ _ _ _ _ _ _; first | refine jO tok 0 ?_ | refine jX tok ak ?_ | refine zsc (Lc := roL 95 t S a b most u vo O) (Lr := []) rfl rfl rfl rfl rfl su (SubL.of_eq rfl) (List.Perm.refl _) ?_; rintro _ _ ⟨⟨rfl, -⟩, rfl⟩) | fail)
                exact ⟨rfl, .sub (by exact subQ) (OSub.refl _)⟩
              | false =>
                rw [Bool.not_false, Bool.and_true]
                cases okb
                all_goals
                  repeat' (first | (with_reducible show AG _ _ _ _ _ _ _ _ _ _; first | exact zgn | refine zgs ?_ | refine znd ?_ ?_) | (show AMid _ _ _ _; first | refine zmf ?_ | refine zmg (by first | exact OSub.refl _ | exact .drop (OSub.refl _) | exact .drop (.drop (OSub.refl _))) ?_) | refine gY pk ?_ | (show AL _ _ _ _ _ _ _; first | refine jO tok 0 ?_ | refine jX tok ak ?_ | refine zsc (Lc := roL 95 t S a b most u vo O) (Lr := []) rfl rfl rfl rfl rfl su (SubL.of_eq rfl) (List.Perm.refl _) ?_; rintro _ _ ⟨⟨rfl, -⟩, rfl⟩ | refine jX tok xk ?_ | refine jX tok zk ?_ | refine jP sb ?_) | fail)
                  exact ⟨rfl, .sub (by exact subQ) (OSub.refl _)⟩
          · obtain ⟨rfl, h'⟩ := h'
            refine zgt h' ?_
            clear h'
            cases cb with
            | false =>
              have hnew : (out ++ (List.range (k + 1)).flatMap f).take (most + 1) = O := by rw [← hstep, hff, if_neg (by decide), List.append_nil, List.take_of_length_le hlo]
              repeat (first | refine gA pk ?_)
              exact ⟨k + 1, vo, by omega, by omega, .sub (by exact subQ) (by rw [hnew]; exact OSub.refl _)⟩
            | true =>
              rw [if_pos rfl] at hff
              have hI : ints (ns ++ [(k : Int)]) = .im 1 ([] ++ rowI ns ++ [[AI k]]) := by simp [cI]
              have sg : ∀ w2, ACalls Tryz.prog 108 [.pt u 0 0 0, .lit w2] ((w2, .row 3 1 ([] ++ rowI ns ++ [[AI k]])) :: roL 95 t S a b most u vo O) (fun y M => ∃ vo', y = .tup [] ∧ M = roL 95 t S a b most u vo' ((O ++ findL S (m + S.p.edges.length) (ns ++ [(k : Int)]) []).take (most + 1))) := fun w2 => by
                have h3 := ih (ns ++ [(k : Int)]) (by simp; omega) (by simp; omega) u vo O hlo
                rw [hI] at h3
                exact ACalls.give (E := 3) h3 (zfo (FZL.refl _) (zfw (mo_rows' _) trivial)) ⟨FZ.refl _, FZ.here, trivial⟩
              repeat (first | refine gA pk ?_ | (show AL _ _ _ _ _ _ _; first | refine s_build tok (parts := []) rfl rfl rfl rfl rfl rfl rfl rfl (by decide) (by decide) (fun v => ?_) | refine s_appendIm tok 0 rfl rfl rfl rfl rfl rfl (by decide) rfl rfl rfl rfl (rowI_cell _) (by simp only [lns, List.length_nil]; omega) (by simp only [lns, List.length_nil]; omega) (fun w1 => ?_) | refine s_build1 tok rfl rfl rfl rfl rfl rfl rfl rfl (fun lv => ?_) | refine zak tok 0 rfl rfl rfl rfl rfl rfl (by decide) rfl rfl rfl rfl (by simp only [List.nil_append, lns]; omega) (by simp only [List.nil_append, lns]; omega) (fun w2 hw => ?_) | refine zsc (Lc := (w2, .row 3 1 ([] ++ rowI ns ++ [[AI k]])) :: roL 95 t S a b most u vo O) (Lr := []) rfl rfl rfl rfl rfl (sg w2) (SubL.of_eq rfl) (List.Perm.refl _) ?_; rintro _ _ ⟨vo2, rfl, rfl⟩))
              exact ⟨k + 1, vo2, by omega, by omega, .sub (by exact subQ) (by rw [← hstep, hff]; exact OSub.refl _)⟩
        · obtain rfl : k = S.g.nodes.length := by omega
          repeat (first | refine gA pk ?_ | (show AL _ _ _ _ _ _ _; first | refine jO tok 0 ?_))
          exact fin (x := .tup []) (.inl rfl) rfl (Sub.refl _) ⟨_, rfl, rfl⟩ (OSub.refl _)
end Go.Proofs.YtddohheabpiljaaGreat
end
