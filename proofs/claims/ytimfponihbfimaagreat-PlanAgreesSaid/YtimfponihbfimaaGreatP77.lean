/- Parts of a proof. -/
import Derived.Handy
import Derived.Lib.AppendZerosOnto
import Derived.Lib.Overlaps
import Derived.Laws.Runes
import Derived.Laws.Externs
import Derived.Laws.Cover3
import Derived.WalkKit
import Derived.WalkSpells
import Derived.WalkLawsBesides
import Derived.Deep.Draws
import Derived.Orders
import Derived.Still
import Derived.Test.YtimfponihbfimaaGreatP32
import Derived.Test.YtimfponihbfimaaGreatP76
set_option linter.unusedVariables false
set_option linter.unusedSimpArgs false
section
namespace Go.Proofs.YtimfponihbfimaaGreat
open Go.Sj Go.Sj.Typ Go.Sj.Sta Go.Sj.Inc
set_option maxRecDepth 8000
set_option maxHeartbeats 16000000
theorem gnodes_rec (t : Tys) (ht : Small t) (hv : (validR t).2 = 0) (S : Sea) (hS : SeaT t S) (a b : List Int) (ha : S.pn = some a) (hb : S.pe = some b) (most : Nat) (hmost : most ≤ 10000) : ∀ (m : Nat) (ns : List Int), m = S.p.nodes.length - ns.length → ns.length ≤ S.p.nodes.length → ∀ (u vo : Value) (out : List Mo), out.length ≤ most + 1 →
    ACalls Tryz.prog 96 [.pt u 0 0 0, ints ns] (roL 88 t S a b most u vo out) (fun y M => ∃ vo', y = .tup [] ∧ M = roL 88 t S a b most u vo' ((out ++ findL S (m + S.p.edges.length) ns []).take (most + 1))) := by
  have hgn := hS.g.nl
  have hge := hS.g.el
  have hpn := hS.p.nl
  have hpe := hS.p.el
  have hal := hS.pn a ha
  have htn := ht.nodes
  have hPR : PR t.nodes t.nodes.length := pr_of (validR_zero.1 hv).2.2.2.1
  have lpn : (rowI S.p.nodes).length = S.p.nodes.length := by simp
  have lgn : (rowI S.g.nodes).length = S.g.nodes.length := by simp
  have la : (rowI a).length = a.length := by simp
  intro m
  induction m with
  | zero =>
    intro ns hm hn u vo out ho
    have lns : (rowI ns).length = ns.length := by simp
    have lo : (out.map cMo).length = out.length := by simp
    have sf := ACalls.lendA (L := roL 88 t S a b most u vo out) (args' := [.pt u 0 0 0, ints ns]) (gfits_rec t S hS.toSeaOk a b most (mosA out) ns (by omega)) ⟨ro_fv _ t S a b most u vo out, FV.refl _, trivial⟩ fd_free
    have se := gedges_rec t S hS.toSeaOk a b hb most hmost ns (by omega) S.p.edges.length [] rfl (Nat.zero_le _) u vo out ho
    have hdead : gfitB S ns = false → findL S (0 + S.p.edges.length) ns [] = [] := fun h => gfit_dead hS.p h (by unfold remS; simp; omega) hn rfl
    rw [Nat.zero_add] at hdead ⊢
    rcases Nat.lt_or_ge most out.length with h | h
    · rw [List.take_left' (l₁ := out) (by omega)]
      refine zen Tryz.func96 (by kernel_rfl) rfl Tryz.ntmps96 rfl (by simp) ?_
      repeat (first | refine gN pk ?_)
      refine zrg ((List.range 16).map fun i => if inL [13] i = true then .eff else if inL [3, 4, 8] i = true then .read else .pure) [] [0, 1, 2, 3, 4, 5, 6, 7, 8, 9, 10, 11, 12, 13, 14, 15] .stop mixed rfl rfl (by decide +kernel) ?_
      repeat' (first | (with_reducible show AG _ _ _ _ _ _ _ _ _ _; first | exact zgn | refine zgs ?_ | refine znd ?_ ?_) | (show AMid _ _ _ _; first | refine zmf ?_ | refine zmg (by first | exact OSub.refl _ | exact .drop (OSub.refl _) | exact .drop (.drop (OSub.refl _))) ?_) | refine gY pk ?_ | (show AL _ _ _ _ _ _ _; first | refine jO tok 0 ?_ | refine zol tok 1 rfl rfl rfl rfl (by decide) rfl rfl rfl ?_) | fail)
      repeat (first | refine gA pk ?_)
      exact fin (x := .tup []) (.inr rfl) rfl (Sub.refl _) ⟨_, rfl, rfl⟩ (OSub.refl _)
    · generalize gfitB S ns = gb at *
      cases gb with
      | false =>
        rw [hdead rfl, List.append_nil, List.take_of_length_le (by omega)]
        refine zen Tryz.func96 (by kernel_rfl) rfl Tryz.ntmps96 rfl (by simp) ?_
        repeat (first | refine gN pk ?_)
        refine zrg ((List.range 16).map fun i => if inL [13] i = true then .eff else if inL [3, 4, 8] i = true then .read else .pure) [] [0, 1, 2, 3, 4, 5, 6, 7, 8, 9, 10, 11, 12, 13, 14, 15] .stop mixed rfl rfl (by decide +kernel) ?_
        repeat' (first | (with_reducible show AG _ _ _ _ _ _ _ _ _ _; first | exact zgn | refine zgs ?_ | refine znd ?_ ?_) | (show AMid _ _ _ _; first | refine zmf ?_ | refine zmg (by first | exact OSub.refl _ | exact .drop (OSub.refl _) | exact .drop (.drop (OSub.refl _))) ?_) | refine gY pk ?_ | (show AL _ _ _ _ _ _ _; first | refine jO tok 0 ?_ | refine zol tok 1 rfl rfl rfl rfl (by decide) rfl rfl rfl ?_ | refine zsc (Lc := roL 88 t S a b most u vo out) (Lr := []) rfl rfl rfl rfl rfl sf (SubL.of_eq rfl) (List.Perm.refl _) ?_; rintro _ _ ⟨⟨rfl, -⟩, rfl⟩) | fail)
        repeat (first | refine gA pk ?_)
        exact fin (x := .tup []) (.inr rfl) rfl (Sub.refl _) ⟨_, rfl, rfl⟩ (OSub.refl _)
      | true =>
        refine zen Tryz.func96 (by kernel_rfl) rfl Tryz.ntmps96 rfl (by simp) ?_
        repeat (first | refine gN pk ?_)
        refine zrg ((List.range 16).map fun i => if inL [13] i = true then .eff else if inL [3, 4, 8] i = true then .read else .pure) [] [0, 1, 2, 3, 4, 5, 6, 7, 8, 9, 10, 11, 12, 13, 14, 15] .stop mixed rfl rfl (by decide +kernel) ?_
        repeat' (first | (with_reducible show AG _ _ _ _ _ _ _ _ _ _; first | exact zgn | refine zgs ?_ | refine znd ?_ ?_) | (show AMid _ _ _ _; first | refine zmf ?_ | refine zmg (by first | exact OSub.refl _ | exact .drop (OSub.refl _) | exact .drop (.drop (OSub.refl _))) ?_) | refine gY pk ?_ | (show AL _ _ _ _ _ _ _; first | refine jO tok 0 ?_ | refine zol tok 1 rfl rfl rfl rfl (by decide) rfl rfl rfl ?_ | refine zsc (Lc := roL 88 t S a b most u vo out) (Lr := []) rfl rfl rfl rfl rfl sf (SubL.of_eq rfl) (List.Perm.refl _) ?_; rintro _ _ ⟨⟨rfl, -⟩, rfl⟩) | fail)
        repeat (first | refine gA pk ?_ | (show AL _ _ _ _ _ _ _; first | refine jO tok 0 ?_ | refine zsc (Lc := roL 88 t S a b most u vo out) (Lr := []) rfl rfl rfl rfl rfl se ⟨Sub.refl _, Sub.refl _, Sub.nil 1, trivial⟩ (List.Perm.refl _) ?_; rintro _ _ ⟨vo2, rfl, rfl⟩))
        exact fin (x := .tup []) (.inr rfl) rfl (Sub.refl _) ⟨_, rfl, rfl⟩ (OSub.refl _)
  | succ m ih =>
    intro ns hm hn u vo out ho
    have lns : (rowI ns).length = ns.length := by simp
    have lo : (out.map cMo).length = out.length := by simp
    have hlt : ns.length < S.p.nodes.length := by omega
    have sf := ACalls.lendA (L := roL 88 t S a b most u vo out) (args' := [.pt u 0 0 0, ints ns]) (gfits_rec t S hS.toSeaOk a b most (mosA out) ns (by omega)) ⟨ro_fv _ t S a b most u vo out, FV.refl _, trivial⟩ fd_free
    have hdead : gfitB S ns = false → findL S (m + 1 + S.p.edges.length) ns [] = [] := fun h => gfit_dead hS.p h (by unfold remS; simp; omega) hn rfl
    rw [show m + 1 + S.p.edges.length = m + S.p.edges.length + 1 by omega] at hdead ⊢
    rcases Nat.lt_or_ge most out.length with h | h
    · rw [List.take_left' (l₁ := out) (by omega)]
      refine zen Tryz.func96 (by kernel_rfl) rfl Tryz.ntmps96 rfl (by simp) ?_
      repeat (first | refine gN pk ?_)
      refine zrg ((List.range 16).map fun i => if inL [13] i = true then .eff else if inL [3, 4, 8] i = true then .read else .pure) [] [0, 1, 2, 3, 4, 5, 6, 7, 8, 9, 10, 11, 12, 13, 14, 15] .stop mixed rfl rfl (by decide +kernel) ?_
      repeat' (first | (with_reducible show AG _ _ _ _ _ _ _ _ _ _; first | exact zgn | refine zgs ?_ | refine znd ?_ ?_) | (show AMid _ _ _ _; first | refine zmf ?_ | refine zmg (by first | exact OSub.refl _ | exact .drop (OSub.refl _) | exact .drop (.drop (OSub.refl _))) ?_) | refine gY pk ?_ | (show AL _ _ _ _ _ _ _; first | refine jO tok 0 ?_ | refine zol tok 1 rfl rfl rfl rfl (by decide) rfl rfl rfl ?_) | fail)
      repeat (first | refine gA pk ?_)
      exact fin (x := .tup []) (.inr rfl) rfl (Sub.refl _) ⟨_, rfl, rfl⟩ (OSub.refl _)
    · generalize gfitB S ns = gb at *
      cases gb with
      | false =>
        rw [hdead rfl, List.append_nil, List.take_of_length_le (by omega)]
        refine zen Tryz.func96 (by kernel_rfl) rfl Tryz.ntmps96 rfl (by simp) ?_
        repeat (first | refine gN pk ?_)
        refine zrg ((List.range 16).map fun i => if inL [13] i = true then .eff else if inL [3, 4, 8] i = true then .read else .pure) [] [0, 1, 2, 3, 4, 5, 6, 7, 8, 9, 10, 11, 12, 13, 14, 15] .stop mixed rfl rfl (by decide +kernel) ?_
        repeat' (first | (with_reducible show AG _ _ _ _ _ _ _ _ _ _; first | exact zgn | refine zgs ?_ | refine znd ?_ ?_) | (show AMid _ _ _ _; first | refine zmf ?_ | refine zmg (by first | exact OSub.refl _ | exact .drop (OSub.refl _) | exact .drop (.drop (OSub.refl _))) ?_) | refine gY pk ?_ | (show AL _ _ _ _ _ _ _; first | refine jO tok 0 ?_ | refine zol tok 1 rfl rfl rfl rfl (by decide) rfl rfl rfl ?_ | refine zsc (Lc := roL 88 t S a b most u vo out) (Lr := []) rfl rfl rfl rfl rfl sf (SubL.of_eq rfl) (List.Perm.refl _) ?_; rintro _ _ ⟨⟨rfl, -⟩, rfl⟩) | fail)
        repeat (first | refine gA pk ?_)
        exact fin (x := .tup []) (.inr rfl) rfl (Sub.refl _) ⟨_, rfl, rfl⟩ (OSub.refl _)
      | true =>
        clear hdead
        rw [findL_nodes hlt]
        refine zen Tryz.func96 (by kernel_rfl) rfl Tryz.ntmps96 rfl (by simp) ?_
        repeat (first | refine gN pk ?_)
        refine zrg ((List.range 16).map fun i => if inL [13] i = true then .eff else if inL [3, 4, 8] i = true then .read else .pure) [] [0, 1, 2, 3, 4, 5, 6, 7, 8, 9, 10, 11, 12, 13, 14, 15] .stop mixed rfl rfl (by decide +kernel) ?_
        repeat' (first | (with_reducible show AG _ _ _ _ _ _ _ _ _ _; first | exact zgn | refine zgs ?_ | refine znd ?_ ?_) | (show AMid _ _ _ _; first | refine zmf ?_ | refine zmg (by first | exact OSub.refl _ | exact .drop (OSub.refl _) | exact .drop (.drop (OSub.refl _))) ?_) | refine gY pk ?_ | (show AL _ _ _ _ _ _ _; first | refine jO tok 0 ?_ | refine zol tok 1 rfl rfl rfl rfl (by decide) rfl rfl rfl ?_ | refine zsc (Lc := roL 88 t S a b most u vo out) (Lr := []) rfl rfl rfl rfl rfl sf (SubL.of_eq rfl) (List.Perm.refl _) ?_; rintro _ _ ⟨⟨rfl, -⟩, rfl⟩) | fail)
        repeat (first | refine gA pk ?_ | (show AL _ _ _ _ _ _ _; first | refine jO tok 0 ?_))
        rw [lns]
        obtain ⟨f, hf⟩ : ∃ f : Nat → List Mo, (fun k => if candN S ns k = true then findL S (m + S.p.edges.length) (ns ++ [(k : Int)]) [] else []) = f := ⟨_, rfl⟩
        have hfk := fun k => (congrFun hf k).symm
        rw [hf]
        have h0 : (out ++ (List.range 0).flatMap f).take (most + 1) = out := by rw [List.range_zero, List.flatMap_nil, List.append_nil]; exact List.take_of_length_le (by omega)
        refine a_loopG2 (fun (k : Nat) (vo : Value) => [(0, .pt u 0 0 0), (1, ints ns), (4, AI ns.length), (5, AI k)]) (fun k vo => roL 88 t S a b most u vo ((out ++ (List.range k).flatMap f).take (most + 1))) (fun k _ => k ≤ S.g.nodes.length) (fun k _ => S.g.nodes.length - k) 0 vo (Nat.zero_le _) (.sub (by exact subQ) (by rw [h0]; exact OSub.refl _)) ?_
        clear vo h0 sf
        intro k vo hk
        have hlo : ((out ++ (List.range k).flatMap f).take (most + 1)).length ≤ most + 1 := by rw [List.length_take]; omega
        rcases Nat.lt_or_ge k S.g.nodes.length with h2 | h2
        · have hstep := find_loop out f k (most + 1)
          generalize (out ++ (List.range k).flatMap f).take (most + 1) = O at *
          have hx := List.getElem?_eq_getElem h2
          have hz := List.getElem?_eq_getElem hlt
          have hyr := hS.tg _ (List.getElem_mem h2)
          have hzr := hS.tp _ (List.getElem_mem hlt)
          have hai := List.getElem?_eq_getElem (l := a) (i := ns.length) (by omega)
          have hgv : gvn S.pn ns.length = a[ns.length]'(by omega) := by
            rw [ha]
            show a.getD ns.length (-1) = _
            rw [List.getD_eq_getElem?_getD, hai]; rfl
          generalize a[ns.length]'(by omega) = w at *
          generalize S.g.nodes[k] = y at *
          generalize S.p.nodes[ns.length] = z at *
          have ak : (rowI a)[(ns.length : Int).toNat]? = some [AI w] := zmp (f := cI) hai
          have xk : (rowI S.g.nodes)[(k : Int).toNat]? = some [AI y] := zmp (f := cI) hx
          have zk : (rowI S.p.nodes)[(ns.length : Int).toNat]? = some [AI z] := zmp (f := cI) hz
          have su := ACalls.lendA (L := roL 88 t S a b most u vo O) (args' := [.pt u 0 0 0, ints ns, AI k]) (gused_spec t S a b most (mosA O) ns (by omega) k) ⟨ro_fv _ t S a b most u vo O, FV.refl _, FV.refl _, trivial⟩ fd_free
          have sb := Below1_spec t t.nodes.length (Nat.le_refl _) hPR z hzr.1 (y + 1).toNat y (by omega) (by omega) hyr.2
          have hcand : candN S ns k = (!offN S.pn ns.length k && (okT t z y && !(S.inj && decide ((k : Int) ∈ ns)))) := by
            unfold candN
            rw [hS.ok, List.getD_eq_getElem?_getD, List.getD_eq_getElem?_getD, hz, hx]; rfl
          obtain ⟨cb, hcb⟩ : ∃ cb, candN S ns k = cb := ⟨_, rfl⟩
          have hff := hfk k
          rw [hcb] at hff hcand
          unfold offN okT at hcand
          rw [hgv] at hcand
          generalize (S.inj && decide ((k : Int) ∈ ns)) = us at *
          generalize decide (z ∈ up t.nodes y) = okb at *
          repeat (first | refine gN pk ?_ | (show AL _ _ _ _ _ _ _; first | refine jO tok 0 ?_))
          refine AWp.mono (Q := fun e st L => e = .normal ∧ GoTo 104 st L (lk [(0, .pt u 0 0 0), (1, ints ns), (4, AI ns.length), (5, AI k), (95, AB (!cb))]) (roL 88 t S a b most u vo O)) ?_ (fun e st L h' => ?_)
          · refine zrg ((List.range 51).map fun i => if inL [25, 48] i = true then .eff else if inL [4, 6, 7, 14, 16, 17, 31, 36, 38, 39, 44, 46, 47] i = true then .read else .pure) [] [0, 1, 2, 3, 4, 5, 6, 7, 8, 9, 10, 11, 12, 13, 14, 15, 16, 17, 18, 19, 20, 21, 22, 23, 24, 25, 26, 27, 28, 29, 30, 31, 32, 33, 34, 35, 36, 37, 38, 39, 40, 41, 42, 43, 44, 45, 46, 47, 48, 49, 50] .stop mixed rfl rfl (by decide +kernel) ?_
            have hd : (0 ≤ w ∧ w ≠ k) ∨ ¬ 0 ≤ w ∨ (0 ≤ w ∧ w = k) := by omega
            rcases hd with ⟨hw0, hwk⟩ | hw0 | ⟨hw0, hwk⟩
            · have hcf : cb = false := by rw [hcand]; simp [hw0, hwk]
              subst hcf
              repeat' (first | (with_reducible show AG _ _ _ _ _ _ _ _ _ _; first | exact zgn | refine zgs ?_ | refine znd ?_ ?_) | (show AMid _ _ _ _; first | refine zmf ?_ | refine zmg (by first | exact OSub.refl _ | exact .drop (OSub.refl _) | exact .drop (.drop (OSub.refl _))) ?_) | refine gY pk ?_ | (show AL _ _ _ _ _ _ _; first | refine jO tok 0 ?_ | refine jX tok ak ?_) | fail)
              exact ⟨rfl, .sub (by exact subQ) (OSub.refl _)⟩
            all_goals
              have hc2 : cb = (okb && !us) := by rw [hcand]; simp [hw0, *]
              subst hc2
              cases us with
              | true =>
                rw [Bool.not_true, Bool.and_false]
                repeat' (first | (with_reducible show AG _ _ _ _ _ _ _ _ _ _; first | exact zgn | refine zgs ?_ | refine znd ?_ ?_) | (show AMid _ _ _ _; first | refine zmf ?_ | refine zmg (by first | exact OSub.refl _ | exact .drop (OSub.refl _) | exact .drop (.drop (OSub.refl _))) ?_) | refine gY pk ?_ | (show AL _ _ _ _ _ _ _; first | refine jO tok 0 ?_ | refine jX tok ak ?_ | refine zsc (Lc := roL 88 t S a b most u vo O) (Lr := []) rfl rfl rfl rfl rfl su (SubL.of_eq rfl) (List.Perm.refl _) ?_; rintro _ _ ⟨⟨rfl, -⟩, rfl⟩) | fail)
                exact ⟨rfl, .sub (by exact subQ) (OSub.refl _)⟩
              | false =>
                rw [Bool.not_false, Bool.and_true]
                cases okb
                all_goals
                  repeat' (first | (with_reducible show AG _ _ _ _ _ _ _ _ _ _; first | exact zgn | refine zgs ?_ | refine znd ?_ ?_) | (show AMid _ _ _ _; first | refine zmf ?_ | refine zmg (by first | exact OSub.refl _ | exact .drop (OSub.refl _) | exact .drop (.drop (OSub.refl _))) ?_) | refine gY pk ?_ | (show AL _ _ _ _ _ _ _; first | refine jO tok 0 ?_ | refine jX tok ak ?_ | refine zsc (Lc := roL 88 t S a b most u vo O) (Lr := []) rfl rfl rfl rfl rfl su (SubL.of_eq rfl) (List.Perm.refl _) ?_; rintro _ _ ⟨⟨rfl, -⟩, rfl⟩ | refine jX tok xk ?_ | refine jX tok zk ?_ | refine jP sb ?_) | fail)
                  exact ⟨rfl, .sub (by exact subQ) (OSub.refl _)⟩
          · obtain ⟨rfl, h'⟩ := h'
            refine zgt h' ?_
            clear h'
            cases cb with
            | false =>
              have hnew : (out ++ (List.range (k + 1)).flatMap f).take (most + 1) = O := by rw [← hstep, hff, if_neg (by decide), List.append_nil, List.take_of_length_le hlo]
              repeat (first | refine gA pk ?_)
              exact ⟨k + 1, vo, by omega, by omega, .sub (by exact subQ) (by rw [hnew]; exact OSub.refl _)⟩
            | true =>
              rw [if_pos rfl] at hff
              have hI : ints (ns ++ [(k : Int)]) = .im 1 ([] ++ rowI ns ++ [[AI k]]) := by simp [cI]
              have sg : ∀ w2, ACalls Tryz.prog 96 [.pt u 0 0 0, .lit w2] ((w2, .row 3 1 ([] ++ rowI ns ++ [[AI k]])) :: roL 88 t S a b most u vo O) (fun y M => ∃ vo', y = .tup [] ∧ M = roL 88 t S a b most u vo' ((O ++ findL S (m + S.p.edges.length) (ns ++ [(k : Int)]) []).take (most + 1))) := fun w2 => by
                have h3 := ih (ns ++ [(k : Int)]) (by simp; omega) (by simp; omega) u vo O hlo
                rw [hI] at h3
                exact ACalls.give (E := 3) h3 (zfo (FZL.refl _) (zfw (mo_rows' _) trivial)) ⟨FZ.refl _, FZ.here, trivial⟩
              repeat (first | refine gA pk ?_ | (show AL _ _ _ _ _ _ _; first | refine s_build tok (parts := []) rfl rfl rfl rfl rfl rfl rfl rfl (by decide) (by decide) (fun v => ?_) | refine s_appendIm tok 0 rfl rfl rfl rfl rfl rfl (by decide) rfl rfl rfl rfl (rowI_cell _) (by simp only [lns, List.length_nil]; omega) (by simp only [lns, List.length_nil]; omega) (fun w1 => ?_) | refine s_build1 tok rfl rfl rfl rfl rfl rfl rfl rfl (fun lv => ?_) | refine zak tok 0 rfl rfl rfl rfl rfl rfl (by decide) rfl rfl rfl rfl (by simp only [List.nil_append, lns]; omega) (by simp only [List.nil_append, lns]; omega) (fun w2 hw => ?_) | refine zsc (Lc := (w2, .row 3 1 ([] ++ rowI ns ++ [[AI k]])) :: roL 88 t S a b most u vo O) (Lr := []) rfl rfl rfl rfl rfl (sg w2) (SubL.of_eq rfl) (List.Perm.refl _) ?_; rintro _ _ ⟨vo2, rfl, rfl⟩))
              exact ⟨k + 1, vo2, by omega, by omega, .sub (by exact subQ) (by rw [← hstep, hff]; exact OSub.refl _)⟩
        · obtain rfl : k = S.g.nodes.length := by omega
          repeat (first | refine gA pk ?_ | (show AL _ _ _ _ _ _ _; first | refine jO tok 0 ?_))
          exact fin (x := .tup []) (.inl rfl) rfl (Sub.refl _) ⟨_, rfl, rfl⟩ (OSub.refl _)
end Go.Proofs.YtimfponihbfimaaGreat
end
section
namespace Go.Proofs.YtimfponihbfimaaGreat
open Go.Sj Go.Sj.Typ Go.Sj.Sta Go.Sj.Inc
set_option maxRecDepth 8000
set_option maxHeartbeats 16000000
def iniN (n i : Nat) : List Int := List.replicate i (-1) ++ List.replicate (n - i) 0
theorem iniN_len {n i : Nat} (h : i ≤ n) : (iniN n i).length = n := by unfold iniN; simp; omega
theorem iniN_set {n i : Nat} (h : i < n) : (iniN n i).set i (-1) = iniN n (i + 1) := by
  unfold iniN
  obtain ⟨d, hd⟩ : ∃ d, n - i = d + 1 := ⟨n - i - 1, by omega⟩
  rw [hd, show n - (i + 1) = d by omega, List.replicate_succ, List.set_append_right _ _ (by simp)]
  simp [List.replicate_succ']
theorem iniN_full (n : Nat) : iniN n n = noneL n := by unfold iniN noneL; simp
theorem gopen_spec (p : Gr) (hp : GV p) : Pure Tryz.prog 59 [grA p] (.agg [ints (noneL p.nodes.length), ints (noneL p.edges.length)]) := by
  have hnl := hp.nl
  have hel := hp.el
  have ln : (rowI p.nodes).length = p.nodes.length := by simp
  have le : (p.edges.map cEd).length = p.edges.length := by simp
  have z1 : List.replicate (((rowI p.nodes).length : Int)).toNat (List.map AV.lit [Value.int IntKind.i64 0]) = rowI (iniN p.nodes.length 0) := by unfold iniN; simp [cI]
  have z2 : List.replicate (((p.edges.map cEd).length : Int)).toNat (List.map AV.lit [Value.int IntKind.i64 0]) = rowI (iniN p.edges.length 0) := by unfold iniN; simp [cI]
  refine a_enterC Tryz.func59 (by kernel_rfl) rfl Tryz.ntmps59 rfl (tok _ _ rfl) (by simp) ?_
  refine a_seq ?_
  refine a_reg ?_
  repeat (first | refine gZ pk ?_ | (show AL _ _ _ _ _ _ _; first | refine jB (fun up => ?_) | refine jL tok (fun U2 => ?_)))
  refine zfb 1 1 rfl rfl ?_
  refine AWp.mono (Q := fun e st L => e = .normal ∧ ∃ mn me bm U2, GoTo 38 st L (lk [(1, grP p), (2, .pt U2 0 0 0), (3, .pt bm 0 0 0)]) [(mn, OB.row 3 1 (rowI (iniN p.nodes.length 0))), (me, OB.row 3 1 (rowI (iniN p.edges.length 0))), (bm, OB.box [.lit mn, .lit me]), (U2, OB.box [nilS, nilS])]) ?_ (fun e st L h => ?_)
  · refine zrg ((List.range 11).map fun i => if inL [3, 7, 9, 10] i = true then .eff else .pure) [] [0, 1, 2, 4, 5, 6] (.nd 3 [] (.nd 7 [8, 9, 10] .stop (.nd 9 [7, 8, 10] .stop .stop)) (.nd 7 [] (.nd 3 [8, 9, 10] .stop (.nd 9 [3, 8, 10] .stop .stop)) (.nd 9 [] (.nd 3 [7, 8, 10] .stop (.nd 7 [3, 8, 10] .stop .stop)) .stop))) mixed rfl rfl (by decide +kernel) ?_
    repeat' (first | (with_reducible show AG _ _ _ _ _ _ _ _ _ _; first | exact zgn | refine zgs ?_ | refine znd ?_ ?_) | (show AMid _ _ _ _; first | refine zmf ?_ | refine zmg (by first | exact OSub.refl _ | exact .drop (OSub.refl _) | exact .drop (.drop (OSub.refl _))) ?_) | refine gY pk ?_ | (show AL _ _ _ _ _ _ _; first | refine s_makeQ tok rfl rfl rfl rfl rfl rfl rfl rfl z1 (by omega) (by omega) (by simp; omega) (by omega) (fun a m j => ?_) | refine s_makeQ tok rfl rfl rfl rfl rfl rfl rfl rfl z2 (by omega) (by omega) (by simp; omega) (by omega) (fun a m j => ?_) | refine jL tok (fun bm => ?_) | refine jS tok 0 ?_ | refine jS tok 1 ?_ | refine jS tok 2 ?_) | fail)
    all_goals
      first | exact ⟨rfl, _, _, _, _, (GoTo.sub (by exact subQ) (OSub.refl _)).trans (GoTo.perm (List.Perm.refl _))⟩ | exact ⟨rfl, _, _, _, _, (GoTo.sub (by exact subQ) (OSub.refl _)).trans (GoTo.perm (List.Perm.append_right [_] (perm3 _ _ _).1))⟩ | exact ⟨rfl, _, _, _, _, (GoTo.sub (by exact subQ) (OSub.refl _)).trans (GoTo.perm (List.Perm.append_right [_] (perm3 _ _ _).2.1))⟩ | exact ⟨rfl, _, _, _, _, (GoTo.sub (by exact subQ) (OSub.refl _)).trans (GoTo.perm (List.Perm.append_right [_] (perm3 _ _ _).2.2.1))⟩ | exact ⟨rfl, _, _, _, _, (GoTo.sub (by exact subQ) (OSub.refl _)).trans (GoTo.perm (List.Perm.append_right [_] (perm3 _ _ _).2.2.2.1))⟩ | exact ⟨rfl, _, _, _, _, (GoTo.sub (by exact subQ) (OSub.refl _)).trans (GoTo.perm (List.Perm.append_right [_] (perm3 _ _ _).2.2.2.2.1))⟩
  · obtain ⟨rfl, mn, me, bm, U2, h⟩ := h
    refine zgt h ?_
    clear h
    repeat (first | refine gA pk ?_)
    refine zlx (fun i : Nat => [(1, grP p), (2, .pt U2 0 0 0), (3, .pt bm 0 0 0), (4, AI i)]) (fun i => [(mn, OB.row 3 1 (rowI (iniN p.nodes.length i))), (me, OB.row 3 1 (rowI (iniN p.edges.length 0))), (bm, OB.box [.lit mn, .lit me]), (U2, OB.box [nilS, nilS])]) (fun i => i ≤ p.nodes.length) (fun i => p.nodes.length - i) 0 (Nat.zero_le _) ?_ (OSub.refl _) ?_
    · exact subQ
    · intro i hi
      have li := iniN_len hi
      have li' : (rowI (iniN p.nodes.length i)).length = p.nodes.length := by rw [List.length_map, li]
      rcases Nat.lt_or_ge i p.nodes.length with h | h
      · have hset := iniN_set h
        repeat (first | refine gA pk ?_ | (show AL _ _ _ _ _ _ _; first | refine jO tok 2 ?_ | refine zol tok 0 rfl rfl rfl rfl (by decide) rfl rfl rfl ?_ | refine zoi tok 0 rfl rfl rfl rfl (by decide) rfl rfl rfl rfl rfl rfl (by omega) (by omega) ?_ | refine s_storeI tok 0 rfl rfl rfl rfl rfl rfl rfl rfl (by omega) ?_))
        exact ⟨i + 1, by omega, by omega, by exact subQ, by rw [← hset]; exact OSub.refl _⟩
      · obtain rfl : i = p.nodes.length := by omega
        rw [iniN_full] at li li' ⊢
        repeat (first | refine gA pk ?_ | (show AL _ _ _ _ _ _ _; first | refine jO tok 2 ?_ | refine zol tok 0 rfl rfl rfl rfl (by decide) rfl rfl rfl ?_))
        refine zlx (fun i : Nat => [(2, .pt U2 0 0 0), (3, .pt bm 0 0 0), (5, AI i)]) (fun i => [(mn, OB.row 3 1 (rowI (noneL p.nodes.length))), (me, OB.row 3 1 (rowI (iniN p.edges.length i))), (bm, OB.box [.lit mn, .lit me]), (U2, OB.box [nilS, nilS])]) (fun i => i ≤ p.edges.length) (fun i => p.edges.length - i) 0 (Nat.zero_le _) ?_ (OSub.refl _) ?_
        · exact subQ
        · intro j hj
          have lj := iniN_len hj
          have lj' : (rowI (iniN p.edges.length j)).length = p.edges.length := by rw [List.length_map, lj]
          rcases Nat.lt_or_ge j p.edges.length with h3 | h3
          · have hset := iniN_set h3
            repeat (first | refine gA pk ?_ | (show AL _ _ _ _ _ _ _; first | refine jO tok 2 ?_ | refine zol tok 1 rfl rfl rfl rfl (by decide) rfl rfl rfl ?_ | refine zoi tok 1 rfl rfl rfl rfl (by decide) rfl rfl rfl rfl rfl rfl (by omega) (by omega) ?_ | refine s_storeI tok 1 rfl rfl rfl rfl rfl rfl rfl rfl (by omega) ?_))
            exact ⟨j + 1, by omega, by omega, by exact subQ, by rw [← hset]; exact OSub.refl _⟩
          · obtain rfl : j = p.edges.length := by omega
            rw [iniN_full] at lj lj' ⊢
            have hr1 : ∀ (l : List Int), ∀ x ∈ rowI l, x.length = 1 := fun l x hx => by
              obtain ⟨y, _, rfl⟩ := List.mem_map.1 hx
              rfl
            refine zgt (GoTo.freeze 0 rfl (FZS.refl _) [(me, OB.row 3 1 (rowI (noneL p.edges.length))), (bm, OB.box [ints (noneL p.nodes.length), .lit me]), (U2, OB.box [nilS, nilS])] (zfw (hr1 _) (zfo ⟨FZ.here, FZ.refl _, trivial⟩ (zfo (FZL.refl _) trivial)))) ?_
            refine zgt (GoTo.freeze 0 rfl (FZS.refl _) [(bm, OB.box [ints (noneL p.nodes.length), ints (noneL p.edges.length)]), (U2, OB.box [nilS, nilS])] (zfo ⟨FZ.refl _, FZ.here, trivial⟩ (zfo (FZL.refl _) trivial))) ?_
            refine zfb 0 3 rfl rfl ?_
            repeat (first | refine gV pk ?_ | (show AL _ _ _ _ _ _ _; first | refine jS tok 0 ?_))
            refine zfb 0 2 rfl rfl ?_
            refine a_ret ?_
            exact ⟨.inr rfl, _, _, _, _, rfl, rfl, Turn.of (Sub.of_eq rfl) (OSub.none _), rfl, rfl⟩
theorem grun_spec (t : Tys) (ht : Small t) (hv : (validR t).2 = 0) (S : Sea) (hS : SeaT t S) (a b : List Int) (ha : S.pn = some a) (hb : S.pe = some b) (most : Nat) (hmost : most ≤ 10000) :
    Pure Tryz.prog 58 [tysA t, grA S.p, grA S.g, .agg [ints a, ints b], AB S.inj, AI most] (mosA ((matL S).take (most + 1))) := by
  have s2 := fun u => gnodes_rec t ht hv S hS a b ha hb most hmost S.p.nodes.length [] rfl (Nat.zero_le _) u (.slice none 0 0) [] (Nat.zero_le _)
  simp only [List.nil_append] at s2
  refine zen Tryz.func58 (by kernel_rfl) rfl Tryz.ntmps58 rfl (by simp) ?_
  refine a_seq ?_
  refine a_reg ?_
  repeat (first | refine gZ pk ?_ | (show AL _ _ _ _ _ _ _; first | refine jB (fun u => ?_)))
  refine zfb 3 6 rfl rfl ?_
  refine zfb 2 7 rfl rfl ?_
  refine zfb 1 8 rfl rfl ?_
  refine zfb 0 9 rfl rfl ?_
  refine a_reg ?_
  repeat (first | refine gZ pk ?_ | (show AL _ _ _ _ _ _ _; first | refine jB (fun ur => ?_)))
  rename_i ur
  refine zgt (GoTo.sub (st' := _) (fun i => Sub.refl _) (L' := roL 88 t S a b most ur (.slice none 0 0) []) (.keep (.free (OSub.none _)))) ?_
  refine a_reg ?_
  repeat (first | refine gZ pk ?_ | (show AL _ _ _ _ _ _ _; first | refine zsc (Lc := roL 88 t S a b most ur (.slice none 0 0) []) (Lr := []) rfl rfl rfl rfl rfl (s2 ur) ⟨Sub.refl _, Sub.nil 1, trivial⟩ (List.Perm.refl _) ?_; rintro _ _ ⟨vo, rfl, rfl⟩))
  refine zgt (GoTo.freeze 1 rfl (FZS.refl _) [(ur, OB.box (rsA t S a b most (mosA ((findL S (S.p.nodes.length + S.p.edges.length) [] []).take (most + 1)))))] (zfo ⟨FZ.refl _, FZ.refl _, FZ.refl _, FZ.refl _, FZ.refl _, FZ.refl _, FZ.refl _, FZ.refl _, FZ.refl _, FZ.refl _, FZ.here, trivial⟩ trivial)) ?_
  repeat (first | refine gA pk ?_ | (show AL _ _ _ _ _ _ _; first | refine jO tok 0 ?_))
  refine finQ ?_
  exact ⟨rfl, rfl⟩
theorem seaO_ok {t : Tys} {p g : Gr} (inj : Bool) (h : validS t p g = 0) : SeaT t (seaO t p g inj) := by
  obtain ⟨h1, h2, h3, h4, h5⟩ := zvz h
  exact ⟨⟨h2, h3, fun l hl => (by cases hl; unfold noneL; simp [seaO]), fun l hl => (by cases hl; unfold noneL; simp [seaO])⟩, rfl, typT_of h2 h4, typT_of h3 h5⟩
theorem gAll_spec (t : Tys) (ht : Small t) (p g : Gr) (hp : OkG p) (hg : OkG g) (inj : Bool) :
    Pure Tryz.prog 20 [tysA t, grA p, grA g, AB inj] (.tup [mosA (allR t p g inj).1, AI (allR t p g inj).2]) := by
  have s1 := ggiven_spec t ht p g hp hg
  unfold allR
  by_cases h : validS t p g = 0
  · rw [if_neg (Decidable.not_not.2 h)]
    have hz := zvz h
    have s2 := gopen_spec p hz.2.1
    have s3 := grun_spec t ht hz.1 (seaO t p g inj) (seaO_ok inj h) (noneL p.nodes.length) (noneL p.edges.length) rfl rfl 5000 (by omega)
    rw [h] at s1
    rw [mat_open] at s3
    change Pure _ _ [tysA t, grA p, grA g, .agg [ints (noneL p.nodes.length), ints (noneL p.edges.length)], AB inj, AI 5000] _ at s3
    have hl : ((matL (seaA t p g inj)).take 5001).length = min 5001 (matL (seaA t p g inj)).length := List.length_take
    unfold capR
    by_cases hc : 5000 < (matL (seaA t p g inj)).length
    · rw [if_pos hc]
      have ll : (((matL (seaA t p g inj)).take 5001).map cMo).length = 5001 := by rw [List.length_map, hl]; omega
      change Pure _ _ _ (mosA ((matL (seaA t p g inj)).take 5001)) at s3
      generalize (matL (seaA t p g inj)).take 5001 = l at *
      refine zen Tryz.func20 (by kernel_rfl) rfl Tryz.ntmps20 rfl (by simp) ?_
      refine a_seq ?_
      refine a_reg ?_
      repeat (first | refine gZ pk ?_ | (show AL _ _ _ _ _ _ _; first | refine jB (fun u => ?_)))
      refine zfb 2 4 rfl rfl ?_
      refine zfb 1 5 rfl rfl ?_
      refine zfb 0 6 rfl rfl ?_
      repeat (first | refine gA pk ?_ | (show AL _ _ _ _ _ _ _; first | refine jP s1 ?_))
      refine a_regO [0, 1, 2, 3, 5, 4, 6, 7] mixed rfl rfl (by decide +kernel) ?_
      repeat (first | refine gA pk ?_ | (show AL _ _ _ _ _ _ _; first | refine jP s2 ?_ | refine jP s3 ?_))
      refine fin (x := .tup [nilS, AI 3]) (.inr rfl) rfl (Sub.tup (m := [mosA [], AI 3]) ⟨Sub.nil 2, Sub.refl _, trivial⟩) ?_ (OSub.none _)
      exact ⟨rfl, rfl⟩
    · rw [if_neg hc]
      change Pure _ _ _ (mosA ((matL (seaA t p g inj)).take 5001)) at s3
      rw [List.take_of_length_le (by omega)] at s3
      have ll : ((matL (seaA t p g inj)).map cMo).length = (matL (seaA t p g inj)).length := by simp
      generalize matL (seaA t p g inj) = l at *
      refine zen Tryz.func20 (by kernel_rfl) rfl Tryz.ntmps20 rfl (by simp) ?_
      refine a_seq ?_
      refine a_reg ?_
      repeat (first | refine gZ pk ?_ | (show AL _ _ _ _ _ _ _; first | refine jB (fun u => ?_)))
      refine zfb 2 4 rfl rfl ?_
      refine zfb 1 5 rfl rfl ?_
      refine zfb 0 6 rfl rfl ?_
      repeat (first | refine gA pk ?_ | (show AL _ _ _ _ _ _ _; first | refine jP s1 ?_))
      refine a_regO [0, 1, 2, 3, 5, 4, 6, 7] mixed rfl rfl (by decide +kernel) ?_
      repeat (first | refine gA pk ?_ | (show AL _ _ _ _ _ _ _; first | refine jP s2 ?_ | refine jP s3 ?_))
      refine finQ ?_
      exact ⟨rfl, rfl⟩
  · rw [if_pos h]
    generalize validS t p g = e at *
    refine zen Tryz.func20 (by kernel_rfl) rfl Tryz.ntmps20 rfl (by simp) ?_
    refine a_seq ?_
    refine a_reg ?_
    repeat (first | refine gZ pk ?_ | (show AL _ _ _ _ _ _ _; first | refine jB (fun u => ?_)))
    refine zfb 2 4 rfl rfl ?_
    refine zfb 1 5 rfl rfl ?_
    refine zfb 0 6 rfl rfl ?_
    repeat (first | refine gA pk ?_ | (show AL _ _ _ _ _ _ _; first | refine jP s1 ?_))
    refine fin (x := .tup [nilS, AI e]) (.inr rfl) rfl (Sub.tup (m := [mosA [], AI e]) ⟨Sub.nil 2, Sub.refl _, trivial⟩) ?_ (OSub.none _)
    exact ⟨rfl, rfl⟩
end Go.Proofs.YtimfponihbfimaaGreat
end
section
namespace Go.Proofs.YtimfponihbfimaaGreat
open Go.Sj Go.Sj.Typ Go.Sj.Sta Go.Sj.Inc
set_option maxRecDepth 8000
set_option maxHeartbeats 16000000
theorem take_eqI {α : Type} {xs ys : List α} {k : Nat} {a b : α} (h1 : xs[k]? = some a) (h2 : ys[k]? = some b) (he : xs.take k = ys.take k) (hab : a = b) : xs.take (k + 1) = ys.take (k + 1) := by
  rw [List.take_add_one, List.take_add_one, h1, h2, he, hab]
theorem gSameInts_spec (xs ys : List Int) (hx : xs.length ≤ 1000000) (hy : ys.length ≤ 1000000) : Pure Tryz.prog 54 [ints xs, ints ys] (AB (decide (xs = ys))) := by
  have lx : (rowI xs).length = xs.length := by simp
  have ly : (rowI ys).length = ys.length := by simp
  by_cases hl : xs.length = ys.length
  · refine zen Tryz.func54 (by kernel_rfl) rfl Tryz.ntmps54 rfl (by simp) ?_
    repeat (first | refine gA pk ?_)
    refine zlx (fun k : Nat => [(0, ints xs), (1, ints ys), (5, AI k)]) (fun _ => []) (fun k => k ≤ xs.length ∧ xs.take k = ys.take k) (fun k => xs.length - k) 0 ⟨Nat.zero_le _, rfl⟩ ?_ (OSub.refl _) ?_
    · exact subQ
    · rintro k ⟨hk, he⟩
      rcases Nat.lt_or_ge k xs.length with h | h
      · have h1 := List.getElem?_eq_getElem h
        have h2 := List.getElem?_eq_getElem (l := ys) (i := k) (by omega)
        generalize xs[k] = a at h1
        generalize ys[k]'(by omega) = b at h2
        have x1 : (rowI xs)[(k : Int).toNat]? = some [AI a] := zmp (f := cI) h1
        have x2 : (rowI ys)[(k : Int).toNat]? = some [AI b] := zmp (f := cI) h2
        by_cases hab : a = b
        · have ht := take_eqI h1 h2 he hab
          repeat (first | refine gA pk ?_ | (show AL _ _ _ _ _ _ _; first | refine jX tok x1 ?_ | refine jX tok x2 ?_))
          exact ⟨k + 1, ⟨by omega, ht⟩, by omega, by exact subQ, OSub.refl _⟩
        · have hne : xs ≠ ys := fun e => by rw [e, h2] at h1; cases h1; exact hab rfl
          rw [decide_eq_false hne]
          repeat (first | refine gA pk ?_ | (show AL _ _ _ _ _ _ _; first | refine jX tok x1 ?_ | refine jX tok x2 ?_))
          refine finQ ?_
          exact ⟨rfl, rfl⟩
      · have : xs = ys := by
          have e1 : xs.take k = xs := List.take_of_length_le (by omega)
          have e2 : ys.take k = ys := List.take_of_length_le (by omega)
          rw [← e1, ← e2, he]
        rw [decide_eq_true this]
        repeat (first | refine gA pk ?_)
        refine finQ ?_
        exact ⟨rfl, rfl⟩
  · rw [decide_eq_false (fun e => hl (by rw [e]))]
    refine zen Tryz.func54 (by kernel_rfl) rfl Tryz.ntmps54 rfl (by simp) ?_
    repeat (first | refine gA pk ?_)
    refine finQ ?_
    exact ⟨rfl, rfl⟩
end Go.Proofs.YtimfponihbfimaaGreat
end
