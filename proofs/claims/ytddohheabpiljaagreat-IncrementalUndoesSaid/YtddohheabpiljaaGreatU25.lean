/- Parts of a proof. -/
import Derived.Test.YtddohheabpiljaaGreatU24
set_option linter.unusedVariables false
set_option linter.unusedSimpArgs false
section
namespace Go.Proofs.YtddohheabpiljaaGreat
open Go.Sj Go.Sj.Typ Go.Sj.Sta Go.Sj.Inc
set_option maxRecDepth 8000
set_option maxHeartbeats 16000000
abbrev roL (E : Nat) (t : Tys) (S : Sea) (a b : List Int) (most : Int) (u vo : Value) (out : List Mo) : Own := [(u, .box (rsA t S a b most (.lit vo))), (vo, .row E 2 (out.map cMo))]
theorem ro_fv (E : Nat) (t : Tys) (S : Sea) (a b : List Int) (most : Int) (u vo : Value) (out : List Mo) : FV (roL E t S a b most u vo out) (.pt u 0 0 0) (.ip (rsA t S a b most (mosA out))) :=
  FV.trans (FV.box (cells := rsA t S a b most (.lit vo)) (by simp)) (FV.ip (l := rsA t S a b most (.lit vo)) (m := rsA t S a b most (mosA out)) ⟨FV.refl _, FV.refl _, FV.refl _, FV.refl _, FV.refl _, FV.refl _, FV.refl _, FV.refl _, FV.refl _, FV.refl _, FV.row (E := E) (by simp), trivial⟩)
theorem mo_rows' (l : List Mo) : ∀ x ∈ l.map cMo, x.length = 2 := fun x hx => by
  obtain ⟨y, _, rfl⟩ := List.mem_map.1 hx
  rfl
theorem gedges_rec (t : Tys) (S : Sea) (hS : SeaOk S) (a b : List Int) (hb : S.pe = some b) (most : Nat) (hmost : most ≤ 10000) (ns : List Int) (hns : ns.length = S.p.nodes.length) : ∀ (m : Nat) (es : List Int), m = S.p.edges.length - es.length → es.length ≤ S.p.edges.length → ∀ (u vo : Value) (out : List Mo), out.length ≤ most + 1 →
    ACalls Tryz.prog 127 [.pt u 0 0 0, ints ns, ints es] (roL 95 t S a b most u vo out) (fun y M => ∃ vo', y = .tup [] ∧ M = roL 95 t S a b most u vo' ((out ++ findL S m ns es).take (most + 1))) := by
  have hgn := hS.g.nl
  have hge := hS.g.el
  have hpn := hS.p.nl
  have hpe := hS.p.el
  have hbl := hS.pe b hb
  have lpe : (S.p.edges.map cEd).length = S.p.edges.length := by simp
  have lge : (S.g.edges.map cEd).length = S.g.edges.length := by simp
  have lns : (rowI ns).length = ns.length := by simp
  have lb : (rowI b).length = b.length := by simp
  intro m
  induction m with
  | zero =>
    intro es hm he u vo out ho
    have les : (rowI es).length = es.length := by simp
    have lo : (out.map cMo).length = out.length := by simp
    rcases Nat.lt_or_ge most out.length with h | h
    · have hr : (out ++ findL S 0 ns es).take (most + 1) = out := List.take_left' (by omega)
      rw [hr]
      refine zen Tryz.func127 (by kernel_rfl) rfl Tryz.ntmps127 rfl (by simp) ?_
      repeat (first | (show AWp _ _ _ _ _ _; first | refine a_regR mixed (by decide +kernel) ?_) | refine gN pk ?_ | (show AL _ _ _ _ _ _ _; first | refine jO tok 0 ?_ | refine zol tok 1 rfl rfl rfl rfl (by decide) rfl rfl rfl ?_))
      exact fin (x := .tup []) (.inr rfl) rfl (Sub.refl _) ⟨_, rfl, rfl⟩ (OSub.refl _)
    · have hr : (out ++ findL S 0 ns es).take (most + 1) = out ++ [(ns, es)] := by
        unfold findL
        exact List.take_of_length_le (by simp; omega)
      rw [hr]
      have hmo : (out ++ [(ns, es)]).map cMo = out.map cMo ++ [[.im 1 ([] ++ rowI ns), .im 1 ([] ++ rowI es)]] := by simp
      refine zen Tryz.func127 (by kernel_rfl) rfl Tryz.ntmps127 rfl (by simp) ?_
      repeat (first | (show AWp _ _ _ _ _ _; first | refine a_regR mixed (by decide +kernel) ?_) | refine gN pk ?_ | (show AL _ _ _ _ _ _ _; first | refine jO tok 0 ?_ | refine zol tok 1 rfl rfl rfl rfl (by decide) rfl rfl rfl ?_))
      refine AWp.mono (Q := fun e st L => e = .normal ∧ ∃ w, GoTo 135 st L (lk []) (roL 95 t S a b most u w (out ++ [(ns, es)]))) ?_ (fun e st L h => ?_)
      · refine zrg ((List.range 17).map fun i => if inL [4, 5, 7, 8, 10, 12, 13, 16] i = true then .eff else .pure) [] [0, 1, 2, 3, 6, 9] (.nd 4 [] (.nd 5 [] (.nd 7 [8, 10, 11, 12, 13, 14, 15, 16] .stop (.nd 8 [7, 10, 11, 12, 13, 14, 15, 16] .stop .stop)) (.nd 8 [5, 7, 10, 11, 12, 13, 14, 15, 16] .stop .stop)) (.nd 5 [] (.nd 4 [] (.nd 7 [8, 10, 11, 12, 13, 14, 15, 16] .stop (.nd 8 [7, 10, 11, 12, 13, 14, 15, 16] .stop .stop)) (.nd 7 [] (.nd 4 [8, 10, 11, 12, 13, 14, 15, 16] .stop (.nd 8 [] (.nd 4 [10, 11, 12, 13, 14, 15, 16] .stop (.nd 10 [11] (.nd 4 [12, 13, 14, 15, 16] .stop (.nd 12 [4, 13, 14, 15, 16] .stop .stop)) .stop)) .stop)) (.nd 8 [] (.nd 4 [7, 10, 11, 12, 13, 14, 15, 16] .stop (.nd 7 [] (.nd 4 [10, 11, 12, 13, 14, 15, 16] .stop (.nd 10 [11] (.nd 4 [12, 13, 14, 15, 16] .stop (.nd 12 [4, 13, 14, 15, 16] .stop .stop)) .stop)) .stop)) .stop))) (.nd 8 [] (.nd 4 [5, 7, 10, 11, 12, 13, 14, 15, 16] .stop (.nd 5 [] (.nd 4 [7, 10, 11, 12, 13, 14, 15, 16] .stop (.nd 7 [] (.nd 4 [10, 11, 12, 13, 14, 15, 16] .stop (.nd 10 [11] (.nd 4 [12, 13, 14, 15, 16] .stop (.nd 12 [4, 13, 14, 15, 16] .stop .stop)) .stop)) .stop)) .stop)) .stop))) mixed rfl rfl (by decide +kernel) ?_
        repeat' (first | (with_reducible show AG _ _ _ _ _ _ _ _ _ _; first | exact zgn | refine zgs ?_ | refine znd ?_ ?_) | (show AMid _ _ _ _; first | refine zmf ?_ | refine zmg (by first | exact OSub.refl _ | exact .drop (OSub.refl _) | exact .drop (.drop (OSub.refl _))) ?_) | refine gY pk ?_ | (show AL _ _ _ _ _ _ _; first | refine jO tok 0 ?_ | refine jO tok 1 ?_ | refine jO tok 2 ?_ | refine s_build tok (parts := []) rfl rfl rfl rfl rfl rfl rfl rfl (by decide) (by decide) (fun v => ?_) | refine s_appendImF tok 0 rfl rfl rfl rfl rfl rfl (by decide) rfl rfl rfl rfl (rowI_cell _) (by simp only [lns, les, List.length_nil]; omega) (by simp only [lns, les, List.length_nil]; omega) ?_ | refine s_appendImF tok 1 rfl rfl rfl rfl rfl rfl (by decide) rfl rfl rfl rfl (rowI_cell _) (by simp only [lns, les, List.length_nil]; omega) (by simp only [lns, les, List.length_nil]; omega) ?_ | refine zba tok rfl rfl rfl rfl rfl rfl rfl rfl (by decide) (fun lv => ?_) | refine zak tok 1 rfl rfl rfl rfl rfl rfl (by decide) rfl rfl rfl rfl (by omega) (by omega) (fun w hw => ?_) | refine zsb tok 0 rfl rfl rfl rfl rfl rfl rfl (by assumption) rfl (Nat.le_of_ble_eq_true rfl) rfl ?_) | fail)
        all_goals
          refine ⟨rfl, w, .sub (by exact subQ) ?_⟩
          show OSub [(u, OB.box (rsA t S a b most (.lit w))), (w, OB.row 95 2 ((out ++ [(ns, es)]).map cMo))] _
          rw [hmo]
          exact OSub.refl _
      · obtain ⟨rfl, w, h'⟩ := h
        refine zgt h' ?_
        repeat (first | refine gA pk ?_)
        exact fin (x := .tup []) (.inr rfl) rfl (Sub.refl _) ⟨_, rfl, rfl⟩ (OSub.refl _)
  | succ m ih =>
    intro es hm he u vo out ho
    have les : (rowI es).length = es.length := by simp
    have lo : (out.map cMo).length = out.length := by simp
    rcases Nat.lt_or_ge most out.length with h | h
    · have hr : (out ++ findL S (m + 1) ns es).take (most + 1) = out := List.take_left' (by omega)
      rw [hr]
      refine zen Tryz.func127 (by kernel_rfl) rfl Tryz.ntmps127 rfl (by simp) ?_
      repeat (first | (show AWp _ _ _ _ _ _; first | refine a_regR mixed (by decide +kernel) ?_) | refine gN pk ?_ | (show AL _ _ _ _ _ _ _; first | refine jO tok 0 ?_ | refine zol tok 1 rfl rfl rfl rfl (by decide) rfl rfl rfl ?_))
      exact fin (x := .tup []) (.inr rfl) rfl (Sub.refl _) ⟨_, rfl, rfl⟩ (OSub.refl _)
    · have hlt : ¬ ns.length < S.p.nodes.length := by omega
      have hel : es.length < S.p.edges.length := by omega
      rw [findL_edges hlt]
      have hxi := List.getElem?_eq_getElem hel
      have hxe := (hS.p.edges _ (List.getElem_mem hel)).2
      generalize S.p.edges[es.length] = x at hxi hxe
      obtain ⟨x1, x2, x3⟩ := x
      simp only at hxe
      have hn2 := List.getElem?_eq_getElem (l := ns) (i := x2.toNat) (by omega)
      have hn3 := List.getElem?_eq_getElem (l := ns) (i := x3.toNat) (by omega)
      generalize ns[x2.toNat]'(by omega) = n2 at *
      generalize ns[x3.toNat]'(by omega) = n3 at *
      have k2 : (rowI ns)[x2.toNat]? = some [AI n2] := zmp (f := cI) hn2
      have k3 : (rowI ns)[x3.toNat]? = some [AI n3] := zmp (f := cI) hn3
      have xk : (S.p.edges.map cEd)[(es.length : Int).toNat]? = some [AI x1, AI x2, AI x3] := zmp (f := cEd) hxi
      have xkk : (S.p.edges.map cEd)[((rowI es).length : Int).toNat]? = some [AI x1, AI x2, AI x3] := by rw [les]; exact xk
      have hbi := List.getElem?_eq_getElem (l := b) (i := es.length) (by omega)
      have hgv : gvn S.pe es.length = b[es.length]'(by omega) := by
        rw [hb]
        show b.getD es.length (-1) = _
        rw [List.getD_eq_getElem?_getD, hbi]; rfl
      generalize b[es.length]'(by omega) = w at *
      have bk : (rowI b)[(es.length : Int).toNat]? = some [AI w] := zmp (f := cI) hbi
      refine zen Tryz.func127 (by kernel_rfl) rfl Tryz.ntmps127 rfl (by simp) ?_
      repeat (first | (show AWp _ _ _ _ _ _; first | refine a_regR mixed (by decide +kernel) ?_) | refine gN pk ?_ | (show AL _ _ _ _ _ _ _; first | refine jO tok 0 ?_ | refine jO tok 1 ?_ | refine zol tok 1 rfl rfl rfl rfl (by decide) rfl rfl rfl ?_ | refine jL tok (fun ux => ?_) | refine jS tok 0 ?_ | refine jX tok xkk ?_))
      refine zfb 0 7 rfl rfl ?_
      rw [les]
      obtain ⟨f, hf⟩ : ∃ f : Nat → List Mo, (fun k => if candE S ns es k = true then findL S m ns (es ++ [(k : Int)]) else []) = f := ⟨_, rfl⟩
      have hfk := fun k => (congrFun hf k).symm
      rw [hf]
      have h0 : (out ++ (List.range 0).flatMap f).take (most + 1) = out := by rw [List.range_zero, List.flatMap_nil, List.append_nil]; exact List.take_of_length_le (by omega)
      refine a_loopG2 (fun (k : Nat) (vo : Value) => [(0, .pt u 0 0 0), (1, ints ns), (2, ints es), (6, AI es.length), (7, .ip [AI x1, AI x2, AI x3]), (8, AI k)]) (fun k vo => roL 95 t S a b most u vo ((out ++ (List.range k).flatMap f).take (most + 1))) (fun k _ => k ≤ S.g.edges.length) (fun k _ => S.g.edges.length - k) 0 vo (Nat.zero_le _) (.sub (by exact subQ) (by rw [h0]; exact OSub.refl _)) ?_
      clear vo h0
      intro k vo hk
      have hlo : ((out ++ (List.range k).flatMap f).take (most + 1)).length ≤ most + 1 := by rw [List.length_take]; omega
      rcases Nat.lt_or_ge k S.g.edges.length with h2 | h2
      · have hstep := find_loop out f k (most + 1)
        generalize (out ++ (List.range k).flatMap f).take (most + 1) = O at *
        have hy := List.getElem?_eq_getElem h2
        have heq : eqE S ns es.length k = (decide (S.g.edges[k].ty = x1) && (decide (S.g.edges[k].fr = n2) && decide (S.g.edges[k].to = n3))) := by
          unfold eqE
          rw [hxi, hy]
          simp only [List.getD_eq_getElem?_getD, hn2, hn3, Option.getD_some]
        generalize S.g.edges[k] = y at hy heq
        obtain ⟨y1, y2, y3⟩ := y
        simp only at heq
        have yk : (S.g.edges.map cEd)[(k : Int).toNat]? = some [AI y1, AI y2, AI y3] := zmp (f := cEd) hy
        have su := ACalls.lendA (L := roL 95 t S a b most u vo O) (args' := [.pt u 0 0 0, ints es, AI k]) (gused_spec t S a b most (mosA O) es (by omega) k) ⟨ro_fv _ t S a b most u vo O, FV.refl _, FV.refl _, trivial⟩ fd_free
        have hcand : candE S ns es k = ((!offN S.pe es.length k && eqE S ns es.length k) && !(S.inj && decide ((k : Int) ∈ es))) := rfl
        obtain ⟨cb, hcb⟩ : ∃ cb, candE S ns es k = cb := ⟨_, rfl⟩
        have hff := hfk k
        rw [hcb] at hff hcand
        unfold offN at hcand
        rw [hgv, heq] at hcand
        generalize (S.inj && decide ((k : Int) ∈ es)) = us at *
        repeat (first | refine gN pk ?_ | (show AL _ _ _ _ _ _ _; first | refine jO tok 0 ?_ | refine jX tok yk ?_ | refine jL tok (fun ux => ?_) | refine jS tok 0 ?_))
        refine zfb 0 9 rfl rfl ?_
        refine AWp.mono (Q := fun e st L => e = .normal ∧ GoTo 135 st L (lk [(0, .pt u 0 0 0), (1, ints ns), (2, ints es), (6, AI es.length), (7, .ip [AI x1, AI x2, AI x3]), (8, AI k), (125, AB (!cb))]) (roL 95 t S a b most u vo O)) ?_ (fun e st L h' => ?_)
        · refine zrg ((List.range 54).map fun i => if inL [25] i = true then .eff else if inL [4, 6, 7, 14, 16, 17, 29, 31, 36, 39, 40, 41, 46, 49, 50, 51] i = true then .read else .pure) [] [0, 1, 2, 3, 4, 5, 6, 7, 8, 9, 10, 11, 12, 13, 14, 15, 16, 17, 18, 19, 20, 21, 22, 23, 24, 25, 26, 27, 28, 29, 30, 31, 32, 33, 34, 35, 36, 37, 38, 39, 40, 41, 42, 43, 44, 45, 46, 47, 48, 49, 50, 51, 52, 53] .stop mixed rfl rfl (by decide +kernel) ?_
          have hd : (0 ≤ w ∧ w ≠ k) ∨ ¬ 0 ≤ w ∨ (0 ≤ w ∧ w = k) := by omega
          rcases hd with ⟨hw0, hwk⟩ | hw0 | ⟨hw0, hwk⟩
          · have hcf : cb = false := by rw [hcand]; simp [hw0, hwk]
            subst hcf
            repeat' (first | (with_reducible show AG _ _ _ _ _ _ _ _ _ _; first | exact zgn | refine zgs ?_ | refine znd ?_ ?_) | (show AMid _ _ _ _; first | refine zmf ?_ | refine zmg (by first | exact OSub.refl _ | exact .drop (OSub.refl _) | exact .drop (.drop (OSub.refl _))) ?_) | refine gY pk ?_ | (show AL _ _ _ _ _ _ _; first | refine jO tok 0 ?_ | refine jX tok bk ?_) | fail)
            exact ⟨rfl, .sub (by exact subQ) (OSub.refl _)⟩
          all_goals
            have hc2 : cb = ((decide (y1 = x1) && (decide (y2 = n2) && decide (y3 = n3))) && !us) := by rw [hcand]; simp [hw0, *]
            subst hc2
            cases us with
            | true =>
              rw [Bool.not_true, Bool.and_false]
              repeat' (first | (with_reducible show AG _ _ _ _ _ _ _ _ _ _; first | exact zgn | refine zgs ?_ | refine znd ?_ ?_) | (show AMid _ _ _ _; first | refine zmf ?_ | refine zmg (by first | exact OSub.refl _ | exact .drop (OSub.refl _) | exact .drop (.drop (OSub.refl _))) ?_) | refine gY pk ?_ | (show AL _ _ _ _ _ _ _; first | refine jO tok 0 ?_ | refine jX tok bk ?_ | refine zsc (Lc := roL 95 t S a b most u vo O) (Lr := []) rfl rfl rfl rfl rfl su (SubL.of_eq rfl) (List.Perm.refl _) ?_; rintro _ _ ⟨⟨rfl, -⟩, rfl⟩) | fail)
              exact ⟨rfl, .sub (by exact subQ) (OSub.refl _)⟩
            | false =>
              rw [Bool.not_false, Bool.and_true]
              by_cases e1 : y1 = x1
              · by_cases e2 : y2 = n2
                · by_cases e3 : y3 = n3
                  all_goals
                    rw [decide_eq_true e1, decide_eq_true e2]
                    first | rw [decide_eq_true e3] | rw [decide_eq_false e3]
                    repeat' (first | (with_reducible show AG _ _ _ _ _ _ _ _ _ _; first | exact zgn | refine zgs ?_ | refine znd ?_ ?_) | (show AMid _ _ _ _; first | refine zmf ?_ | refine zmg (by first | exact OSub.refl _ | exact .drop (OSub.refl _) | exact .drop (.drop (OSub.refl _))) ?_) | refine gY pk ?_ | (show AL _ _ _ _ _ _ _; first | refine jO tok 0 ?_ | refine jX tok bk ?_ | refine zsc (Lc := roL 95 t S a b most u vo O) (Lr := []) rfl rfl rfl rfl rfl su (SubL.of_eq rfl) (List.Perm.refl _) ?_; rintro _ _ ⟨⟨rfl, -⟩, rfl⟩ | refine jX tok k2 ?_ | refine jX tok k3 ?_) | fail)
                    exact ⟨rfl, .sub (by exact subQ) (OSub.refl _)⟩
                · rw [decide_eq_false e2, Bool.false_and, Bool.and_false]
                  repeat' (first | (with_reducible show AG _ _ _ _ _ _ _ _ _ _; first | exact zgn | refine zgs ?_ | refine znd ?_ ?_) | (show AMid _ _ _ _; first | refine zmf ?_ | refine zmg (by first | exact OSub.refl _ | exact .drop (OSub.refl _) | exact .drop (.drop (OSub.refl _))) ?_) | refine gY pk ?_ | (show AL _ _ _ _ _ _ _; first | refine jO tok 0 ?_ | refine jX tok bk ?_ | refine zsc (Lc := roL 95 t S a b most u vo O) (Lr := []) rfl rfl rfl rfl rfl su (SubL.of_eq rfl) (List.Perm.refl _) ?_; rintro _ _ ⟨⟨rfl, -⟩, rfl⟩ | refine jX tok k2 ?_ | refine jX tok k3 ?_) | fail)
                  exact ⟨rfl, .sub (by exact subQ) (OSub.refl _)⟩
              · rw [decide_eq_false e1, Bool.false_and]
                repeat' (first | (with_reducible show AG _ _ _ _ _ _ _ _ _ _; first | exact zgn | refine zgs ?_ | refine znd ?_ ?_) | (show AMid _ _ _ _; first | refine zmf ?_ | refine zmg (by first | exact OSub.refl _ | exact .drop (OSub.refl _) | exact .drop (.drop (OSub.refl _))) ?_) | refine gY pk ?_ | (show AL _ _ _ _ _ _ _; first | refine jO tok 0 ?_ | refine jX tok bk ?_ | refine zsc (Lc := roL 95 t S a b most u vo O) (Lr := []) rfl rfl rfl rfl rfl su (SubL.of_eq rfl) (List.Perm.refl _) ?_; rintro _ _ ⟨⟨rfl, -⟩, rfl⟩ | refine jX tok k2 ?_ | refine jX tok k3 ?_) | fail)
                exact ⟨rfl, .sub (by exact subQ) (OSub.refl _)⟩
        · obtain ⟨rfl, h'⟩ := h'
          refine zgt h' ?_
          clear h'
          cases cb with
          | false =>
            have hnew : (out ++ (List.range (k + 1)).flatMap f).take (most + 1) = O := by rw [← hstep, hff, if_neg (by decide), List.append_nil, List.take_of_length_le hlo]
            repeat (first | refine gA pk ?_)
            exact ⟨k + 1, vo, by omega, by omega, .sub (by exact subQ) (by rw [hnew]; exact OSub.refl _)⟩
          | true =>
            rw [if_pos rfl] at hff
            have hI : ints (es ++ [(k : Int)]) = .im 1 ([] ++ rowI es ++ [[AI k]]) := by simp [cI]
            have sg : ∀ w2, ACalls Tryz.prog 127 [.pt u 0 0 0, ints ns, .lit w2] ((w2, .row 3 1 ([] ++ rowI es ++ [[AI k]])) :: roL 95 t S a b most u vo O) (fun y M => ∃ vo', y = .tup [] ∧ M = roL 95 t S a b most u vo' ((O ++ findL S m ns (es ++ [(k : Int)])).take (most + 1))) := fun w2 => by
              have h3 := ih (es ++ [(k : Int)]) (by simp; omega) (by simp; omega) u vo O hlo
              rw [hI] at h3
              exact ACalls.give (E := 3) h3 (zfo (FZL.refl _) (zfw (mo_rows' _) trivial)) ⟨FZ.refl _, FZ.refl _, FZ.here, trivial⟩
            repeat (first | refine gA pk ?_ | (show AL _ _ _ _ _ _ _; first | refine s_build tok (parts := []) rfl rfl rfl rfl rfl rfl rfl rfl (by decide) (by decide) (fun v => ?_) | refine s_appendIm tok 0 rfl rfl rfl rfl rfl rfl (by decide) rfl rfl rfl rfl (rowI_cell _) (by simp only [lns, les, List.length_nil]; omega) (by simp only [lns, les, List.length_nil]; omega) (fun w1 => ?_) | refine s_build1 tok rfl rfl rfl rfl rfl rfl rfl rfl (fun lv => ?_) | refine zak tok 0 rfl rfl rfl rfl rfl rfl (by decide) rfl rfl rfl rfl (by simp only [List.nil_append, les]; omega) (by simp only [List.nil_append, les]; omega) (fun w2 hw => ?_) | refine zsc (Lc := (w2, .row 3 1 ([] ++ rowI es ++ [[AI k]])) :: roL 95 t S a b most u vo O) (Lr := []) rfl rfl rfl rfl rfl (sg w2) (SubL.of_eq rfl) (List.Perm.refl _) ?_; rintro _ _ ⟨vo2, rfl, rfl⟩))
            exact ⟨k + 1, vo2, by omega, by omega, .sub (by exact subQ) (by rw [← hstep, hff]; exact OSub.refl _)⟩
      · obtain rfl : k = S.g.edges.length := by omega
        repeat (first | refine gA pk ?_ | (show AL _ _ _ _ _ _ _; first | refine jO tok 0 ?_))
        exact fin (x := .tup []) (.inl rfl) rfl (Sub.refl _) ⟨_, rfl, rfl⟩ (OSub.refl _)
end Go.Proofs.YtddohheabpiljaaGreat
end
