/- Parts of a proof. -/
import Derived.Test.YtimfponihbfimaaGreatP26
set_option linter.unusedVariables false
set_option linter.unusedSimpArgs false
section
namespace Go.Proofs.YtimfponihbfimaaGreat
open Go.Sj Go.Sj.Typ Go.Sj.Sta Go.Sj.Inc
set_option maxRecDepth 8000
set_option maxHeartbeats 16000000
structure SeaT (t : Tys) (S : Sea) : Prop extends SeaOk S where
  ok : S.ok = okT t
  tp : ∀ x ∈ S.p.nodes, 0 ≤ x ∧ x < t.nodes.length
  tg : ∀ x ∈ S.g.nodes, 0 ≤ x ∧ x < t.nodes.length
abbrev foL (E1 E2 : Nat) (S : Sea) (tb : AV) (most : Int) (u vn ve vo : Value) (ns es : List Int) (out : List Mo) : Own := [(u, .box (fdA S tb (.lit vn) (.lit ve) (.lit vo) most)), (vn, .row E1 1 (rowI ns)), (ve, .row E1 1 (rowI es)), (vo, .row E2 2 (out.map cMo))]
theorem cloneO_spec (v : Value) (l : List Int) (hl : l.length ≤ 1000) : ACalls Tryz.prog 122 [.lit v] [(v, .row 3 1 (rowI l))] (fun y M => ∃ w, y = .lit w ∧ M = [(w, .row 3 1 (rowI l)), (v, .row 3 1 (rowI l))]) :=
  (ACalls.lendZ (E := 3) (CloneN_spec l (by omega)) (v := v) (sz := 1) (es := rowI l) (args' := [.lit v]) ⟨FZ.here, trivial⟩ (fun y M ⟨w, h1, h2⟩ => by
    subst h1; subst h2
    refine ⟨.lit _, fun p hp => ?_⟩
    rw [List.mem_singleton] at hp
    subst hp
    intro e he x hx
    obtain ⟨z, _, rfl⟩ := List.mem_map.1 he
    have hx : x ∈ [AI z] := hx
    rw [List.mem_singleton] at hx
    subst hx
    exact .lit _)).mono fun y M ⟨M', ⟨w, h1, h2⟩, h3⟩ => ⟨w, h1, by rw [h3, h2]; rfl⟩
theorem fd_free {b : Bool} (x : AV) (M : Own) (h : x = AB b ∧ M = ([] : Own)) : Free x ∧ M = [] := by
  obtain ⟨rfl, rfl⟩ := h
  exact ⟨.lit _, rfl⟩
theorem fd_fv (E1 E2 : Nat) (S : Sea) (tb : AV) (most : Int) (u vn ve vo : Value) (ns es : List Int) (out : List Mo) : FV (foL E1 E2 S tb most u vn ve vo ns es out) (.pt u 0 0 0) (.ip (fdA S tb (ints ns) (ints es) (mosA out) most)) :=
  FV.trans (FV.box (cells := fdA S tb (.lit vn) (.lit ve) (.lit vo) most) (by simp)) (FV.ip (l := fdA S tb (.lit vn) (.lit ve) (.lit vo) most) (m := fdA S tb (ints ns) (ints es) (mosA out) most) ⟨FV.refl _, FV.refl _, FV.refl _, FV.refl _, FV.refl _, FV.refl _, FV.refl _, FV.refl _, FV.refl _, FV.row (E := E1) (by simp), FV.row (E := E1) (by simp), FV.row (E := E2) (by simp), trivial⟩)
theorem findL_nodes {S : Sea} {m : Nat} {ns es : List Int} (h : ns.length < S.p.nodes.length) : findL S (m + 1) ns es = (List.range S.g.nodes.length).flatMap fun k => if candN S ns k = true then findL S m (ns ++ [(k : Int)]) es else [] := by
  conv => lhs; unfold findL
  rw [if_pos h]
theorem findL_edges {S : Sea} {m : Nat} {ns es : List Int} (h : ¬ ns.length < S.p.nodes.length) : findL S (m + 1) ns es = (List.range S.g.edges.length).flatMap fun k => if candE S ns es k = true then findL S m ns (es ++ [(k : Int)]) else [] := by
  conv => lhs; unfold findL
  rw [if_neg h]
theorem find_rec (t : Tys) (ht : Small t) (S : Sea) (hS : SeaT t S) (most : Nat) (hmost : most ≤ 10000) : ∀ (m : Nat) (ns es : List Int), m = remS S ns es → ns.length ≤ S.p.nodes.length → es.length ≤ S.p.edges.length → (ns.length < S.p.nodes.length → es = []) → ∀ (u vn ve vo : Value) (out : List Mo), out.length ≤ most →
    ACalls Tryz.prog 117 [.pt u 0 0 0] (foL 3 88 S (tabA (tabT t)) most u vn ve vo ns es out) (fun y M => ∃ vn' ve' vo', y = .tup [] ∧ M = foL 3 88 S (tabA (tabT t)) most u vn' ve' vo' ns es ((out ++ findL S m ns es).take most)) := by
  have hgn := hS.g.nl
  have hge := hS.g.el
  have hpn := hS.p.nl
  have hpe := hS.p.el
  have htn := ht.nodes
  have lpn : (rowI S.p.nodes).length = S.p.nodes.length := by simp
  have lgn : (rowI S.g.nodes).length = S.g.nodes.length := by simp
  have lpe : (S.p.edges.map cEd).length = S.p.edges.length := by simp
  have lge : (S.g.edges.map cEd).length = S.g.edges.length := by simp
  intro m
  induction m with
  | zero =>
    intro ns es hm hn he hne u vn ve vo out ho
    have lns : (rowI ns).length = ns.length := by simp
    have les : (rowI es).length = es.length := by simp
    have lo : (out.map cMo).length = out.length := by simp
    unfold remS at hm
    rcases Nat.lt_or_ge out.length most with h | h
    · have hr : (out ++ findL S 0 ns es).take most = out ++ [(ns, es)] := by
        unfold findL
        exact List.take_of_length_le (by simp; omega)
      rw [hr]
      have s1 := cloneO_spec vn ns (by omega)
      have s2 := cloneO_spec ve es (by omega)
      refine zen Tryz.func117 (by kernel_rfl) rfl Tryz.ntmps117 rfl (by simp) ?_
      repeat (first | (show AWp _ _ _ _ _ _; first | refine a_regR mixed (by decide +kernel) ?_) | refine gN pk ?_ | (show AL _ _ _ _ _ _ _; first | refine jO tok 0 ?_ | refine zol tok 3 rfl rfl rfl rfl (by decide) rfl rfl rfl ?_ | refine zol tok 1 rfl rfl rfl rfl (by decide) rfl rfl rfl ?_ | refine zol tok 2 rfl rfl rfl rfl (by decide) rfl rfl rfl ?_))
      have hmo : (out ++ [(ns, es)]).map cMo = out.map cMo ++ [[ints ns, ints es]] := by simp
      refine zrg ((List.range 21).map fun i => if inL [9, 14, 16, 17, 20] i = true then .eff else if inL [4, 8, 13] i = true then .read else .pure) [9, 14, 16] [0, 1, 2, 3, 4, 5, 6, 7, 8, 10, 11, 12, 13] (.nd 9 [] (.nd 14 [15] (.nd 16 [17, 18, 19, 20] .stop .stop) .stop) .stop) mixed rfl rfl (by decide +kernel) ?_
      repeat' (first | (with_reducible show AG _ _ _ _ _ _ _ _ _ _; first | exact zgn | refine zgs ?_ | refine znd ?_ ?_) | (show AMid _ _ _ _; first | refine zmf ?_ | refine zmg (by first | exact OSub.refl _ | exact .drop (OSub.refl _) | exact .drop (.drop (OSub.refl _))) ?_) | refine gY pk ?_ | (show AL _ _ _ _ _ _ _; first | refine jO tok 0 ?_ | refine s_frzNowP (M := foL 3 88 S (tabA (tabT t)) most u vn ve vo ns es out) 0 rfl rfl rfl (zsc (Lc := [(vn, .row 3 1 (rowI ns))]) (Lr := [(u, .box (fdA S (tabA (tabT t)) (.lit vn) (.lit ve) (.lit vo) most)), (ve, .row 3 1 (rowI es)), (vo, .row 88 2 (out.map cMo))]) rfl rfl rfl rfl rfl s1 (SubL.of_eq rfl) (List.Perm.swap _ _ _) (by rintro _ _ ⟨w, rfl, rfl⟩; exact AL.nil ⟨w, rfl, rfl, List.Perm.swap _ _ _⟩)) ?_ | refine s_frzNowP (M := foL 3 88 S (tabA (tabT t)) most u vn ve vo ns es out) 0 rfl rfl rfl (zsc (Lc := [(ve, .row 3 1 (rowI es))]) (Lr := [(u, .box (fdA S (tabA (tabT t)) (.lit vn) (.lit ve) (.lit vo) most)), (vn, .row 3 1 (rowI ns)), (vo, .row 88 2 (out.map cMo))]) rfl rfl rfl rfl rfl s2 (SubL.of_eq rfl) (List.perm_middle (l₁ := ([(u, OB.box (fdA S (tabA (tabT t)) (.lit vn) (.lit ve) (.lit vo) most)), (vn, OB.row 3 1 (rowI ns))] : Own))) (by rintro _ _ ⟨w, rfl, rfl⟩; exact AL.nil ⟨w, rfl, rfl, (List.perm_middle (l₁ := ([(u, OB.box (fdA S (tabA (tabT t)) (.lit vn) (.lit ve) (.lit vo) most)), (vn, OB.row 3 1 (rowI ns))] : Own))).symm⟩)) ?_ | refine zba tok rfl rfl rfl rfl rfl rfl rfl rfl (by decide) (fun lv => ?_) | refine zak tok 3 rfl rfl rfl rfl rfl rfl (by decide) rfl rfl rfl rfl (by omega) (by omega) (fun w hw => ?_) | refine zsb tok 0 rfl rfl rfl rfl rfl rfl rfl (by assumption) rfl (Nat.le_of_ble_eq_true rfl) rfl ?_) | fail)
      repeat (first | refine gA pk ?_)
      rw [← hmo]
      exact fin (x := .tup []) (.inl rfl) rfl (Sub.refl _) ⟨_, _, _, rfl, rfl⟩ (OSub.refl _)
    · have hr : (out ++ findL S 0 ns es).take most = out := List.take_left' (by omega)
      rw [hr]
      refine zen Tryz.func117 (by kernel_rfl) rfl Tryz.ntmps117 rfl (by simp) ?_
      repeat (first | (show AWp _ _ _ _ _ _; first | refine a_regR mixed (by decide +kernel) ?_) | refine gN pk ?_ | (show AL _ _ _ _ _ _ _; first | refine jO tok 0 ?_ | refine zol tok 3 rfl rfl rfl rfl (by decide) rfl rfl rfl ?_))
      exact fin (x := .tup []) (.inl rfl) rfl (Sub.refl _) ⟨_, _, _, rfl, rfl⟩ (OSub.refl _)
  | succ m ih =>
    intro ns es hm hn he hne u vn ve vo out ho
    have lns : (rowI ns).length = ns.length := by simp
    have les : (rowI es).length = es.length := by simp
    have lo : (out.map cMo).length = out.length := by simp
    rcases Nat.lt_or_ge out.length most with h | h
    · by_cases hlt : ns.length < S.p.nodes.length
      · rw [findL_nodes hlt]
        obtain rfl := hne hlt
        refine zen Tryz.func117 (by kernel_rfl) rfl Tryz.ntmps117 rfl (by simp) ?_
        repeat (first | (show AWp _ _ _ _ _ _; first | refine a_regR mixed (by decide +kernel) ?_) | refine gN pk ?_ | (show AL _ _ _ _ _ _ _; first | refine jO tok 0 ?_ | refine zol tok 3 rfl rfl rfl rfl (by decide) rfl rfl rfl ?_ | refine zol tok 1 rfl rfl rfl rfl (by decide) rfl rfl rfl ?_ | refine zol tok 2 rfl rfl rfl rfl (by decide) rfl rfl rfl ?_))
        rw [lns, lgn]
        obtain ⟨f, hf⟩ : ∃ f : Nat → List Mo, (fun k => if candN S ns k = true then findL S m (ns ++ [(k : Int)]) [] else []) = f := ⟨_, rfl⟩
        have hfk := fun k => (congrFun hf k).symm
        rw [hf]
        have h0 : (out ++ (List.range 0).flatMap f).take most = out := by rw [List.range_zero, List.flatMap_nil, List.append_nil]; exact List.take_of_length_le (by omega)
        refine a_loopG7 (fun (k : Nat) (vn ve vo : Value) (_ _ _ : Unit) => [(0, .pt u 0 0 0), (2, AI ns.length), (61, ints S.g.nodes), (62, AI S.g.nodes.length), (63, AI k)]) (fun k vn ve vo _ _ _ => foL 3 88 S (tabA (tabT t)) most u vn ve vo ns [] ((out ++ (List.range k).flatMap f).take most)) (fun k _ _ _ _ _ _ => k ≤ S.g.nodes.length) (fun k _ _ _ _ _ _ => S.g.nodes.length - k) 0 vn ve vo () () () (Nat.zero_le _) (.sub (by exact subQ) (by rw [h0]; exact OSub.refl _)) ?_
        clear vn ve vo h0
        intro k vn ve vo _ _ _ hk
        have hlo : ((out ++ (List.range k).flatMap f).take most).length ≤ most := by rw [List.length_take]; omega
        rcases Nat.lt_or_ge k S.g.nodes.length with h2 | h2
        · have hstep := find_loop out f k most
          generalize (out ++ (List.range k).flatMap f).take most = O at *
          have hx := List.getElem?_eq_getElem h2
          have hz := List.getElem?_eq_getElem hlt
          obtain ⟨y, hy, hyt⟩ : ∃ y : Nat, S.g.nodes[k] = y ∧ y < t.nodes.length := by
            have := hS.tg _ (List.getElem_mem h2)
            exact ⟨S.g.nodes[k].toNat, by omega, by omega⟩
          obtain ⟨z, hz1, hzt⟩ : ∃ z : Nat, S.p.nodes[ns.length] = z ∧ z < t.nodes.length := by
            have := hS.tp _ (List.getElem_mem hlt)
            exact ⟨S.p.nodes[ns.length].toNat, by omega, by omega⟩
          rw [hy] at hx
          rw [hz1] at hz
          have xk : (rowI S.g.nodes)[(k : Int).toNat]? = some [AI y] := zmp (f := cI) hx
          have zk : (rowI S.p.nodes)[(ns.length : Int).toNat]? = some [AI z] := zmp (f := cI) hz
          have tz : ((tabT t).map cRow)[(z : Int).toNat]? = some [boolsA ((List.range t.nodes.length).map fun (b : Nat) => okT t z b)] := by
            rw [Int.toNat_natCast]
            unfold tabT
            rw [List.getElem?_map, List.getElem?_map, List.getElem?_range hzt]; rfl
          have ty : (((List.range t.nodes.length).map fun (b : Nat) => okT t z b).map cB)[(y : Int).toNat]? = some [AB (okT t z y)] := by
            rw [Int.toNat_natCast, List.getElem?_map, List.getElem?_map, List.getElem?_range hyt]; rfl
          have s1 := sgiven_spec S.pn ns.length (fun l hl => by have := hS.pn l hl; omega)
          have sc := ACalls.lendA (L := foL 3 88 S (tabA (tabT t)) most u vn ve vo ns [] O) (args' := [.lit vn, AI k]) (ContainsV_spec ns (by omega) k) ⟨FV.row (E := 3) (by simp), FV.refl _, trivial⟩ fd_free
          have hcand : candN S ns k = (!offN S.pn ns.length k && (okT t z y && !(S.inj && decide ((k : Int) ∈ ns)))) := by
            unfold candN
            rw [hS.ok, List.getD_eq_getElem?_getD, List.getD_eq_getElem?_getD, hz, hx]; rfl
          obtain ⟨cb, hcb⟩ : ∃ cb, candN S ns k = cb := ⟨_, rfl⟩
          have hff := hfk k
          rw [hcb] at hff hcand
          unfold offN at hcand
          generalize gvn S.pn ns.length = w at *
          generalize okT t z y = okb at *
          generalize decide ((k : Int) ∈ ns) = mem at *
          repeat (first | refine gN pk ?_ | (show AL _ _ _ _ _ _ _; first | refine jX tok xk ?_ | refine jO tok 0 ?_ | refine s_pe (x := optA S.pn) tok rfl rfl rfl rfl ?_ | refine jP s1 ?_))
          refine AWp.mono (Q := fun e st L => e = .normal ∧ GoTo 208 st L (lk [(0, .pt u 0 0 0), (2, AI ns.length), (3, AI k), (61, ints S.g.nodes), (62, AI S.g.nodes.length), (63, AI k), (115, AB (!cb))]) (foL 3 88 S (tabA (tabT t)) most u vn ve vo ns [] O)) ?_ (fun e st L h' => ?_)
          · refine zrg ((List.range 41).map fun i => if inL [38] i = true then .eff else if inL [11, 16, 18, 19, 20, 21, 23, 24, 31, 36] i = true then .read else .pure) [] [0, 1, 2, 3, 4, 5, 6, 7, 8, 9, 10, 11, 12, 13, 14, 15, 16, 17, 18, 19, 20, 21, 22, 23, 24, 25, 26, 27, 28, 29, 30, 31, 32, 33, 34, 35, 36, 37, 38, 39, 40] .stop mixed rfl rfl (by decide +kernel) ?_
            have hd : (0 ≤ w ∧ w ≠ k) ∨ ¬ 0 ≤ w ∨ (0 ≤ w ∧ w = k) := by omega
            rcases hd with ⟨hw0, hwk⟩ | hw0 | ⟨hw0, hwk⟩
            · have hcf : cb = false := by rw [hcand]; simp [hw0, hwk]
              subst hcf
              repeat' (first | (with_reducible show AG _ _ _ _ _ _ _ _ _ _; first | exact zgn | refine zgs ?_ | refine znd ?_ ?_) | (show AMid _ _ _ _; first | refine zmf ?_ | refine zmg (by first | exact OSub.refl _ | exact .drop (OSub.refl _) | exact .drop (.drop (OSub.refl _))) ?_) | refine gY pk ?_ | (show AL _ _ _ _ _ _ _; first | refine jO tok 0 ?_ | refine jX tok zk ?_ | refine jX tok tz ?_ | refine jX tok ty ?_) | fail)
              exact ⟨rfl, .sub (by exact subQ) (OSub.refl _)⟩
            all_goals
              have hc2 : cb = (okb && !(S.inj && mem)) := by rw [hcand]; simp [hw0, *]
              subst hc2
              cases okb with
              | false =>
                repeat' (first | (with_reducible show AG _ _ _ _ _ _ _ _ _ _; first | exact zgn | refine zgs ?_ | refine znd ?_ ?_) | (show AMid _ _ _ _; first | refine zmf ?_ | refine zmg (by first | exact OSub.refl _ | exact .drop (OSub.refl _) | exact .drop (.drop (OSub.refl _))) ?_) | refine gY pk ?_ | (show AL _ _ _ _ _ _ _; first | refine jO tok 0 ?_ | refine jX tok zk ?_ | refine jX tok tz ?_ | refine jX tok ty ?_) | fail)
                exact ⟨rfl, .sub (by exact subQ) (OSub.refl _)⟩
              | true =>
                repeat' (first | (with_reducible show AG _ _ _ _ _ _ _ _ _ _; first | exact zgn | refine zgs ?_ | refine znd ?_ ?_) | (show AMid _ _ _ _; first | refine zmf ?_ | refine zmg (by first | exact OSub.refl _ | exact .drop (OSub.refl _) | exact .drop (.drop (OSub.refl _))) ?_) | refine gY pk ?_ | (show AL _ _ _ _ _ _ _; first | refine jO tok 0 ?_ | refine jX tok zk ?_ | refine jX tok tz ?_ | refine jX tok ty ?_) | fail)
                cases hinj : S.inj with
                | false =>
                  repeat' (first | (with_reducible show AG _ _ _ _ _ _ _ _ _ _; first | exact zgn | refine zgs ?_ | refine znd ?_ ?_) | (show AMid _ _ _ _; first | refine zmf ?_ | refine zmg (by first | exact OSub.refl _ | exact .drop (OSub.refl _) | exact .drop (.drop (OSub.refl _))) ?_) | refine gY pk ?_ | (show AL _ _ _ _ _ _ _; first | refine jO tok 0 ?_ | refine jX tok zk ?_ | refine jX tok tz ?_ | refine jX tok ty ?_ | refine zsc (Lc := foL 3 88 S (tabA (tabT t)) most u vn ve vo ns [] O) (Lr := []) rfl rfl rfl rfl rfl sc (SubL.of_eq rfl) (List.Perm.refl _) ?_; rintro _ _ ⟨⟨rfl, -⟩, rfl⟩) | fail)
                  exact ⟨rfl, .sub (by exact subQ) (OSub.refl _)⟩
                | true =>
                  cases mem
                  all_goals
                    repeat' (first | (with_reducible show AG _ _ _ _ _ _ _ _ _ _; first | exact zgn | refine zgs ?_ | refine znd ?_ ?_) | (show AMid _ _ _ _; first | refine zmf ?_ | refine zmg (by first | exact OSub.refl _ | exact .drop (OSub.refl _) | exact .drop (.drop (OSub.refl _))) ?_) | refine gY pk ?_ | (show AL _ _ _ _ _ _ _; first | refine jO tok 0 ?_ | refine jX tok zk ?_ | refine jX tok tz ?_ | refine jX tok ty ?_ | refine zsc (Lc := foL 3 88 S (tabA (tabT t)) most u vn ve vo ns [] O) (Lr := []) rfl rfl rfl rfl rfl sc (SubL.of_eq rfl) (List.Perm.refl _) ?_; rintro _ _ ⟨⟨rfl, -⟩, rfl⟩) | fail)
                    exact ⟨rfl, .sub (by exact subQ) (OSub.refl _)⟩
          · obtain ⟨rfl, h'⟩ := h'
            refine zgt h' ?_
            clear h'
            cases cb with
            | false =>
              have hnew : (out ++ (List.range (k + 1)).flatMap f).take most = O := by rw [← hstep, hff, if_neg (by decide), List.append_nil, List.take_of_length_le hlo]
              repeat (first | refine gA pk ?_)
              exact ⟨k + 1, vn, ve, vo, (), (), (), by omega, by omega, .sub (by exact subQ) (by rw [hnew]; exact OSub.refl _)⟩
            | true =>
              rw [if_pos rfl] at hff
              have hrow : rowI (ns ++ [(k : Int)]) = rowI ns ++ [[AI k]] := by simp [cI]
              have hrem : m = remS S (ns ++ [(k : Int)]) [] := by
                unfold remS at hm ⊢
                simp only [List.length_append, List.length_cons, List.length_nil] at hm ⊢
                omega
              have hnl1 : (ns ++ [(k : Int)]).length = ns.length + 1 := by simp
              have sp := fun w => ACalls.lendA (L := foL 3 88 S (tabA (tabT t)) most u w ve vo (ns ++ [(k : Int)]) [] O) (args' := [.pt u 0 0 0]) (spossible_spec S hS.toSeaOk (tabA (tabT t)) (ints []) (mosA O) most (ns ++ [(k : Int)]) (by omega)) ⟨fd_fv _ _ S _ most u w ve vo _ _ O, trivial⟩ fd_free
              have sf := fun w => ih (ns ++ [(k : Int)]) [] hrem (by omega) (Nat.zero_le _) (fun _ => rfl) u w ve vo O hlo
              have hdead : possB S (ns ++ [(k : Int)]) = false → findL S m (ns ++ [(k : Int)]) [] = [] := fun hp => poss_dead hS.p hp hrem (by omega) rfl
              have htake : (rowI (ns ++ [(k : Int)])).take ns.length = rowI ns := by rw [hrow]; exact List.take_left' (by omega)
              have lns1 : (rowI (ns ++ [(k : Int)])).length = ns.length + 1 := by rw [hrow]; simp
              repeat (first | refine gN pk ?_ | (show AL _ _ _ _ _ _ _; first | refine jO tok 0 ?_ | refine s_build1 tok rfl rfl rfl rfl rfl rfl rfl rfl (fun lv => ?_) | refine zak tok 1 rfl rfl rfl rfl rfl rfl (by decide) rfl rfl rfl rfl (by omega) (by omega) (fun w hw => ?_) | refine zsb tok 0 rfl rfl rfl rfl rfl rfl rfl (by assumption) rfl (Nat.le_of_ble_eq_true rfl) rfl ?_))
              rw [← hrow]
              replace sp := sp w
              replace sf := sf w
              generalize hpb : possB S (ns ++ [(k : Int)]) = pb at *
              cases pb with
              | true =>
                repeat (first | refine gZ pk ?_ | (show AL _ _ _ _ _ _ _; first | refine zsc (Lc := foL 3 88 S (tabA (tabT t)) most u w ve vo (ns ++ [(k : Int)]) [] O) (Lr := []) rfl rfl rfl rfl rfl sp (SubL.of_eq rfl) (List.Perm.refl _) ?_; rintro _ _ ⟨⟨rfl, -⟩, rfl⟩))
                refine a_reg ?_
                repeat (first | refine gZ pk ?_ | (show AL _ _ _ _ _ _ _; first | refine zsc (Lc := foL 3 88 S (tabA (tabT t)) most u w ve vo (ns ++ [(k : Int)]) [] O) (Lr := []) rfl rfl rfl rfl rfl sf (SubL.of_eq rfl) (List.Perm.refl _) ?_; rintro _ _ ⟨vn2, ve2, vo2, rfl, rfl⟩))
                rw [← hff, hstep]
                repeat (first | refine gA pk ?_ | (show AL _ _ _ _ _ _ _; first | refine jO tok 0 ?_ | refine s_frontC tok 1 rfl rfl rfl rfl rfl rfl rfl rfl rfl (by omega) (fun w3 hw3 => ?_) | refine zsb tok 0 rfl rfl rfl rfl rfl rfl rfl (by assumption) rfl (Nat.le_of_ble_eq_true rfl) rfl ?_))
                exact ⟨k + 1, w3, ve2, vo2, (), (), (), by omega, by omega, .sub (by exact subQ) (by rw [htake]; exact OSub.refl _)⟩
              | false =>
                have hnew : (out ++ (List.range (k + 1)).flatMap f).take most = O := by rw [← hstep, hff, hdead rfl, List.append_nil, List.take_of_length_le hlo]
                repeat (first | refine gZ pk ?_ | (show AL _ _ _ _ _ _ _; first | refine zsc (Lc := foL 3 88 S (tabA (tabT t)) most u w ve vo (ns ++ [(k : Int)]) [] O) (Lr := []) rfl rfl rfl rfl rfl sp (SubL.of_eq rfl) (List.Perm.refl _) ?_; rintro _ _ ⟨⟨rfl, -⟩, rfl⟩))
                repeat (first | refine gA pk ?_ | (show AL _ _ _ _ _ _ _; first | refine jO tok 0 ?_ | refine s_frontC tok 1 rfl rfl rfl rfl rfl rfl rfl rfl rfl (by omega) (fun w3 hw3 => ?_) | refine zsb tok 0 rfl rfl rfl rfl rfl rfl rfl (by assumption) rfl (Nat.le_of_ble_eq_true rfl) rfl ?_))
                exact ⟨k + 1, w3, ve, vo, (), (), (), by omega, by omega, .sub (by exact subQ) (by rw [hnew, htake]; exact OSub.refl _)⟩
        · obtain rfl : k = S.g.nodes.length := by omega
          repeat (first | refine gA pk ?_)
          exact fin (x := .tup []) (.inl rfl) rfl (Sub.refl _) ⟨_, _, _, rfl, rfl⟩ (OSub.refl _)
      · rw [findL_edges hlt]
        have hel : es.length < S.p.edges.length := by unfold remS at hm; omega
        refine zen Tryz.func117 (by kernel_rfl) rfl Tryz.ntmps117 rfl (by simp) ?_
        repeat (first | (show AWp _ _ _ _ _ _; first | refine a_regR mixed (by decide +kernel) ?_) | refine gN pk ?_ | (show AL _ _ _ _ _ _ _; first | refine jO tok 0 ?_ | refine zol tok 3 rfl rfl rfl rfl (by decide) rfl rfl rfl ?_ | refine zol tok 1 rfl rfl rfl rfl (by decide) rfl rfl rfl ?_ | refine zol tok 2 rfl rfl rfl rfl (by decide) rfl rfl rfl ?_))
        rw [les, lge]
        obtain ⟨f, hf⟩ : ∃ f : Nat → List Mo, (fun k => if candE S ns es k = true then findL S m ns (es ++ [(k : Int)]) else []) = f := ⟨_, rfl⟩
        have hfk := fun k => (congrFun hf k).symm
        rw [hf]
        have h0 : (out ++ (List.range 0).flatMap f).take most = out := by rw [List.range_zero, List.flatMap_nil, List.append_nil]; exact List.take_of_length_le (by omega)
        refine a_loopG7 (fun (k : Nat) (vn ve vo : Value) (_ _ _ : Unit) => [(0, .pt u 0 0 0), (6, AI es.length), (163, AI S.g.edges.length), (164, AI k)]) (fun k vn ve vo _ _ _ => foL 3 88 S (tabA (tabT t)) most u vn ve vo ns es ((out ++ (List.range k).flatMap f).take most)) (fun k _ _ _ _ _ _ => k ≤ S.g.edges.length) (fun k _ _ _ _ _ _ => S.g.edges.length - k) 0 vn ve vo () () () (Nat.zero_le _) (.sub (by exact subQ) (by rw [h0]; exact OSub.refl _)) ?_
        clear vn ve vo h0
        intro k vn ve vo _ _ _ hk
        have hlo : ((out ++ (List.range k).flatMap f).take most).length ≤ most := by rw [List.length_take]; omega
        rcases Nat.lt_or_ge k S.g.edges.length with h2 | h2
        · have hstep := find_loop out f k most
          generalize (out ++ (List.range k).flatMap f).take most = O at *
          have hnsl : ns.length = S.p.nodes.length := by omega
          have sf1 := sfits_spec S hS.toSeaOk (tabA (tabT t)) (ints es) (mosA O) most ns es.length k (by omega) hel h2 (fun x hx => by
            have := (hS.p.edges _ (List.mem_of_getElem? hx)).2
            omega)
          have sc0 := ContainsV_spec es (by omega) k
          have hcand : candE S ns es k = (fitB S ns es.length k && !(S.inj && decide ((k : Int) ∈ es))) := rfl
          obtain ⟨cb, hcb⟩ : ∃ cb, candE S ns es k = cb := ⟨_, rfl⟩
          have hff := hfk k
          rw [hcb] at hff hcand
          generalize fitB S ns es.length k = fb at *
          generalize decide ((k : Int) ∈ es) = mem at *
          have sf2 := ACalls.lendA (L := foL 3 88 S (tabA (tabT t)) most u vn ve vo ns es O) (args' := [.pt u 0 0 0, AI es.length, AI k]) sf1 ⟨fd_fv _ _ S _ most u vn ve vo _ _ O, FV.refl _, FV.refl _, trivial⟩ fd_free
          have sc := ACalls.lendA (L := foL 3 88 S (tabA (tabT t)) most u vn ve vo ns es O) (args' := [.lit ve, AI k]) sc0 ⟨FV.row (E := 3) (by simp), FV.refl _, trivial⟩ fd_free
          have hno : cb = false → (out ++ (List.range (k + 1)).flatMap f).take most = O := fun h => by
            rw [← hstep, hff, h, if_neg (by decide), List.append_nil, List.take_of_length_le hlo]
          have hrow : rowI (es ++ [(k : Int)]) = rowI es ++ [[AI k]] := by simp [cI]
          have hrem : m = remS S ns (es ++ [(k : Int)]) := by
            unfold remS at hm ⊢
            simp only [List.length_append, List.length_cons, List.length_nil] at hm ⊢
            omega
          have sf := fun w => ih ns (es ++ [(k : Int)]) hrem hn (by simp; omega) (fun h => absurd h hlt) u vn w vo O hlo
          have htake : (rowI (es ++ [(k : Int)])).take es.length = rowI es := by rw [hrow]; exact List.take_left' (by omega)
          have les1 : (rowI (es ++ [(k : Int)])).length = es.length + 1 := by rw [hrow]; simp
          cases fb with
          | false =>
            have hcf : cb = false := by rw [hcand]; rfl
            repeat (first | refine gA pk ?_ | (show AL _ _ _ _ _ _ _; first | refine zsc (Lc := foL 3 88 S (tabA (tabT t)) most u vn ve vo ns es O) (Lr := []) rfl rfl rfl rfl rfl sf2 (SubL.of_eq rfl) (List.Perm.refl _) ?_; rintro _ _ ⟨⟨rfl, -⟩, rfl⟩))
            exact ⟨k + 1, vn, ve, vo, (), (), (), by omega, by omega, .sub (by exact subQ) (by rw [hno hcf]; exact OSub.refl _)⟩
          | true =>
            rw [Bool.true_and] at hcand
            cases hinj : S.inj with
            | false =>
              have hcf : cb = true := by rw [hcand, hinj]; rfl
              rw [hcf, if_pos rfl] at hff
              repeat (first | refine gN pk ?_ | (show AL _ _ _ _ _ _ _; first | refine zsc (Lc := foL 3 88 S (tabA (tabT t)) most u vn ve vo ns es O) (Lr := []) rfl rfl rfl rfl rfl sf2 (SubL.of_eq rfl) (List.Perm.refl _) ?_; rintro _ _ ⟨⟨rfl, -⟩, rfl⟩ | refine jO tok 0 ?_))
              rw [hinj]
              repeat (first | refine gN pk ?_ | (show AL _ _ _ _ _ _ _; first | refine jO tok 0 ?_ | refine zsc (Lc := foL 3 88 S (tabA (tabT t)) most u vn ve vo ns es O) (Lr := []) rfl rfl rfl rfl rfl sc (SubL.of_eq rfl) (List.Perm.refl _) ?_; rintro _ _ ⟨⟨rfl, -⟩, rfl⟩ | refine s_build1 tok rfl rfl rfl rfl rfl rfl rfl rfl (fun lv => ?_) | refine zak tok 2 rfl rfl rfl rfl rfl rfl (by decide) rfl rfl rfl rfl (by omega) (by omega) (fun w hw => ?_) | refine zsb tok 0 rfl rfl rfl rfl rfl rfl rfl (by assumption) rfl (Nat.le_of_ble_eq_true rfl) rfl ?_))
              rw [← hrow]
              replace sf := sf w
              repeat (first | refine gZ pk ?_ | (show AL _ _ _ _ _ _ _; first | refine zsc (Lc := foL 3 88 S (tabA (tabT t)) most u vn w vo ns (es ++ [(k : Int)]) O) (Lr := []) rfl rfl rfl rfl rfl sf (SubL.of_eq rfl) (List.Perm.refl _) ?_; rintro _ _ ⟨vn2, ve2, vo2, rfl, rfl⟩))
              rw [← hff, hstep]
              repeat (first | refine gA pk ?_ | (show AL _ _ _ _ _ _ _; first | refine jO tok 0 ?_ | refine s_frontC tok 2 rfl rfl rfl rfl rfl rfl rfl rfl rfl (by omega) (fun w3 hw3 => ?_) | refine zsb tok 0 rfl rfl rfl rfl rfl rfl rfl (by assumption) rfl (Nat.le_of_ble_eq_true rfl) rfl ?_))
              exact ⟨k + 1, vn2, w3, vo2, (), (), (), by omega, by omega, .sub (by exact subQ) (by rw [htake]; exact OSub.refl _)⟩
            | true =>
              cases mem with
              | true =>
                have hcf : cb = false := by rw [hcand, hinj]; rfl
                repeat (first | refine gN pk ?_ | (show AL _ _ _ _ _ _ _; first | refine zsc (Lc := foL 3 88 S (tabA (tabT t)) most u vn ve vo ns es O) (Lr := []) rfl rfl rfl rfl rfl sf2 (SubL.of_eq rfl) (List.Perm.refl _) ?_; rintro _ _ ⟨⟨rfl, -⟩, rfl⟩ | refine jO tok 0 ?_))
                rw [hinj]
                repeat (first | refine gA pk ?_ | (show AL _ _ _ _ _ _ _; first | refine jO tok 0 ?_ | refine zsc (Lc := foL 3 88 S (tabA (tabT t)) most u vn ve vo ns es O) (Lr := []) rfl rfl rfl rfl rfl sc (SubL.of_eq rfl) (List.Perm.refl _) ?_; rintro _ _ ⟨⟨rfl, -⟩, rfl⟩))
                exact ⟨k + 1, vn, ve, vo, (), (), (), by omega, by omega, .sub (by exact subQ) (by rw [hno hcf]; exact OSub.refl _)⟩
              | false =>
                have hcf : cb = true := by rw [hcand, hinj]; rfl
                rw [hcf, if_pos rfl] at hff
                repeat (first | refine gN pk ?_ | (show AL _ _ _ _ _ _ _; first | refine zsc (Lc := foL 3 88 S (tabA (tabT t)) most u vn ve vo ns es O) (Lr := []) rfl rfl rfl rfl rfl sf2 (SubL.of_eq rfl) (List.Perm.refl _) ?_; rintro _ _ ⟨⟨rfl, -⟩, rfl⟩ | refine jO tok 0 ?_))
                rw [hinj]
                repeat (first | refine gN pk ?_ | (show AL _ _ _ _ _ _ _; first | refine jO tok 0 ?_ | refine zsc (Lc := foL 3 88 S (tabA (tabT t)) most u vn ve vo ns es O) (Lr := []) rfl rfl rfl rfl rfl sc (SubL.of_eq rfl) (List.Perm.refl _) ?_; rintro _ _ ⟨⟨rfl, -⟩, rfl⟩ | refine s_build1 tok rfl rfl rfl rfl rfl rfl rfl rfl (fun lv => ?_) | refine zak tok 2 rfl rfl rfl rfl rfl rfl (by decide) rfl rfl rfl rfl (by omega) (by omega) (fun w hw => ?_) | refine zsb tok 0 rfl rfl rfl rfl rfl rfl rfl (by assumption) rfl (Nat.le_of_ble_eq_true rfl) rfl ?_))
                rw [← hrow]
                replace sf := sf w
                repeat (first | refine gZ pk ?_ | (show AL _ _ _ _ _ _ _; first | refine zsc (Lc := foL 3 88 S (tabA (tabT t)) most u vn w vo ns (es ++ [(k : Int)]) O) (Lr := []) rfl rfl rfl rfl rfl sf (SubL.of_eq rfl) (List.Perm.refl _) ?_; rintro _ _ ⟨vn2, ve2, vo2, rfl, rfl⟩))
                rw [← hff, hstep]
                repeat (first | refine gA pk ?_ | (show AL _ _ _ _ _ _ _; first | refine jO tok 0 ?_ | refine s_frontC tok 2 rfl rfl rfl rfl rfl rfl rfl rfl rfl (by omega) (fun w3 hw3 => ?_) | refine zsb tok 0 rfl rfl rfl rfl rfl rfl rfl (by assumption) rfl (Nat.le_of_ble_eq_true rfl) rfl ?_))
                exact ⟨k + 1, vn2, w3, vo2, (), (), (), by omega, by omega, .sub (by exact subQ) (by rw [htake]; exact OSub.refl _)⟩
        · obtain rfl : k = S.g.edges.length := by omega
          repeat (first | refine gA pk ?_)
          exact fin (x := .tup []) (.inl rfl) rfl (Sub.refl _) ⟨_, _, _, rfl, rfl⟩ (OSub.refl _)
    · have hr : (out ++ findL S (m + 1) ns es).take most = out := List.take_left' (by omega)
      rw [hr]
      refine zen Tryz.func117 (by kernel_rfl) rfl Tryz.ntmps117 rfl (by simp) ?_
      repeat (first | (show AWp _ _ _ _ _ _; first | refine a_regR mixed (by decide +kernel) ?_) | refine gN pk ?_ | (show AL _ _ _ _ _ _ _; first | refine jO tok 0 ?_ | refine zol tok 3 rfl rfl rfl rfl (by decide) rfl rfl rfl ?_))
      exact fin (x := .tup []) (.inl rfl) rfl (Sub.refl _) ⟨_, _, _, rfl, rfl⟩ (OSub.refl _)
end Go.Proofs.YtimfponihbfimaaGreat
end
