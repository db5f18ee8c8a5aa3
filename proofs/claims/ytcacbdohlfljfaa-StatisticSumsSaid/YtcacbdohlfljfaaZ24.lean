/-
  The law on sums over the types: the walk.
-/
import Derived.Test.YtcacbdohlfljfaaSjQ8
import Derived.Test.YtcacbdohlfljfaaZ13
import Derived.Test.YtcacbdohlfljfaaZ19
import Derived.Test.YtcacbdohlfljfaaZ11
import Derived.Test.YtcacbdohlfljfaaSjQN
namespace Go.Proofs.Ytcacbdohlfljfaa
open Go.Sj Go.Sj.Typ Go.Sj.Sta
set_option linter.unusedVariables false
set_option linter.unusedSimpArgs false
set_option maxHeartbeats 16000000

theorem sumR_bd {n : Nat} {f : Nat → Int} (h : ∀ i, i < n → 0 ≤ f i ∧ f i ≤ 1000) : 0 ≤ sumR n f ∧ sumR n f ≤ 1000 * n := by
  induction n with
  | zero => exact ⟨Int.le_refl _, Int.le_refl _⟩
  | succ n ih =>
    have h1 := ih (fun i hi => h i (by omega))
    have h2 := h n (by omega)
    rw [sumR]
    omega
theorem cU_bd (ns : List Nod) (l : List Int) (i : Int) : 0 ≤ cU ns l i ∧ cU ns l i ≤ l.length := by
  have := List.length_filter_le (fun v => decide (i ∈ up ns v)) l
  unfold cU
  omega
theorem cE_bd (l : List Int) (i : Int) : 0 ≤ cE l i ∧ cE l i ≤ l.length := by
  have := List.length_filter_le (fun v => decide (v = i)) l
  unfold cE
  omega
theorem cE_take {l : List Int} {k : Nat} {v : Int} (h : l[k]? = some v) (i : Int) : cE (l.take (k + 1)) i = cE (l.take k) i + if v = i then 1 else 0 := by
  rw [List.take_add_one, h]
  unfold cE
  rw [List.filter_append, List.length_append]
  by_cases e : v = i
  · simp [e]
  · simp [e]
theorem edge_to {t : Tys} (h : (validR t).2 = 0) {j : Nat} {e : Edg} (hj : t.edges[j]? = some e) : 0 ≤ e.to ∧ e.to < t.nodes.length := by
  have h1 := (validR_zero.1 h).2.2.2.2 j (List.getElem?_eq_some_iff.1 hj).1
  unfold edgeE at h1
  rw [hj] at h1
  simp only at h1
  repeat' split at h1
  all_goals first | (exfalso; exact absurd h1 (by decide)) | skip
  omega
theorem ofR_lenS (t : Tys) (g : Gr) : (ofR t g).1.nodes.length ≤ 1000 ∧ (ofR t g).1.edges.length ≤ 1000 := by
  unfold ofR
  by_cases h : typedE t g = 0
  · have hG := (typedE_zero.1 h).graph
    have h1 := hG.nl
    have h2 := hG.el
    have h3 := ofN_len g g.nodes
    have h4 := ofE_len g g.edges
    rw [if_neg (Decidable.not_not.2 h)]
    show (ofN g g.nodes).length ≤ 1000 ∧ (ofE g g.edges).length ≤ 1000
    omega
  · rw [if_pos h]
    exact ⟨Nat.zero_le _, Nat.zero_le _⟩
theorem StatisticSums_spec (d : Drf) (hd : OkD d) : Pure Try.prog 3 [drfA d] (AB true) := by
  have hw := awakeS_spec
  have s1 := made18_spec d hd
  have hT := dG_tv d
  have hp := dT_pos d
  have hpe := dT_edges d
  have hsm := dT_small d
  have hgl := dG_len d
  obtain ⟨d1, d2, d3, d4⟩ := d
  generalize dG ⟨d1, d2, d3, d4⟩ = g at *
  generalize dT ⟨d1, d2, d3, d4⟩ = t at *
  have s2 := Of_spec t hsm g ⟨by omega, by omega⟩
  have hof : ofR t g = (ofS g, 0) := by
    unfold ofR
    rw [if_neg (Decidable.not_not.2 (typedE_zero.2 hT))]
  have hS := ofR_lenS t g
  rw [hof] at s2 hS
  have hsv := ofS_valid hT
  have sn : ∀ k : Nat, k < t.nodes.length → Pure Try.prog 7 [tysA t, staA (ofS g), AI k] (.tup [AI (cU t.nodes g.nodes k), AI 0]) := fun k hk => by
    have h := Nodes_spec t hsm (ofS g) hS k
    rw [nodes_ofS hT ⟨by omega, by omega⟩] at h
    exact h
  have se : ∀ (i : Nat) (n : Nod), t.nodes[i]? = some n → 0 ≤ n.par → ∀ e y : Int, (0 ≤ e ∧ e < t.edges.length) → (0 ≤ y ∧ y < t.nodes.length) → ∃ a b, Pure Try.prog 8 [tysA t, staA (ofS g), AI e, AI i, AI y] (.tup [AI a, AI 0]) ∧ Pure Try.prog 8 [tysA t, staA (ofS g), AI e, AI n.par, AI y] (.tup [AI b, AI 0]) ∧ a ≤ b := fun i n hi h0 e y he hy => by
    obtain ⟨a, b, h1, h2, h3⟩ := edges_le hsv hi h0 he hy
    have k1 := Edges_spec t hsm (ofS g) hS e i y
    have k2 := Edges_spec t hsm (ofS g) hS e n.par y
    rw [h1] at k1
    rw [h2] at k2
    exact ⟨a, b, k1, k2, h3⟩
  have hpr := pr_valid hT.types
  have hgn := hT.nodes
  have het := fun (j : Nat) (e : Edg) => edge_to (j := j) (e := e) hT.types
  have hkids := fun (i : Nat) (hi : i < t.nodes.length) => cU_kids hpr hgn (i := i) (by omega) (by omega)
  have hroots := cU_roots hpr hgn
  have hcu := fun i => cU_bd t.nodes g.nodes i
  clear hsv hT hof hS
  have hce := fun i j => cE_bd (g.nodes.take j) i
  have hfa : ∀ k, 0 ≤ sumR k (fun i => if parAt t.nodes i < 0 then cU t.nodes g.nodes i else 0) ∧ sumR k (fun i => if parAt t.nodes i < 0 then cU t.nodes g.nodes i else 0) ≤ 1000 * k := fun k => sumR_bd fun i _ => by have := hcu i; split <;> omega
  have hfb : ∀ (i : Int) k, 0 ≤ sumR k (fun m => if parAt t.nodes m = i then cU t.nodes g.nodes m else 0) ∧ sumR k (fun m => if parAt t.nodes m = i then cU t.nodes g.nodes m else 0) ≤ 1000 * k := fun i k => sumR_bd fun m _ => by have := hcu m; split <;> omega
  generalize ofS g = S at *
  have ltn : (t.nodes.map cNod).length = t.nodes.length := by simp
  have lte : (t.edges.map cEdg).length = t.edges.length := by simp
  have lgn : (rowI g.nodes).length = g.nodes.length := by simp
  refine a_enter Try.func3 (by kernel_rfl) rfl Try.ntmps3 rfl (by simp) ?_
  refine a_seq ?_
  refine a_reg ?_
  repeat (first | refine gZ pk ?_ | (show AL _ _ _ _ _ _ _; first | refine jB (fun u => ?_)))
  refine a_frzBox 0 1 rfl rfl ?_
  repeat (first | refine gN pk ?_ | (show AL _ _ _ _ _ _ _; first | refine jP hw ?_ | refine jP s1 ?_ | refine jL tok (fun u => ?_) | refine jS tok 0 ?_ | refine jS tok 1 ?_ | refine jO tok 0 ?_ | refine jO tok 1 ?_ | refine jO tok 2 ?_ | refine jP s2 ?_))
  refine a_frzBox 0 5 rfl rfl ?_
  refine a_frzBox 0 4 rfl rfl ?_
  refine a_frzBox 0 3 rfl rfl ?_
  rw [ltn]
  refine a_loopX (fun k : Nat => [(3, tysP t), (4, grP g), (5, staP S), (7, AI (sumR k (fun i => if parAt t.nodes i < 0 then cU t.nodes g.nodes i else 0))), (41, nodsA t.nodes), (42, AI t.nodes.length), (43, AI k)]) (fun _ => []) (fun k => k ≤ t.nodes.length) (fun k => t.nodes.length - k) 0 (Nat.zero_le _) ?_ (OSub.none _) ?_
  · exact subQ
  · intro k hk
    rcases Nat.lt_or_ge k t.nodes.length with h | h
    · have hx := List.getElem?_eq_getElem h
      generalize t.nodes[k] = n at hx
      have hpn := parAt_get hx
      have hpk := hpr k n h hx
      have hsk := sn k h
      have hek := se k n hx
      have hck := hcu k
      have hak := hfa k
      have hkk := hkids k h
      have hal : sumR (k + 1) (fun i => if parAt t.nodes i < 0 then cU t.nodes g.nodes i else 0) = sumR k (fun i => if parAt t.nodes i < 0 then cU t.nodes g.nodes i else 0) + (if parAt t.nodes k < 0 then cU t.nodes g.nodes k else 0) := rfl
      rw [hpn] at hal
      have xk : (t.nodes.map cNod)[(k : Int).toNat]? = some (cNod n) := map_get (f := cNod) hx
      obtain ⟨n1, n2, n3, n4⟩ := n
      simp only at hpn hpk hek hal
      unfold cNod at xk
      simp only at xk
      generalize sumR k (fun i => if parAt t.nodes i < 0 then cU t.nodes g.nodes i else 0) = al at *
      generalize hcc : cU t.nodes g.nodes k = c at *
      repeat (first | refine gN pk ?_ | (show AL _ _ _ _ _ _ _; first | refine jX tok xk ?_ | refine jL tok (fun u => ?_) | refine jS tok 0 ?_ | refine jO tok 0 ?_ | refine jP hsk ?_))
      refine a_frzBox 0 9 rfl rfl ?_
      rw [lgn]
      refine a_loopX (fun j : Nat => [(3, tysP t), (4, grP g), (5, staP S), (7, AI al), (8, AI k), (9, .ip [AS n1, AI n2, AB n3, attrsA n4]), (10, AI c), (11, AI 0), (12, AI (cE (g.nodes.take j) k)), (41, nodsA t.nodes), (42, AI t.nodes.length), (43, AI k), (56, ints g.nodes), (57, AI g.nodes.length), (58, AI j)]) (fun _ => []) (fun j => j ≤ g.nodes.length) (fun j => g.nodes.length - j) 0 (Nat.zero_le _) ?_ (OSub.none _) ?_
      · exact subQ
      · intro j hj
        rcases Nat.lt_or_ge j g.nodes.length with hjl | hjl
        · have hy := List.getElem?_eq_getElem hjl
          generalize g.nodes[j] = y at hy
          have hcj := cE_take hy k
          have hbj := hce k j
          have hkl : (g.nodes.take j).length = j := by rw [List.length_take]; omega
          rw [hkl] at hbj
          have xj : (rowI g.nodes)[(j : Int).toNat]? = some [AI y] := map_get (f := cI) hy
          generalize cE (g.nodes.take j) k = z at *
          by_cases hyk : y = k
          · subst hyk
            rw [if_pos rfl] at hcj
            repeat (first | refine gA pk ?_ | (show AL _ _ _ _ _ _ _; first | refine jX tok xj ?_))
            refine ⟨j + 1, by omega, by omega, ?_, OSub.none _⟩
            rw [hcj]
            exact subQ
          · rw [if_neg hyk, Int.add_zero] at hcj
            repeat (first | refine gA pk ?_ | (show AL _ _ _ _ _ _ _; first | refine jX tok xj ?_))
            refine ⟨j + 1, by omega, by omega, ?_, OSub.none _⟩
            rw [hcj]
            exact subQ
        · obtain rfl : j = g.nodes.length := by omega
          rw [List.take_length]
          have hbj := hce k g.nodes.length
          rw [List.take_length] at hbj
          generalize hz : cE g.nodes k = z at *
          repeat (first | refine gN pk ?_ | (show AL _ _ _ _ _ _ _; first | refine jO tok 0 ?_))
          rw [ltn]
          refine a_loopX (fun j : Nat => [(3, tysP t), (4, grP g), (5, staP S), (7, AI al), (8, AI k), (9, .ip [AS n1, AI n2, AB n3, attrsA n4]), (10, AI c), (11, AI 0), (12, AI (z + sumR j (fun m => if parAt t.nodes m = k then cU t.nodes g.nodes m else 0))), (41, nodsA t.nodes), (42, AI t.nodes.length), (43, AI k), (69, nodsA t.nodes), (70, AI t.nodes.length), (71, AI j)]) (fun _ => []) (fun j => j ≤ t.nodes.length) (fun j => t.nodes.length - j) 0 (Nat.zero_le _) ?_ (OSub.none _) ?_
          · rw [sumR, Int.add_zero]
            exact subQ
          · intro j hj
            rcases Nat.lt_or_ge j t.nodes.length with hjl | hjl
            · have hy := List.getElem?_eq_getElem hjl
              generalize t.nodes[j] = y at hy
              have hpy := parAt_get hy
              have hpj := hpr j y hjl hy
              have hsj := sn j hjl
              have hcj := hcu j
              have hbj := hfb k j
              have hbl : sumR (j + 1) (fun m => if parAt t.nodes m = k then cU t.nodes g.nodes m else 0) = sumR j (fun m => if parAt t.nodes m = k then cU t.nodes g.nodes m else 0) + (if parAt t.nodes j = k then cU t.nodes g.nodes j else 0) := rfl
              rw [hpy] at hbl
              have xj : (t.nodes.map cNod)[(j : Int).toNat]? = some (cNod y) := map_get (f := cNod) hy
              obtain ⟨m1, m2, m3, m4⟩ := y
              simp only at hpy hpj hbl
              unfold cNod at xj
              simp only at xj
              generalize sumR j (fun m => if parAt t.nodes m = k then cU t.nodes g.nodes m else 0) = w at *
              generalize cU t.nodes g.nodes j = b at *
              by_cases hyk : m2 = k
              · subst hyk
                rw [if_pos rfl] at hbl
                repeat (first | refine gA pk ?_ | (show AL _ _ _ _ _ _ _; first | refine jX tok xj ?_ | refine jL tok (fun u => ?_) | refine jS tok 0 ?_ | refine jO tok 0 ?_ | refine jP hsj ?_))
                refine ⟨j + 1, by omega, by omega, ?_, OSub.none _⟩
                rw [hbl, ← Int.add_assoc]
                exact subQ
              · rw [if_neg hyk, Int.add_zero] at hbl
                repeat (first | refine gA pk ?_ | (show AL _ _ _ _ _ _ _; first | refine jX tok xj ?_ | refine jL tok (fun u => ?_) | refine jS tok 0 ?_ | refine jO tok 0 ?_ | refine jP hsj ?_))
                refine ⟨j + 1, by omega, by omega, ?_, OSub.none _⟩
                rw [hbl]
                exact subQ
            · obtain rfl : j = t.nodes.length := by omega
              rw [← hkk]
              by_cases hn : n2 < 0
              · rw [if_pos hn] at hal
                repeat (first | refine gA pk ?_ | (show AL _ _ _ _ _ _ _; first | refine jO tok 0 ?_))
                refine ⟨k + 1, by omega, by omega, ?_, OSub.none _⟩
                rw [hal]
                exact subQ
              · rw [if_neg hn, Int.add_zero] at hal
                repeat (first | refine gN pk ?_ | (show AL _ _ _ _ _ _ _; first | refine jO tok 0 ?_))
                rw [lte]
                refine a_loopX (fun j : Nat => [(3, tysP t), (4, grP g), (5, staP S), (7, AI al), (8, AI k), (9, .ip [AS n1, AI n2, AB n3, attrsA n4]), (41, nodsA t.nodes), (42, AI t.nodes.length), (43, AI k), (107, edgsA t.edges), (108, AI t.edges.length), (109, AI j)]) (fun _ => []) (fun j => j ≤ t.edges.length) (fun j => t.edges.length - j) 0 (Nat.zero_le _) ?_ (OSub.none _) ?_
                · exact subQ
                · intro j hj
                  rcases Nat.lt_or_ge j t.edges.length with hjl | hjl
                  · have hy := List.getElem?_eq_getElem hjl
                    generalize t.edges[j] = y at hy
                    have hty := het j y hy
                    obtain ⟨ea, eb, se1, se2, hab⟩ := hek (by omega) j y.to ⟨by omega, by omega⟩ hty
                    have xj : (t.edges.map cEdg)[(j : Int).toNat]? = some (cEdg y) := map_get (f := cEdg) hy
                    obtain ⟨m1, m2, m3, m4, m5, m6, m7⟩ := y
                    simp only at hty se1 se2
                    unfold cEdg at xj
                    simp only at xj
                    repeat (first | refine gA pk ?_ | (show AL _ _ _ _ _ _ _; first | refine jX tok xj ?_ | refine jL tok (fun u => ?_) | refine jS tok 0 ?_ | refine jO tok 0 ?_ | refine jP se1 ?_ | refine jP se2 ?_))
                    exact ⟨j + 1, by omega, by omega, by exact subQ, OSub.none _⟩
                  · obtain rfl : j = t.edges.length := by omega
                    repeat (first | refine gA pk ?_)
                    refine ⟨k + 1, by omega, by omega, ?_, OSub.none _⟩
                    rw [hal]
                    exact subQ
    · obtain rfl : k = t.nodes.length := by omega
      rw [hroots]
      repeat (first | refine gA pk ?_ | (show AL _ _ _ _ _ _ _; first | refine jO tok 0 ?_))
      refine finQ ?_
      exact ⟨rfl, rfl⟩
end Go.Proofs.Ytcacbdohlfljfaa
