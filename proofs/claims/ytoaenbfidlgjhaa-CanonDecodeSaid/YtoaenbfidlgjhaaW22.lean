/-
  Graphs in another order: the reference's walks.
-/
import Derived.Test.YtoaenbfidlgjhaaSjQ8
import Derived.Test.YtoaenbfidlgjhaaW15
import Derived.Test.YtoaenbfidlgjhaaSjL30
namespace Go.Proofs.Ytoaenbfidlgjhaa
open Go.Sj Go.Sj.Typ Go.Sj.Sta Go.Sj.Can
set_option linter.unusedVariables false
set_option linter.unusedSimpArgs false
set_option maxHeartbeats 16000000

theorem gCopiedO_spec (g : Gr) (h1 : g.nodes.length ≤ 1000) (h2 : g.edges.length ≤ 1000) : ACalls Try.prog 14 [grA g] [] (fun y L => ∃ vn ve, vn.oneCell' = true ∧ ve.oneCell' = true ∧ y = .agg [.lit vn, .lit ve] ∧ L = [(vn, .row 3 1 (rowI g.nodes)), (ve, .row 60 3 (g.edges.map cEd))]) := by
  have ln : (rowI g.nodes).length = g.nodes.length := by simp
  have le : (g.edges.map cEd).length = g.edges.length := by simp
  refine a_enterC Try.func14 (by kernel_rfl) rfl Try.ntmps14 rfl (tok _ _ rfl) (by simp) ?_
  refine a_seq ?_
  refine a_reg ?_
  repeat (first | refine gZ pk ?_ | (show AL _ _ _ _ _ _ _; first | refine jB (fun u => ?_) | refine jL tok (fun u2 => ?_)))
  refine a_frzBox 1 1 rfl rfl ?_
  refine AWp.mono (Q := fun e st L => e = .normal ∧ ∃ vn ve, vn.oneCell' = true ∧ ve.oneCell' = true ∧ GoTo 12 st L (lk [(2, .pt u2 0 0 0)]) [(u2, OB.box [.lit vn, .lit ve]), (vn, OB.row 3 1 (rowI g.nodes)), (ve, OB.row 60 3 (g.edges.map cEd))]) ?_ (fun e st L h => ?_)
  · refine a_regXP [1, 2, 5, 6] (.nd [0] (.nd [3, 4, 7, 8, 9] .stop (.nd [4, 3, 7, 8, 9] .stop .stop)) (.nd [4, 0, 3, 7, 8, 9] .stop .stop)) mixed rfl rfl (by decide +kernel) ?_
    repeat' (first | (with_reducible show AX _ _ _ _ _ _ _ _ _; first | exact ax_none | refine ax_stop ?_ | refine ax_nd ?_ ?_) | refine gY pk ?_ | (show AL _ _ _ _ _ _ _; first | refine s_build tok (parts := []) rfl rfl rfl rfl rfl rfl rfl rfl (by decide) (by decide) (fun v => ?_) | refine s_appendImQ tok 0 rfl rfl rfl rfl rfl rfl (by decide) rfl rfl rfl rfl (rowI_cell _) (by simp only [ln, le, List.length_nil]; omega) (by simp only [ln, le, List.length_nil]; omega) (fun a m j => ?_) | refine s_appendImQ tok 0 rfl rfl rfl rfl rfl rfl (by decide) rfl rfl rfl rfl (cEd_cell _) (by simp only [ln, le, List.length_nil]; omega) (by simp only [ln, le, List.length_nil]; omega) (fun a m j => ?_) | refine s_appendImQ tok 1 rfl rfl rfl rfl rfl rfl (by decide) rfl rfl rfl rfl (rowI_cell _) (by simp only [ln, le, List.length_nil]; omega) (by simp only [ln, le, List.length_nil]; omega) (fun a m j => ?_) | refine s_appendImQ tok 1 rfl rfl rfl rfl rfl rfl (by decide) rfl rfl rfl rfl (cEd_cell _) (by simp only [ln, le, List.length_nil]; omega) (by simp only [ln, le, List.length_nil]; omega) (fun a m j => ?_) | refine jS tok 2 ?_) | fail)
    all_goals
      first | exact ⟨rfl, _, _, rfl, rfl, (GoTo.sub (by exact subQ) (OSub.refl _)).trans (GoTo.perm (List.Perm.refl _))⟩ | exact ⟨rfl, _, _, rfl, rfl, (GoTo.sub (by exact subQ) (OSub.refl _)).trans (GoTo.perm (perm3 _ _ _).1)⟩ | exact ⟨rfl, _, _, rfl, rfl, (GoTo.sub (by exact subQ) (OSub.refl _)).trans (GoTo.perm (perm3 _ _ _).2.1)⟩ | exact ⟨rfl, _, _, rfl, rfl, (GoTo.sub (by exact subQ) (OSub.refl _)).trans (GoTo.perm (perm3 _ _ _).2.2.1)⟩ | exact ⟨rfl, _, _, rfl, rfl, (GoTo.sub (by exact subQ) (OSub.refl _)).trans (GoTo.perm (perm3 _ _ _).2.2.2.1)⟩ | exact ⟨rfl, _, _, rfl, rfl, (GoTo.sub (by exact subQ) (OSub.refl _)).trans (GoTo.perm (perm3 _ _ _).2.2.2.2.1)⟩
  · obtain ⟨rfl, vn, ve, hvn, hve, h⟩ := h
    refine a_goto h ?_
    refine a_frzBox 0 2 rfl rfl ?_
    repeat (first | refine gA pk ?_)
    exact ⟨.inr rfl, _, _, _, _, rfl, rfl, Turn.of (Sub.of_eq rfl) (OSub.refl _), vn, ve, hvn, hve, rfl, rfl⟩
theorem gpermutation_spec (p : List Int) (n : Nat) (hn : n ≤ 1000) (hp : Prm p n) : Pure Try.prog 53 [ints p] (AI 0) := by
  have hl := hp.len
  have lp : (rowI p).length = n := by rw [List.length_map, hl]
  have hr := hp.rng
  have hnd := hp.nodup
  refine a_enter Try.func53 (by kernel_rfl) rfl Try.ntmps53 rfl (by simp) ?_
  repeat (first | refine gA pk ?_)
  refine a_loopX (fun k : Nat => [(0, ints p), (3, AI k)]) (fun _ => []) (fun k => k ≤ n) (fun k => n - k) 0 (Nat.zero_le _) ?_ (OSub.none _) ?_
  · exact subQ
  · intro k hk
    rcases Nat.lt_or_ge k n with h | h
    · have hx := List.getElem?_eq_getElem (l := p) (i := k) (by omega)
      have hxr := hr _ (List.getElem_mem (l := p) (n := k) (by omega))
      generalize p[k]'(by omega) = y at hx hxr
      have xk : (rowI p)[(k : Int).toNat]? = some [AI y] := map_get (f := cI) hx
      repeat (first | refine gA pk ?_ | (show AL _ _ _ _ _ _ _; first | refine jX tok xk ?_))
      exact ⟨k + 1, by omega, by omega, by exact subQ, OSub.none _⟩
    · repeat (first | refine gN pk ?_)
      refine a_loopX (fun k : Nat => [(0, ints p), (4, AI k)]) (fun _ => []) (fun k => k ≤ n) (fun k => n - k) 0 (Nat.zero_le _) ?_ (OSub.none _) ?_
      · exact subQ
      · intro i hi
        rcases Nat.lt_or_ge i n with h2 | h2
        · have hx := List.getElem?_eq_getElem (l := p) (i := i) (by omega)
          generalize p[i]'(by omega) = x at hx
          have hne : ∀ (j : Nat) (y : Int), j < i → p[j]? = some y → x ≠ y := fun j y hj hy e => by
            subst e
            have := hp.inj hx hy
            omega
          have xk : (rowI p)[(i : Int).toNat]? = some [AI x] := map_get (f := cI) hx
          repeat (first | refine gN pk ?_)
          refine a_loopX (fun j : Nat => [(0, ints p), (4, AI i), (5, AI j)]) (fun _ => []) (fun j => j ≤ i) (fun j => i - j) 0 (Nat.zero_le _) ?_ (OSub.none _) ?_
          · exact subQ
          · intro j hj
            rcases Nat.lt_or_ge j i with h3 | h3
            · have hy := List.getElem?_eq_getElem (l := p) (i := j) (by omega)
              generalize p[j]'(by omega) = y at hy
              have hn2 := hne j y h3 hy
              have yk : (rowI p)[(j : Int).toNat]? = some [AI y] := map_get (f := cI) hy
              repeat (first | refine gA pk ?_ | (show AL _ _ _ _ _ _ _; first | refine jX tok xk ?_ | refine jX tok yk ?_))
              exact ⟨j + 1, by omega, by omega, by exact subQ, OSub.none _⟩
            · repeat (first | refine gA pk ?_)
              exact ⟨i + 1, by omega, by omega, by exact subQ, OSub.none _⟩
        · repeat (first | refine gA pk ?_)
          refine finQ ?_
          exact ⟨rfl, rfl⟩
theorem reK_z {A : Type} {p : List Int} {l z z' : List A} {n : Nat} (hp : Prm p n) (hl : l.length = n) (hz : z.length = n) (hz' : z'.length = n) : reK p l z n = reK p l z' n := by
  have k1 := reK_len p l z n
  have k2 := reK_len p l z' n
  refine List.ext_getElem? fun i => ?_
  rcases Nat.lt_or_ge i n with h | h
  · obtain ⟨j, hj, e⟩ := List.mem_iff_getElem.1 (Go.Sj.Can.prm_mem hp (x := (i : Int)) ⟨by omega, by omega⟩)
    have hpl := hp.len
    have hx : p[j]? = some (i : Int) := by rw [List.getElem?_eq_getElem hj, e]
    have a1 := reK_get hp hl hz n (Nat.le_refl _) j i (by omega) hx
    have a2 := reK_get hp hl hz' n (Nat.le_refl _) j i (by omega) hx
    rw [Int.toNat_natCast] at a1 a2
    rw [a1, a2]
  · rw [List.getElem?_eq_none (by omega), List.getElem?_eq_none (by omega)]
theorem mvE_eq (p : List Int) (a b c : Int) {x y : Int} (hx : p[b.toNat]? = some x) (hy : p[c.toNat]? = some y) : mvE p ⟨a, b, c⟩ = ⟨a, x, y⟩ := by
  simp only [mvE, List.getD_eq_getElem?_getD, hx, hy, Option.getD_some]
theorem Prm.at {p : List Int} {n : Nat} (h : Prm p n) {i : Nat} (hi : i < n) : ∃ x : Int, p[i]? = some x ∧ 0 ≤ x ∧ x < n := by
  obtain ⟨x, h1, h2⟩ := h.get hi
  exact ⟨x, h1, by omega, by omega⟩
theorem gReorder_spec (g : Gr) (hG : GV g) (p q : List Int) (hp : Prm p g.nodes.length) (hq : Prm q g.edges.length) : Pure Try.prog 24 [grA g, .agg [ints p, ints q]] (.tup [grA (reG g p q), AI 0]) := by
  have hn := hG.nl
  have hm := hG.el
  have hge := hG.edges
  have s1 := refgvalid_spec g ⟨by omega, by omega⟩
  have s4 := gCopiedO_spec g (by omega) (by omega)
  rw [gvalid_zero.2 hG] at s1
  obtain ⟨ns, es⟩ := g
  simp only at hn hm hp hq hge s4
  have s2 := gpermutation_spec p ns.length (by omega) hp
  have s3 := gpermutation_spec q es.length (by omega) hq
  have ln : (rowI ns).length = ns.length := by simp
  have le : (es.map cEd).length = es.length := by simp
  have lp : (rowI p).length = ns.length := by rw [List.length_map, hp.len]
  have lq : (rowI q).length = es.length := by rw [List.length_map, hq.len]
  change Pure _ _ [.agg [ints ns, .im 3 (es.map cEd)]] _ at s1
  change ACalls _ _ [.agg [ints ns, .im 3 (es.map cEd)]] _ _ at s4
  change Pure _ _ [.agg [ints ns, .im 3 (es.map cEd)], .agg [ints p, ints q]] _
  refine a_enterM (rs := [.cell 4 25, .tmp 5]) tok Try.func24 (by kernel_rfl) rfl Try.ntmps24 rfl (by decide) (by simp) ?_
  refine a_seq ?_
  refine a_reg ?_
  repeat (first | refine gZ pk ?_ | (show AL _ _ _ _ _ _ _; first | refine jB (fun u => ?_) | refine jL tok (fun u4 => ?_)))
  refine a_frzBox 2 2 rfl rfl ?_
  refine a_frzBox 1 3 rfl rfl ?_
  repeat (first | refine gN pk ?_ | (show AL _ _ _ _ _ _ _; first | refine jP s1 ?_ | refine jP s2 ?_ | refine jP s3 ?_))
  refine s_call (Lc := []) (Lr := [(u4, .box [.lit (.slice none 0 0), .lit (.slice none 0 0)])]) rfl rfl rfl rfl rfl s4 (SubL.of_eq rfl) (List.Perm.refl _) ?_
  rintro _ _ ⟨vn, ve, hvn, hve, rfl, rfl⟩
  repeat (first | refine gN pk ?_ | (show AL _ _ _ _ _ _ _; first | refine jL tok (fun u9 => ?_) | refine s_store (a := .agg [.lit vn, .lit ve]) tok 0 rfl rfl rfl rfl rfl rfl (by simp [AV.storable, AV.cell, hvn, hve]) rfl (by decide) rfl rfl rfl (Nat.le_of_ble_eq_true rfl) ?_))
  have hzn : (zN ns.length).length = ns.length := by simp [zN]
  have hze : (zE es.length).length = es.length := by simp [zE]
  have hr1 : reK p ns (zN ns.length) ns.length = reK p ns ns ns.length := reK_z hp rfl hzn rfl
  have hr2 : reK q (es.map (mvE p)) (zE es.length) es.length = reK q (es.map (mvE p)) es es.length := reK_z hq (by simp) hze rfl
  have hrr : (reG ⟨ns, es⟩ p q) = ⟨reK p ns ns ns.length, reK q (es.map (mvE p)) es es.length⟩ := by rw [← hr1, ← hr2]; rfl
  rw [hrr]
  clear hrr hr1 hr2 hzn hze s1 s2 s3 s4
  refine a_loopX (fun k : Nat => [(2, .ip [ints ns, .im 3 (es.map cEd)]), (3, .ip [ints p, ints q]), (4, .pt u4 0 0 0), (9, .pt u9 0 0 0), (10, AI k)]) (fun k => [(u9, .box [.lit vn, .lit ve]), (vn, .row 3 1 (rowI (reK p ns ns k))), (ve, .row 60 3 (es.map cEd)), (u4, .box [.lit (.slice none 0 0), .lit (.slice none 0 0)])]) (fun k => k ≤ ns.length) (fun k => ns.length - k) 0 (Nat.zero_le _) ?_ (OSub.refl _) ?_
  · exact subQ
  · intro k hk
    have lr : (reK p ns ns k).length = ns.length := by rw [reK_len]
    have lr' : (rowI (reK p ns ns k)).length = ns.length := by rw [List.length_map, lr]
    rcases Nat.lt_or_ge k ns.length with hlt | hge'
    · have hx := List.getElem?_eq_getElem (l := ns) (i := k) hlt
      generalize ns[k] = y at hx
      obtain ⟨x, hpx, x0, x1⟩ := Prm.at hp hlt
      have hs := reK_succ (z := ns) hx hpx
      have xk : (rowI ns)[(k : Int).toNat]? = some [AI y] := map_get (f := cI) hx
      have qk : (rowI p)[(k : Int).toNat]? = some [AI x] := map_get (f := cI) hpx
      generalize reK p ns ns k = r at *
      repeat (first | refine gN pk ?_)
      refine a_regG ((List.range 14).map fun i => if inL [13] i = true then .eff else if inL [1, 12] i = true then .read else .pure) [] [0, 1, 2, 3, 4, 5, 6, 7, 8, 9, 10, 11, 12, 13] .stop mixed rfl rfl (by decide +kernel) ?_
      repeat' (first | (with_reducible show AG _ _ _ _ _ _ _ _ _ _; first | exact ag_none | refine ag_stop ?_ | refine ag_nd ?_ ?_) | (show AMid _ _ _ _; first | refine amid_f ?_ | refine amid_g (by first | exact OSub.refl _ | exact .drop (OSub.refl _) | exact .drop (.drop (OSub.refl _))) ?_) | refine gY pk ?_ | (show AL _ _ _ _ _ _ _; first | refine jO tok 0 ?_ | refine jX tok qk ?_ | refine jX tok xk ?_ | refine s_ownIndex tok 1 rfl rfl rfl rfl (by decide) rfl rfl rfl rfl rfl rfl (by omega) (by omega) ?_ | refine s_storeI tok 1 rfl rfl rfl rfl rfl rfl rfl rfl (by omega) ?_) | fail)
      repeat (first | refine gA pk ?_)
      refine ⟨k + 1, by omega, by omega, by exact subQ, ?_⟩
      rw [hs]
      exact OSub.refl _
    · obtain rfl : k = ns.length := by omega
      generalize reK p ns ns ns.length = r at *
      repeat (first | refine gN pk ?_)
      refine a_loopX (fun k : Nat => [(2, .ip [ints ns, .im 3 (es.map cEd)]), (3, .ip [ints p, ints q]), (4, .pt u4 0 0 0), (9, .pt u9 0 0 0), (11, AI k)]) (fun k => [(u9, .box [.lit vn, .lit ve]), (vn, .row 3 1 (rowI r)), (ve, .row 60 3 ((reK q (es.map (mvE p)) es k).map cEd)), (u4, .box [.lit (.slice none 0 0), .lit (.slice none 0 0)])]) (fun k => k ≤ es.length) (fun k => es.length - k) 0 (Nat.zero_le _) ?_ (OSub.refl _) ?_
      · exact subQ
      · intro k hk
        have lq' : (reK q (es.map (mvE p)) es k).length = es.length := by rw [reK_len]
        have lq2 : ((reK q (es.map (mvE p)) es k).map cEd).length = es.length := by rw [List.length_map, lq']
        rcases Nat.lt_or_ge k es.length with hlt | hge'
        · have hx := List.getElem?_eq_getElem (l := es) (i := k) hlt
          have hr := hge _ (List.getElem_mem hlt)
          generalize es[k] = e at hx hr
          obtain ⟨a, b, c⟩ := e
          simp only at hr
          obtain ⟨r1, r2, r3⟩ := hr
          obtain ⟨z, hqz, z0, z1⟩ := Prm.at hq hlt
          obtain ⟨x, hpx, x0, x1⟩ := Prm.at hp (i := b.toNat) (by omega)
          obtain ⟨y, hpy, y0, y1⟩ := Prm.at hp (i := c.toNat) (by omega)
          have hm : (es.map (mvE p))[k]? = some ⟨a, x, y⟩ := by rw [List.getElem?_map, hx, Option.map_some, mvE_eq p a b c hpx hpy]
          have hs := reK_succ (z := es) hm hqz
          have xk : (es.map cEd)[(k : Int).toNat]? = some [AI a, AI b, AI c] := map_get (f := cEd) hx
          have qk : (rowI q)[(k : Int).toNat]? = some [AI z] := map_get (f := cI) hqz
          have pb : (rowI p)[b.toNat]? = some [AI x] := map_get (f := cI) hpx
          have pc : (rowI p)[c.toNat]? = some [AI y] := map_get (f := cI) hpy
          generalize reK q (es.map (mvE p)) es k = t at *
          repeat (first | refine gN pk ?_ | (show AL _ _ _ _ _ _ _; first | refine jX tok xk ?_ | refine jL tok (fun u => ?_) | refine jS tok 0 ?_))
          refine a_frzBox 0 12 rfl rfl ?_
          refine a_regG ((List.range 24).map fun i => if inL [23] i = true then .eff else if inL [1, 22] i = true then .read else .pure) [] [0, 1, 2, 3, 4, 5, 6, 7, 8, 9, 10, 11, 12, 13, 14, 15, 16, 17, 18, 19, 20, 21, 22, 23] .stop mixed rfl rfl (by decide +kernel) ?_
          repeat' (first | (with_reducible show AG _ _ _ _ _ _ _ _ _ _; first | exact ag_none | refine ag_stop ?_ | refine ag_nd ?_ ?_) | (show AMid _ _ _ _; first | refine amid_f ?_ | refine amid_g (by first | exact OSub.refl _ | exact .drop (OSub.refl _) | exact .drop (.drop (OSub.refl _))) ?_) | refine gY pk ?_ | (show AL _ _ _ _ _ _ _; first | refine jO tok 0 ?_ | refine jX tok qk ?_ | refine jX tok pb ?_ | refine jX tok pc ?_ | refine s_ownIndex tok 2 rfl rfl rfl rfl (by decide) rfl rfl rfl rfl rfl rfl (by omega) (by omega) ?_ | refine s_storeEd tok 2 rfl rfl rfl rfl rfl rfl rfl rfl (by omega) ?_) | fail)
          repeat (first | refine gA pk ?_)
          refine ⟨k + 1, by omega, by omega, by exact subQ, ?_⟩
          rw [hs]
          exact OSub.refl _
        · obtain rfl : k = es.length := by omega
          repeat (first | refine gV pk ?_ | (show AL _ _ _ _ _ _ _; first | refine jO tok 0 ?_ | refine s_store (a := .agg [.lit vn, .lit ve]) tok 3 rfl rfl rfl rfl rfl rfl (by simp [AV.storable, AV.cell, hvn, hve]) rfl (by decide) rfl rfl rfl (Nat.le_of_ble_eq_true rfl) ?_))
          refine a_ownSub [(vn, .row 3 1 (rowI r)), (ve, .row 60 3 ((reK q (es.map (mvE p)) es es.length).map cEd)), (u4, .box [.lit vn, .lit ve])] (.drop (.keep (.keep (.keep .nil)))) ?_
          refine a_freeze 0 rfl _ (FZS.refl _) [(ve, .row 60 3 ((reK q (es.map (mvE p)) es es.length).map cEd)), (u4, .box [.im 1 (rowI r), .lit ve])] ⟨rfl, rfl, rfl, rfl, by simp; exact fun a _ => rfl, FZL.refl _, rfl, ⟨FZ.here, FZ.refl _, trivial⟩, trivial⟩ ?_
          refine a_freeze 0 rfl _ (FZS.refl _) [(u4, .box [.im 1 (rowI r), .im 3 ((reK q (es.map (mvE p)) es es.length).map cEd)])] ⟨rfl, ⟨FZ.refl _, FZ.here, trivial⟩, trivial⟩ ?_
          refine a_frzBox 0 4 rfl rfl ?_
          refine a_ret ?_
          exact ⟨.inr rfl, _, _, [], rfl, Turn.of (Sub.refl _) (OSub.none _), rfl, rfl⟩
end Go.Proofs.Ytoaenbfidlgjhaa
