/-
  Walks: Z21, Z22.
-/
import Derived.Test.YtcacbdohlfljfaaGreatSjQ8
import Derived.Test.YtcacbdohlfljfaaGreatZ7
import Derived.Test.YtcacbdohlfljfaaGreatZ17
import Derived.Test.YtcacbdohlfljfaaGreatY15
import Derived.Test.YtcacbdohlfljfaaGreatSjL25
import Derived.Test.YtcacbdohlfljfaaGreatSjM26
/-
  Orders: numbers in a row, orders that numbers describe, the walks.
-/
namespace Go.Proofs.YtcacbdohlfljfaaGreat
open Go.Sj Go.Sj.Typ Go.Sj.Sta
set_option linter.unusedVariables false
set_option linter.unusedSimpArgs false
set_option maxHeartbeats 8000000

theorem Numbers_spec (a : Int) (ha : 0 ≤ a ∧ a ≤ 1000000) (n : Nat) (hn : n ≤ 1000000) : Gives Tryz.prog 63 [AI a, AI n] 3 1 (rowI ((List.range n).map fun (i : Nat) => a + (i : Int))) := by
  refine a_enter Tryz.func63 (by kernel_rfl) rfl Tryz.ntmps63 rfl (by simp) ?_
  repeat (first | refine gA pk ?_)
  refine a_loop2 (fun (i : Nat) (v : Value) => [(0, AI a), (1, AI n), (5, .lit v), (6, AI i)]) (fun i v => [(v, .row 3 1 (rowI ((List.range i).map fun (i : Nat) => a + (i : Int))))]) (fun i v => i ≤ n) (fun i v => n - i) 0 (.slice none 0 0) (Nat.zero_le _) ?_ (.free (OSub.none _)) ?_
  · exact subQ
  · intro i v hi
    rcases Nat.lt_or_ge i n with h | h
    · have hs : rowI ((List.range (i + 1)).map fun (i : Nat) => a + (i : Int)) = rowI ((List.range i).map fun (i : Nat) => a + (i : Int)) ++ [[AI (a + i)]] := by
        rw [rngF_succ]
        show ((_ ++ [_]).map cI) = _
        rw [List.map_append]; rfl
      have hl : (rowI ((List.range i).map fun (i : Nat) => a + (i : Int))).length = i := by simp
      repeat (first | refine gA pk ?_)
      (first | refine s_build1 tok rfl rfl rfl rfl rfl rfl rfl rfl (fun u => ?_) | refine s_build1M tok rfl rfl rfl rfl rfl rfl rfl (fun u => ?_) | refine s_build1A tok rfl rfl rfl rfl rfl rfl rfl rfl (by decide) (fun u => ?_)); refine s_append1 tok 0 rfl rfl rfl rfl rfl rfl (by decide) rfl rfl rfl rfl (by omega) (by omega) (fun v => ?_)
      repeat (first | refine gA pk ?_)
      exact ⟨i + 1, v, by omega, by omega, by exact subQ, by rw [hs]; exact OSub.refl _⟩
    · obtain rfl : i = n := by omega
      repeat (first | refine gA pk ?_)
      refine finR ?_
      exact ⟨_, rfl, rfl⟩
theorem Shuffle_spec (n : Nat) (hn : n ≤ 1000) (cs : List Int) (hc : (∀ m ∈ cs, 0 ≤ m ∧ m ≤ 255) ∧ cs.length ≤ 140737488355328) : Pure Tryz.prog 31 [AI n, bytesA cs] (ints (shf n cs)) := by
  have s1 := Numbers_spec 0 (by omega) n (by omega)
  rw [rngF_zero] at s1
  have lc : (cs.map c8).length = cs.length := by simp
  refine a_enter Tryz.func31 (by kernel_rfl) rfl Tryz.ntmps31 rfl (by simp) ?_
  repeat (first | refine gA pk ?_ | (show AL _ _ _ _ _ _ _; first | refine s_callG rfl rfl rfl rfl rfl (s1) (SubL.of_eq rfl) (fun v => ?_)))
  refine a_loop2 (fun (i : Nat) (v : Value) => [(0, AI n), (1, bytesA cs), (5, .lit v), (6, AI i)]) (fun i v => [(v, .row 3 1 (rowI (shfK n cs i)))]) (fun i v => i ≤ min n cs.length) (fun i v => min n cs.length - i) 0 _ (Nat.zero_le _) ?_ (OSub.refl _) ?_
  · exact subQ
  · intro i v hi
    have hp := shfK_prm n cs i (by omega)
    have hpl := hp.len
    have lr : (rowI (shfK n cs i)).length = n := by rw [List.length_map, hpl]
    by_cases h : i < min n cs.length
    · have hx := List.getElem?_eq_getElem (l := cs) (i := i) (by omega)
      have hr := hc.1 _ (List.getElem_mem (l := cs) (n := i) (by omega))
      have hk : shfP n cs i = i + (cs[i] % ((n : Int) - i)).toNat := by
        unfold shfP
        rw [List.getD_eq_getElem?_getD, hx]; rfl
      have hkl := shfP_lt (cs := cs) (show i < n by omega)
      have hs : shfK n cs (i + 1) = ((shfK n cs i).set i ((shfK n cs i).getD (shfP n cs i) 0)).set (shfP n cs i) ((shfK n cs i).getD i 0) := rfl
      generalize cs[i] = x at *
      have xk : (cs.map c8)[(i : Int).toNat]? = some [A8 x] := map_get (f := c8) hx
      have m1 := Int.emod_nonneg x (b := (n : Int) - i) (by omega)
      have m2 := Int.emod_lt_of_pos x (b := (n : Int) - i) (by omega)
      have ek : (i : Int) + x % ((n : Int) - i) = (shfP n cs i : Int) := by rw [hk]; omega
      generalize shfP n cs i = k at *
      generalize shfK n cs i = r at *
      have g1 : r[(i : Int).toNat]? = some (r.getD i 0) := by
        rw [Int.toNat_natCast, List.getD_eq_getElem?_getD, List.getElem?_eq_getElem (by omega)]; rfl
      have g2 : r[(k : Int).toNat]? = some (r.getD k 0) := by
        rw [Int.toNat_natCast, List.getD_eq_getElem?_getD, List.getElem?_eq_getElem (by omega)]; rfl
      repeat (first | refine gN pk ?_ | (show AL _ _ _ _ _ _ _; first | refine jX tok xk ?_ | refine s_conv tok rfl rfl rfl rfl rfl rfl rfl (IntWalk.i64_in _ (by omega)) ?_ | refine s_rem rfl rfl rfl rfl rfl rfl (by omega) (by omega) ?_))
      rw [ek]
      refine a_regG ((List.range 16).map fun i => if inL [13, 15] i = true then .eff else if inL [6, 7, 10, 11, 12, 14] i = true then .read else .pure) [] [0, 1, 2, 3, 4, 5, 6, 7, 8, 9, 10, 11, 12, 13, 14, 15] .stop mixed rfl rfl (by decide +kernel) ?_
      repeat' (first | (with_reducible show AG _ _ _ _ _ _ _ _ _ _; first | exact ag_none | refine ag_stop ?_ | refine ag_nd ?_ ?_) | (show AMid _ _ _ _; first | refine amid_f ?_ | refine amid_g (by first | exact OSub.refl _ | exact .drop (OSub.refl _) | exact .drop (.drop (OSub.refl _))) ?_) | refine gY pk ?_ | (show AL _ _ _ _ _ _ _; first | refine s_ownIndex tok 0 rfl rfl rfl rfl (by decide) rfl rfl rfl rfl rfl rfl (by omega) (by first | omega | (simp only [List.length_map, List.length_set]; omega)) ?_ | refine s_loadI tok 0 rfl rfl rfl rfl (by decide) rfl rfl rfl rfl g1 ?_ | refine s_loadI tok 0 rfl rfl rfl rfl (by decide) rfl rfl rfl rfl g2 ?_ | refine s_storeI tok 0 rfl rfl rfl rfl rfl rfl rfl rfl (by first | omega | (simp only [List.length_set]; omega)) ?_) | fail)
      repeat (first | refine gA pk ?_)
      refine ⟨i + 1, v, by omega, by omega, by exact subQ, ?_⟩
      rw [hs]
      exact OSub.refl _
    · obtain rfl : i = min n cs.length := by omega
      by_cases h1 : min n cs.length < n
      all_goals
        repeat (first | refine gA pk ?_)
        refine finF 0 (.inr rfl) rfl rfl (y := ints (shf n cs)) FZ.here ⟨rfl, rfl⟩
theorem perm1_spec (x : Int) (n : Nat) (hn : n ≤ 1000) (hx : 0 ≤ x ∧ x < n) : Pure Tryz.prog 89 [AI x, .ip [AI n]] (AB false) := by
  have s1 := within_spec x (n - 1)
  rw [decide_eq_true (by omega)] at s1
  refine a_enter Tryz.func89 (by kernel_rfl) rfl Tryz.ntmps89 rfl (by simp) ?_
  repeat (first | refine gA pk ?_ | (show AL _ _ _ _ _ _ _; first | refine jP s1 ?_))
  refine finQ ?_
  exact ⟨rfl, rfl⟩
theorem permutation_spec (p : List Int) (n : Nat) (hn : n ≤ 1000) (hp : Prm p n) : Pure Tryz.prog 62 [ints p, AI n] (AI 0) := by
  have hl := hp.len
  have lp : (rowI p).length = n := by rw [List.length_map, hl]
  have hr := hp.rng
  have hnd := hp.nodup
  have s1 := ContainsFuncI_spec p (by omega) 89 [.ip [AI n]] (fun x => false) (fun x hx => perm1_spec x n hn (hr x hx))
  have hany : (p.any fun x => false) = false := by simp
  rw [hany] at s1
  refine a_enter Tryz.func62 (by kernel_rfl) rfl Tryz.ntmps62 rfl (by simp) ?_; refine a_seq ?_; refine a_reg ?_; (repeat (first | refine gZ pk ?_ | (show AL _ _ _ _ _ _ _; first | refine jB (fun u => ?_)))); refine a_frzBox 0 3 rfl rfl ?_
  repeat (first | refine gA pk ?_ | (show AL _ _ _ _ _ _ _; first | refine jP s1 ?_))
  rw [lp]
  refine a_loopX (fun k : Nat => [(0, ints p), (14, ints p), (15, AI n), (16, AI k)]) (fun _ => []) (fun k => k ≤ n) (fun k => n - k) 0 (Nat.zero_le _) ?_ (OSub.none _) ?_
  · exact subQ
  · intro k hk
    rcases Nat.lt_or_ge k n with h | h
    · have hx := List.getElem?_eq_getElem (l := p) (i := k) (by omega)
      have hno : p[k] ∉ p.take k := fun hm => by
        obtain ⟨j, hj, he⟩ := List.mem_iff_getElem.1 hm
        have hj' : j < k := by rw [List.length_take] at hj; omega
        rw [List.getElem_take] at he
        have := (List.getElem_inj hnd).1 he
        omega
      generalize p[k] = y at *
      have xk : (rowI p)[(k : Int).toNat]? = some [AI y] := map_get (f := cI) hx
      have s2 := ContainsV_spec (p.take k) (by rw [List.length_take]; omega) y
      rw [decide_eq_false hno] at s2
      have e : ints (p.take k) = .im 1 (((rowI p).take k).drop 0) := by
        rw [List.drop_zero, ← List.map_take]
      rw [e] at s2
      repeat (first | refine gA pk ?_ | (show AL _ _ _ _ _ _ _; first | refine jX tok xk ?_ | refine s_slice tok (a := 0) (b := k) rfl rfl rfl rfl rfl rfl rfl rfl (by first | exact rfl | exact ⟨_, rfl⟩) (by first | exact rfl | exact ⟨_, rfl⟩) (by omega) (by omega) ?_ | refine jP s2 ?_))
      exact ⟨k + 1, by omega, by omega, by exact subQ, OSub.none _⟩
    · repeat (first | refine gA pk ?_)
      refine finQ ?_
      exact ⟨rfl, rfl⟩
end Go.Proofs.YtcacbdohlfljfaaGreat

/-
  Graphs in another order, and the law on them: the walks.
-/
namespace Go.Proofs.YtcacbdohlfljfaaGreat
open Go.Sj Go.Sj.Typ Go.Sj.Sta
set_option linter.unusedVariables false
set_option linter.unusedSimpArgs false
set_option maxHeartbeats 16000000

theorem mvE_eq (p : List Int) (a b c : Int) {x y : Int} (hx : p[b.toNat]? = some x) (hy : p[c.toNat]? = some y) : mvE p ⟨a, b, c⟩ = ⟨a, x, y⟩ := by
  simp only [mvE, List.getD_eq_getElem?_getD, hx, hy, Option.getD_some]
theorem Prm.at {p : List Int} {n : Nat} (h : Prm p n) {i : Nat} (hi : i < n) : ∃ x : Int, p[i]? = some x ∧ 0 ≤ x ∧ x < n := by
  obtain ⟨x, h1, h2⟩ := h.get hi
  exact ⟨x, h1, by omega, by omega⟩
theorem Reorder_spec (g : Gr) (hG : GV g) (p q : List Int) (hp : Prm p g.nodes.length) (hq : Prm q g.edges.length) : Pure Tryz.prog 30 [grA g, .agg [ints p, ints q]] (.tup [grA (reG g p q), AI 0]) := by
  have hn := hG.nl
  have hm := hG.el
  have hge := hG.edges
  have s1 := gvalid_spec g ⟨by omega, by omega⟩
  rw [gvalid_zero.2 hG] at s1
  obtain ⟨ns, es⟩ := g
  simp only at hn hm hp hq hge
  have s2 := permutation_spec p ns.length (by omega) hp
  have s3 := permutation_spec q es.length (by omega) hq
  have ln : (rowI ns).length = ns.length := by simp
  have le : (es.map cEd).length = es.length := by simp
  have lp : (rowI p).length = ns.length := by rw [List.length_map, hp.len]
  have lq : (rowI q).length = es.length := by rw [List.length_map, hq.len]
  have z1 : List.replicate ((rowI ns).length : Int).toNat [AI 0] = rowI (zN ns.length) := by rw [ln, Int.toNat_natCast, zN_row]
  have z2 : List.replicate ((es.map cEd).length : Int).toNat [AI 0, AI 0, AI 0] = (zE es.length).map cEd := by rw [le, Int.toNat_natCast, zE_row]
  rw [← ln] at s2
  rw [← le] at s3
  change Pure _ _ [.agg [ints ns, .im 3 (es.map cEd)]] _ at s1
  change Pure _ _ [.agg [ints ns, .im 3 (es.map cEd)], .agg [ints p, ints q]] _
  refine a_enterM (rs := [.cell 4 29, .tmp 5]) tok Tryz.func30 (by kernel_rfl) rfl Tryz.ntmps30 rfl (by decide) (by simp) ?_
  refine a_seq ?_
  refine a_reg ?_
  repeat (first | refine gZ pk ?_ | (show AL _ _ _ _ _ _ _; first | refine jB (fun u => ?_) | refine jL tok (fun u4 => ?_)))
  refine a_frzBox 2 2 rfl rfl ?_
  refine a_frzBox 1 3 rfl rfl ?_
  repeat (first | refine gN pk ?_ | (show AL _ _ _ _ _ _ _; first | refine jP s1 ?_ | refine jP s2 ?_ | refine jP s3 ?_))
  refine AWp.mono (Q := fun e st L => e = .normal ∧ ∃ vn ve u9, GoTo 117 st L (lk [(2, .ip [ints ns, .im 3 (es.map cEd)]), (3, .ip [ints p, ints q]), (4, .pt u4 0 0 0), (9, .pt u9 0 0 0)]) [(vn, .row 3 1 (rowI (zN ns.length))), (ve, .row 70 3 ((zE es.length).map cEd)), (u9, .box [.lit vn, .lit ve]), (u4, .box [.lit (.slice none 0 0), .lit (.slice none 0 0)])]) ?_ (fun e st L h => ?_)
  · refine a_regG ((List.range 11).map fun i => if inL [3, 7, 9, 10] i = true then .eff else .pure) [] [0, 1, 2, 4, 5, 6] (.nd 3 [] (.nd 7 [8, 9, 10] .stop (.nd 9 [7, 8, 10] .stop .stop)) (.nd 7 [] (.nd 3 [8, 9, 10] .stop (.nd 9 [3, 8, 10] .stop .stop)) (.nd 9 [] (.nd 3 [7, 8, 10] .stop (.nd 7 [3, 8, 10] .stop .stop)) .stop))) mixed rfl rfl (by decide +kernel) ?_
    repeat' (first | (with_reducible show AG _ _ _ _ _ _ _ _ _ _; first | exact ag_none | refine ag_stop ?_ | refine ag_nd ?_ ?_) | (show AMid _ _ _ _; first | refine amid_f ?_ | refine amid_g (by first | exact OSub.refl _ | exact .drop (OSub.refl _) | exact .drop (.drop (OSub.refl _))) ?_) | refine gY pk ?_ | (show AL _ _ _ _ _ _ _; first | refine s_makeQ tok rfl rfl rfl rfl rfl rfl rfl rfl z1 (by omega) (by omega) (by simp; omega) (by omega) (fun a m j => ?_) | refine s_makeQ tok rfl rfl rfl rfl rfl rfl rfl rfl z2 (by omega) (by omega) (by simp; omega) (by omega) (fun a m j => ?_) | refine jL tok (fun u => ?_) | refine jS tok 0 ?_ | refine jS tok 1 ?_ | refine jS tok 2 ?_) | fail)
    all_goals
      first | exact ⟨rfl, _, _, _, (GoTo.sub (by exact subQ) (OSub.refl _)).trans (GoTo.perm (List.Perm.refl _))⟩ | exact ⟨rfl, _, _, _, (GoTo.sub (by exact subQ) (OSub.refl _)).trans (GoTo.perm (List.Perm.append_right [_] (perm3 _ _ _).1))⟩ | exact ⟨rfl, _, _, _, (GoTo.sub (by exact subQ) (OSub.refl _)).trans (GoTo.perm (List.Perm.append_right [_] (perm3 _ _ _).2.1))⟩ | exact ⟨rfl, _, _, _, (GoTo.sub (by exact subQ) (OSub.refl _)).trans (GoTo.perm (List.Perm.append_right [_] (perm3 _ _ _).2.2.1))⟩ | exact ⟨rfl, _, _, _, (GoTo.sub (by exact subQ) (OSub.refl _)).trans (GoTo.perm (List.Perm.append_right [_] (perm3 _ _ _).2.2.2.1))⟩ | exact ⟨rfl, _, _, _, (GoTo.sub (by exact subQ) (OSub.refl _)).trans (GoTo.perm (List.Perm.append_right [_] (perm3 _ _ _).2.2.2.2.1))⟩
  · obtain ⟨rfl, vn, ve, u9, h⟩ := h
    refine a_goto h ?_
    clear h
    repeat (first | refine gA pk ?_)
    rw [ln]
    refine a_loopX (fun k : Nat => [(2, .ip [ints ns, .im 3 (es.map cEd)]), (3, .ip [ints p, ints q]), (4, .pt u4 0 0 0), (9, .pt u9 0 0 0), (67, ints ns), (68, AI ns.length), (69, AI k)]) (fun k => [(vn, .row 3 1 (rowI (reK p ns (zN ns.length) k))), (ve, .row 70 3 ((zE es.length).map cEd)), (u9, .box [.lit vn, .lit ve]), (u4, .box [.lit (.slice none 0 0), .lit (.slice none 0 0)])]) (fun k => k ≤ ns.length) (fun k => ns.length - k) 0 (Nat.zero_le _) ?_ (OSub.refl _) ?_
    · exact subQ
    · intro k hk
      have lr : (reK p ns (zN ns.length) k).length = ns.length := by rw [reK_len, zN_len]
      have lr' : (rowI (reK p ns (zN ns.length) k)).length = ns.length := by rw [List.length_map, lr]
      rcases Nat.lt_or_ge k ns.length with hlt | hge'
      · have hx := List.getElem?_eq_getElem (l := ns) (i := k) hlt
        generalize ns[k] = y at hx
        obtain ⟨x, hpx, x0, x1⟩ := Prm.at hp hlt
        have hs := reK_succ (z := zN ns.length) hx hpx
        have xk : (rowI ns)[(k : Int).toNat]? = some [AI y] := map_get (f := cI) hx
        have qk : (rowI p)[(k : Int).toNat]? = some [AI x] := map_get (f := cI) hpx
        generalize reK p ns (zN ns.length) k = r at *
        repeat (first | refine gN pk ?_ | (show AL _ _ _ _ _ _ _; first | refine jX tok xk ?_))
        refine a_regG ((List.range 10).map fun i => if inL [9] i = true then .eff else if inL [1, 8] i = true then .read else .pure) [] [0, 1, 2, 3, 4, 5, 6, 7, 8, 9] .stop mixed rfl rfl (by decide +kernel) ?_
        repeat' (first | (with_reducible show AG _ _ _ _ _ _ _ _ _ _; first | exact ag_none | refine ag_stop ?_ | refine ag_nd ?_ ?_) | (show AMid _ _ _ _; first | refine amid_f ?_ | refine amid_g (by first | exact OSub.refl _ | exact .drop (OSub.refl _) | exact .drop (.drop (OSub.refl _))) ?_) | refine gY pk ?_ | (show AL _ _ _ _ _ _ _; first | refine jO tok 2 ?_ | refine jX tok qk ?_ | refine s_ownIndex tok 0 rfl rfl rfl rfl (by decide) rfl rfl rfl rfl rfl rfl (by omega) (by omega) ?_ | refine s_storeI tok 0 rfl rfl rfl rfl rfl rfl rfl rfl (by omega) ?_) | fail)
        repeat (first | refine gA pk ?_)
        refine ⟨k + 1, by omega, by omega, by exact subQ, ?_⟩
        rw [hs]
        exact OSub.refl _
      · obtain rfl : k = ns.length := by omega
        have hrr : (reG ⟨ns, es⟩ p q) = ⟨reK p ns (zN ns.length) ns.length, reK q (es.map (mvE p)) (zE es.length) es.length⟩ := rfl
        rw [hrr]
        generalize reK p ns (zN ns.length) ns.length = r at *
        repeat (first | refine gA pk ?_)
        rw [le]
        refine a_loopX (fun k : Nat => [(3, .ip [ints p, ints q]), (4, .pt u4 0 0 0), (9, .pt u9 0 0 0), (85, .im 3 (es.map cEd)), (86, AI es.length), (87, AI k)]) (fun k => [(vn, .row 3 1 (rowI r)), (ve, .row 70 3 ((reK q (es.map (mvE p)) (zE es.length) k).map cEd)), (u9, .box [.lit vn, .lit ve]), (u4, .box [.lit (.slice none 0 0), .lit (.slice none 0 0)])]) (fun k => k ≤ es.length) (fun k => es.length - k) 0 (Nat.zero_le _) ?_ (OSub.refl _) ?_
        · exact subQ
        · intro k hk
          have lq' : (reK q (es.map (mvE p)) (zE es.length) k).length = es.length := by rw [reK_len, zE_len]
          have lq2 : ((reK q (es.map (mvE p)) (zE es.length) k).map cEd).length = es.length := by rw [List.length_map, lq']
          rcases Nat.lt_or_ge k es.length with hlt | hge'
          · have hx := List.getElem?_eq_getElem (l := es) (i := k) hlt
            have hr := hge _ (List.getElem_mem hlt)
            generalize es[k] = e at hx hr
            obtain ⟨a, b, c⟩ := e
            simp only at hr
            obtain ⟨r1, r2, r3⟩ := hr
            obtain ⟨z, hqz, z0, z1⟩ := Prm.at hq hlt
            obtain ⟨x, hpx, x0, x1⟩ := Prm.at hp (i := b.toNat) (by omega)
            obtain ⟨y, hpy, y0, y1⟩ := Prm.at hp (i := c.toNat) (by omega)
            have hm : (es.map (mvE p))[k]? = some ⟨a, x, y⟩ := by rw [List.getElem?_map, hx, Option.map_some, mvE_eq p a b c hpx hpy]
            have hs := reK_succ (z := zE es.length) hm hqz
            have xk : (es.map cEd)[(k : Int).toNat]? = some [AI a, AI b, AI c] := map_get (f := cEd) hx
            have qk : (rowI q)[(k : Int).toNat]? = some [AI z] := map_get (f := cI) hqz
            have pb : (rowI p)[b.toNat]? = some [AI x] := map_get (f := cI) hpx
            have pc : (rowI p)[c.toNat]? = some [AI y] := map_get (f := cI) hpy
            generalize reK q (es.map (mvE p)) (zE es.length) k = t at *
            repeat (first | refine gN pk ?_ | (show AL _ _ _ _ _ _ _; first | refine jX tok xk ?_ | refine jL tok (fun u => ?_) | refine jS tok 0 ?_))
            refine a_frzBox 0 13 rfl rfl ?_
            refine a_regG ((List.range 24).map fun i => if inL [23] i = true then .eff else if inL [1, 22] i = true then .read else .pure) [] [0, 1, 2, 3, 4, 5, 6, 7, 8, 9, 10, 11, 12, 13, 14, 15, 16, 17, 18, 19, 20, 21, 22, 23] .stop mixed rfl rfl (by decide +kernel) ?_
            repeat' (first | (with_reducible show AG _ _ _ _ _ _ _ _ _ _; first | exact ag_none | refine ag_stop ?_ | refine ag_nd ?_ ?_) | (show AMid _ _ _ _; first | refine amid_f ?_ | refine amid_g (by first | exact OSub.refl _ | exact .drop (OSub.refl _) | exact .drop (.drop (OSub.refl _))) ?_) | refine gY pk ?_ | (show AL _ _ _ _ _ _ _; first | refine jO tok 2 ?_ | refine jX tok qk ?_ | refine jX tok pb ?_ | refine jX tok pc ?_ | refine s_ownIndex tok 1 rfl rfl rfl rfl (by decide) rfl rfl rfl rfl rfl rfl (by omega) (by omega) ?_ | refine s_storeEd tok 1 rfl rfl rfl rfl rfl rfl rfl rfl (by omega) ?_) | fail)
            repeat (first | refine gA pk ?_)
            refine ⟨k + 1, by omega, by omega, by exact subQ, ?_⟩
            rw [hs]
            exact OSub.refl _
          · obtain rfl : k = es.length := by omega
            refine a_know 0 rfl (fun hv => ?_)
            refine a_know 1 rfl (fun hw => ?_)
            repeat (first | refine gV pk ?_ | (show AL _ _ _ _ _ _ _; first | refine jO tok 2 ?_ | refine s_store (a := .agg [.lit vn, .lit ve]) tok 3 rfl rfl rfl rfl rfl rfl (by simp [AV.storable, AV.cell, hv, hw]) rfl (by decide) rfl rfl rfl (Nat.le_of_ble_eq_true rfl) ?_))
            refine a_ownSub [(vn, .row 3 1 (rowI r)), (ve, .row 70 3 ((reK q (es.map (mvE p)) (zE es.length) es.length).map cEd)), (u4, .box [.lit vn, .lit ve])] (.keep (.keep (.drop (.keep .nil)))) ?_
            refine a_freeze 0 rfl _ (FZS.refl _) [(ve, .row 70 3 ((reK q (es.map (mvE p)) (zE es.length) es.length).map cEd)), (u4, .box [.im 1 (rowI r), .lit ve])] ⟨rfl, rfl, rfl, rfl, by simp; exact fun a _ => rfl, FZL.refl _, rfl, ⟨FZ.here, FZ.refl _, trivial⟩, trivial⟩ ?_
            refine a_freeze 0 rfl _ (FZS.refl _) [(u4, .box [.im 1 (rowI r), .im 3 ((reK q (es.map (mvE p)) (zE es.length) es.length).map cEd)])] ⟨rfl, ⟨FZ.refl _, FZ.here, trivial⟩, trivial⟩ ?_
            refine a_frzBox 0 4 rfl rfl ?_
            refine a_ret ?_
            exact ⟨.inr rfl, _, _, [], rfl, Turn.of (Sub.refl _) (OSub.none _), rfl, rfl⟩
end Go.Proofs.YtcacbdohlfljfaaGreat
