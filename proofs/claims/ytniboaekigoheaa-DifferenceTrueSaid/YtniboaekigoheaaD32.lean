/-
  The law on tests that some values satisfy: the walk.
-/
import Derived.Test.YtniboaekigoheaaD29
import Derived.Test.YtniboaekigoheaaD23
import Derived.Test.YtniboaekigoheaaSjM12
namespace Go.Proofs.Ytniboaekigoheaa
open Go.Sj Go.Sj.Dif
set_option linter.unusedVariables false
set_option maxHeartbeats 4000000

theorem few_valid (q : Int) (hq : 0 ≤ q ∧ q < 6) (l : List C8) (hl : l.length ≤ 20) : validT q (fewL q l) = 0 := by
  refine validT_zero.2 ⟨⟨hq.1, by omega⟩, by simp [fewL]; omega, fun x hx => ?_⟩
  simp only [fewL, List.mem_map] at hx
  obtain ⟨c, hc, rfl⟩ := hx
  have a1 := Int.emod_nonneg c.1 (b := 4) (by decide)
  have a2 := Int.emod_lt_of_pos c.1 (b := 4) (by decide)
  have b1 := Int.emod_nonneg c.2.1 (b := q + 1) (by omega)
  have b2 := Int.emod_lt_of_pos c.2.1 (b := q + 1) (by omega)
  have d1 := Int.emod_nonneg c.2.2.1 (b := q + 1) (by omega)
  have d2 := Int.emod_lt_of_pos c.2.2.1 (b := q + 1) (by omega)
  have e1 := tmod_rng (a := c.2.2.2) (b := 12) (by decide)
  refine ⟨?_, ?_, ?_⟩ <;> simp only [mkC, mkT] <;> omega
theorem mkC_ok (q : Int) (hq : 0 ≤ q ∧ q < 6) (c : C8) : (-1 ≤ (mkC q c).lv ∧ (mkC q c).lv < q) ∧ ((mkC q c).la = 0) ∧ (-1 ≤ (mkC q c).rv ∧ (mkC q c).rv < q) ∧ (-12 ≤ (mkC q c).ra ∧ (mkC q c).ra ≤ 12) := by
  have b1 := Int.emod_nonneg c.2.1 (b := q + 1) (by omega)
  have b2 := Int.emod_lt_of_pos c.2.1 (b := q + 1) (by omega)
  have d1 := Int.emod_nonneg c.2.2.1 (b := q + 1) (by omega)
  have d2 := Int.emod_lt_of_pos c.2.2.1 (b := q + 1) (by omega)
  have e1 := tmod_rng (a := c.2.2.2) (b := 12) (by decide)
  refine ⟨⟨?_, ?_⟩, rfl, ⟨?_, ?_⟩, ?_, ?_⟩ <;> simp only [mkC, mkT] <;> omega
def vOf (W : List Int) (i : Nat) : Int := if i = 0 then 0 else W.getD (i - 1) 0
theorem valO_of {W : List Int} {v a : Int} (h : -1 ≤ v ∧ v < W.length) : valO W v a = some (vOf W (v + 1).toNat + a) := by
  unfold valO vOf
  by_cases h1 : v = -1
  · subst h1; simp
  · rw [if_neg h1, if_neg (by omega), if_neg (by omega)]
    congr 2
    rw [show (v + 1).toNat - 1 = v.toNat by omega]
theorem holds_sol {W : List Int} {x : Tst} (h : TOk W.length x) : holdsR x W = true ↔ Sol (arcsAt 0 x) (vOf W) := by
  obtain ⟨k, lv, la, rv, ra⟩ := x
  obtain ⟨hk, hL, hR⟩ := h
  simp only at hk hL hR
  simp only [holdsR]
  rw [valO_of ⟨hL.1, hL.2.1⟩, valO_of ⟨hR.1, hR.2.1⟩]
  simp only
  unfold arcsAt arcAt opAt Sol
  rcases hk with rfl | rfl
  · simp
    omega
  · simp
    omega
theorem true_law {W : List Int} {T : List Tst} (h0 : validT W.length T = 0) (hT : ∀ x ∈ T, holdsR x W = true) {x : Tst} (hx : TOk W.length x) :
    (solveR W.length T).2 = 0 ∧ (impliesR W.length T x).2 = 0 ∧ ((impliesR W.length T x).1 = true → holdsR x W = true) := by
  obtain ⟨_, _, hl⟩ := validT_zero.1 h0
  have hs : Sol (arcsOf T) (vOf W) := sol_arcs.2 fun y hy => (holds_sol (hl y hy)).1 (hT y hy)
  have hd := (distR_facts (aok_inr (arcsOf_ok hl))).1.2 ⟨_, hs⟩
  rw [impliesR_eq h0 (oneT_zero.2 hx)]
  refine ⟨?_, rfl, fun h => ?_⟩
  · simp only [solveR, h0, ne_eq, not_true_eq_false, if_false, Int.toNat_natCast]
    rw [if_pos hd]
  · exact (holds_sol hx).2 ((imp_words hl hx).1 h _ fun y hy => sol_arcs.1 hs y hy)
theorem mkC_tok (q : Nat) (hq : q < 6) (c : C8) : TOk q (mkC q c) := by
  have a1 := Int.emod_nonneg c.1 (b := 4) (by decide)
  have a2 := Int.emod_lt_of_pos c.1 (b := 4) (by decide)
  obtain ⟨h1, h2, h3, h4⟩ := mkC_ok q ⟨by omega, by omega⟩ c
  refine ⟨?_, by omega, by omega⟩
  simp only [mkC, mkT]
  omega
def trW (V : List Int) : List Int := V.map fun x => Int.tmod x 21
def trL (W : List Int) (l : List C8) : List Tst := (fewL W.length l).filter (holdsR · W)
theorem DifferenceTrue_spec (V : List Int) (hV : ∀ m ∈ V, In8 m) (l : List C8) (hl : ∀ c ∈ l, Ok8 c) (c : C8) (hc : Ok8 c) :
    Pure Try.prog 9 [.im 1 (V.map fun n => [A8 n]), .im 4 (l.map c8), .agg (c8 c)] (AB true) := by
  have ll : (l.map c8).length = l.length := by simp
  have lV : (V.map fun n => [A8 n]).length = V.length := by simp
  obtain ⟨c0, c1, c2, c3⟩ := c
  rw [show c8 (c0, c1, c2, c3) = [A8 c0, A8 c1, A8 c2, A8 c3] from rfl]
  by_cases h5 : 5 < V.length
  · refine a_enter Try.func9 (by kernel_rfl) rfl Try.ntmps9 rfl (by simp) ?_
    refine a_seq ?_
    refine a_reg ?_
    repeat (first
    | refine a_seq ?_
    | refine t_lit tok rfl rfl rfl rfl ?_
    | refine t_im tok rfl rfl rfl rfl ?_
    | refine t_ip tok rfl rfl rfl rfl ?_
    | refine t_pt tok rfl rfl rfl rfl ?_
    | refine t_agg tok rfl rfl rfl rfl ?_
    | refine t_tup tok rfl rfl rfl rfl ?_
    | refine t_fn tok rfl rfl rfl rfl ?_
    | refine AL.nil ?_
    | refine s_skip rfl rfl rfl ?_
    | refine s_cmpT rfl rfl rfl rfl rfl rfl rfl (by first | (simp only [cmpP]; omega) | exact rfl) ?_
    | refine s_cmpF rfl rfl rfl rfl rfl rfl rfl (by first | (simp only [cmpP]; omega) | exact rfl) ?_
    | refine s_arith rfl rfl rfl rfl rfl rfl rfl (by first | (exact IntWalk.i64_in _ (by omega)) | (exact IntWalk.u8_in _ (by omega))) ?_
    | refine s_box rfl rfl rfl rfl rfl rfl (fun u => ?_)
    | refine a_condT rfl ?_
    | refine a_condF rfl ?_
    | refine a_skip ?_
    | refine a_exit ?_
    | refine a_ret ?_
    | refine a_block ?_)
    refine a_frzBox 0 5 rfl rfl ?_
    repeat (first
    | refine a_seq ?_
    | refine a_reg ?_
    | refine a_regP mixed (by decide +kernel) ?_
    | refine t_lit tok rfl rfl rfl rfl ?_
    | refine t_im tok rfl rfl rfl rfl ?_
    | refine t_ip tok rfl rfl rfl rfl ?_
    | refine t_pt tok rfl rfl rfl rfl ?_
    | refine t_agg tok rfl rfl rfl rfl ?_
    | refine t_tup tok rfl rfl rfl rfl ?_
    | refine t_fn tok rfl rfl rfl rfl ?_
    | refine AL.nil ?_
    | refine s_skip rfl rfl rfl ?_
    | refine s_cmpT rfl rfl rfl rfl rfl rfl rfl (by first | (simp only [cmpP]; omega) | exact rfl) ?_
    | refine s_cmpF rfl rfl rfl rfl rfl rfl rfl (by first | (simp only [cmpP]; omega) | exact rfl) ?_
    | refine s_arith rfl rfl rfl rfl rfl rfl rfl (by first | (exact IntWalk.i64_in _ (by omega)) | (exact IntWalk.u8_in _ (by omega))) ?_
    | refine s_callP rfl rfl rfl rfl rfl (awake_spec) (SubL.of_eq rfl) ?_
    | refine a_condT rfl ?_
    | refine a_condF rfl ?_
    | refine a_skip ?_
    | refine a_exit ?_
    | refine a_ret ?_
    | refine a_block ?_)
    first | refine fin (x := .lit _) (.inr rfl) rfl (Sub.refl _) ?_ (OSub.none _) | refine fin (x := .im _ _) (.inr rfl) rfl (Sub.refl _) ?_ (OSub.none _) | refine fin (x := .tup [.lit _, .lit _]) (.inr rfl) rfl (Sub.refl _) ?_ (OSub.none _) | refine fin (x := .tup [.im _ _, .lit _]) (.inr rfl) rfl (Sub.refl _) ?_ (OSub.none _) | refine fin (x := .tup [.lit _, .lit _, .lit _]) (.inr rfl) rfl (Sub.refl _) ?_ (OSub.none _) | refine fin (x := .agg _) (.inr rfl) rfl (Sub.refl _) ?_ (OSub.none _)
    exact ⟨rfl, rfl⟩
  by_cases h : 20 < l.length
  · refine a_enter Try.func9 (by kernel_rfl) rfl Try.ntmps9 rfl (by simp) ?_
    refine a_seq ?_
    refine a_reg ?_
    repeat (first
    | refine a_seq ?_
    | refine t_lit tok rfl rfl rfl rfl ?_
    | refine t_im tok rfl rfl rfl rfl ?_
    | refine t_ip tok rfl rfl rfl rfl ?_
    | refine t_pt tok rfl rfl rfl rfl ?_
    | refine t_agg tok rfl rfl rfl rfl ?_
    | refine t_tup tok rfl rfl rfl rfl ?_
    | refine t_fn tok rfl rfl rfl rfl ?_
    | refine AL.nil ?_
    | refine s_skip rfl rfl rfl ?_
    | refine s_cmpT rfl rfl rfl rfl rfl rfl rfl (by first | (simp only [cmpP]; omega) | exact rfl) ?_
    | refine s_cmpF rfl rfl rfl rfl rfl rfl rfl (by first | (simp only [cmpP]; omega) | exact rfl) ?_
    | refine s_arith rfl rfl rfl rfl rfl rfl rfl (by first | (exact IntWalk.i64_in _ (by omega)) | (exact IntWalk.u8_in _ (by omega))) ?_
    | refine s_box rfl rfl rfl rfl rfl rfl (fun u => ?_)
    | refine a_condT rfl ?_
    | refine a_condF rfl ?_
    | refine a_skip ?_
    | refine a_exit ?_
    | refine a_ret ?_
    | refine a_block ?_)
    refine a_frzBox 0 5 rfl rfl ?_
    repeat (first
    | refine a_seq ?_
    | refine a_reg ?_
    | refine a_regP mixed (by decide +kernel) ?_
    | refine t_lit tok rfl rfl rfl rfl ?_
    | refine t_im tok rfl rfl rfl rfl ?_
    | refine t_ip tok rfl rfl rfl rfl ?_
    | refine t_pt tok rfl rfl rfl rfl ?_
    | refine t_agg tok rfl rfl rfl rfl ?_
    | refine t_tup tok rfl rfl rfl rfl ?_
    | refine t_fn tok rfl rfl rfl rfl ?_
    | refine AL.nil ?_
    | refine s_skip rfl rfl rfl ?_
    | refine s_cmpT rfl rfl rfl rfl rfl rfl rfl (by first | (simp only [cmpP]; omega) | exact rfl) ?_
    | refine s_cmpF rfl rfl rfl rfl rfl rfl rfl (by first | (simp only [cmpP]; omega) | exact rfl) ?_
    | refine s_arith rfl rfl rfl rfl rfl rfl rfl (by first | (exact IntWalk.i64_in _ (by omega)) | (exact IntWalk.u8_in _ (by omega))) ?_
    | refine s_callP rfl rfl rfl rfl rfl (awake_spec) (SubL.of_eq rfl) ?_
    | refine a_condT rfl ?_
    | refine a_condF rfl ?_
    | refine a_skip ?_
    | refine a_exit ?_
    | refine a_ret ?_
    | refine a_block ?_)
    first | refine fin (x := .lit _) (.inr rfl) rfl (Sub.refl _) ?_ (OSub.none _) | refine fin (x := .im _ _) (.inr rfl) rfl (Sub.refl _) ?_ (OSub.none _) | refine fin (x := .tup [.lit _, .lit _]) (.inr rfl) rfl (Sub.refl _) ?_ (OSub.none _) | refine fin (x := .tup [.im _ _, .lit _]) (.inr rfl) rfl (Sub.refl _) ?_ (OSub.none _) | refine fin (x := .tup [.lit _, .lit _, .lit _]) (.inr rfl) rfl (Sub.refl _) ?_ (OSub.none _) | refine fin (x := .agg _) (.inr rfl) rfl (Sub.refl _) ?_ (OSub.none _)
    exact ⟨rfl, rfl⟩
  · obtain ⟨hc0, hc1, hc2, hc3⟩ := hc
    simp only at hc0 hc1 hc2 hc3
    have hm := Made_spec V.length c0 c1 c2 c3 ⟨by omega, by omega⟩ hc0 hc1 hc2 hc3
    have hxo := mkC_tok V.length (by omega) (c0, c1, c2, c3)
    have hxr := mkC_ok V.length ⟨by omega, by omega⟩ (c0, c1, c2, c3)
    rw [show mkT V.length c0 c1 c2 c3 = mkC V.length (c0, c1, c2, c3) from rfl] at hm
    generalize mkC V.length (c0, c1, c2, c3) = x at *
    have hWl : (trW V).length = V.length := by simp [trW]
    have hWs : ∀ y ∈ trW V, InW y := fun y hy => by
      obtain ⟨a, ha, rfl⟩ := List.mem_map.1 hy
      have := tmod_rng (a := a) (b := 21) (by decide)
      exact ⟨by omega, by omega⟩
    have hT : ∀ y ∈ trL (trW V) l, holdsR y (trW V) = true := fun y hy => by
      simp only [trL, List.mem_filter] at hy
      exact hy.2
    have h0 : validT V.length (trL (trW V) l) = 0 := by
      obtain ⟨a1, a2, a3⟩ := validT_zero.1 (few_valid V.length ⟨by omega, by omega⟩ l (by omega))
      refine validT_zero.2 ⟨a1, ?_, fun y hy => a3 y ?_⟩
      · have := List.length_filter_le (holdsR · (trW V)) (fewL V.length l)
        simp only [trL, hWl]; omega
      · simp only [trL, List.mem_filter, hWl] at hy
        exact hy.1
    have law := true_law (W := trW V) (T := trL (trW V) l) (x := x) (by rw [hWl]; exact h0) hT (by rw [hWl]; exact hxo)
    rw [hWl] at law
    have t1 := Solve_spec V.length (trL (trW V) l)
    have t2 := Implies_spec V.length (trL (trW V) l) x
    have t3 := Holds_spec x (trW V) ⟨by omega, by omega⟩ ⟨by omega, by omega⟩ hWs
    obtain ⟨o1, o2, o3⟩ := law
    rw [o1] at t1
    rw [o2] at t2
    have hTl : (trL (trW V) l).length ≤ 20 := by
      have := List.length_filter_le (holdsR · (trW V)) (fewL V.length l)
      have e : (fewL V.length l).length = l.length := by simp [fewL]
      simp only [trL, hWl]; omega
    have hstep : ∀ k (hk : k < l.length), trL (trW V) (l.take (k + 1)) = trL (trW V) (l.take k) ++ if holdsR (mkC V.length l[k]) (trW V) = true then [mkC V.length l[k]] else [] := fun k hk => by
      rw [List.take_succ_eq_append_getElem hk]
      simp only [trL, fewL, List.map_append, List.filter_append, hWl, List.map_cons, List.map_nil]
      congr 1
      simp only [List.filter_cons, List.filter_nil]
    have hpre : ∀ k, (trL (trW V) (l.take k)).length ≤ 20 := fun k => by
      have := List.length_filter_le (holdsR · (trW V)) (fewL V.length (l.take k))
      have e : (fewL V.length (l.take k)).length ≤ l.length := by simp [fewL]; omega
      simp only [trL, hWl]; omega
    have hHo : ∀ (k : Nat) (hk : k < l.length), Pure Try.prog 28 [.agg (cT (mkC V.length l[k])), ints (trW V)] (AB (holdsR (mkC V.length l[k]) (trW V))) := fun k hk => by
      have := mkC_ok V.length ⟨by omega, by omega⟩ l[k]
      exact Holds_spec _ (trW V) ⟨by omega, by omega⟩ ⟨by omega, by omega⟩ hWs
    have hMa : ∀ (k : Nat) (hk : k < l.length), Pure Try.prog 19 [AI V.length, .agg (c8 l[k])] (.agg (cT (mkC V.length l[k]))) := fun k hk => by
      obtain ⟨e0, e1, e2, e3⟩ := hl _ (List.getElem_mem hk)
      exact Made_spec V.length _ _ _ _ ⟨by omega, by omega⟩ e0 e1 e2 e3
    have hw0 : ∀ k (hk : k < V.length), trW (V.take (k + 1)) = trW (V.take k) ++ [Int.tmod V[k] 21] := fun k hk => by
      rw [List.take_succ_eq_append_getElem hk, trW, List.map_append]; rfl
    have hwl : ∀ k, (trW (V.take k)).length ≤ 5 := fun k => by simp [trW]; omega
    generalize hW : trW V = W at *
    have lW : (rowI W).length = V.length := by simp [hWl]
    refine a_enter Try.func9 (by kernel_rfl) rfl Try.ntmps9 rfl (by simp) ?_
    refine a_seq ?_
    refine a_reg ?_
    repeat (first
    | refine a_seq ?_
    | refine t_lit tok rfl rfl rfl rfl ?_
    | refine t_im tok rfl rfl rfl rfl ?_
    | refine t_ip tok rfl rfl rfl rfl ?_
    | refine t_pt tok rfl rfl rfl rfl ?_
    | refine t_agg tok rfl rfl rfl rfl ?_
    | refine t_tup tok rfl rfl rfl rfl ?_
    | refine t_fn tok rfl rfl rfl rfl ?_
    | refine AL.nil ?_
    | refine s_skip rfl rfl rfl ?_
    | refine s_cmpT rfl rfl rfl rfl rfl rfl rfl (by first | (simp only [cmpP]; omega) | exact rfl) ?_
    | refine s_cmpF rfl rfl rfl rfl rfl rfl rfl (by first | (simp only [cmpP]; omega) | exact rfl) ?_
    | refine s_arith rfl rfl rfl rfl rfl rfl rfl (by first | (exact IntWalk.i64_in _ (by omega)) | (exact IntWalk.u8_in _ (by omega))) ?_
    | refine s_box rfl rfl rfl rfl rfl rfl (fun u => ?_)
    | refine a_condT rfl ?_
    | refine a_condF rfl ?_
    | refine a_skip ?_
    | refine a_exit ?_
    | refine a_ret ?_
    | refine a_block ?_)
    refine a_frzBox 0 5 rfl rfl ?_
    repeat (first
    | refine a_seq ?_
    | refine a_reg ?_
    | refine a_regP mixed (by decide +kernel) ?_
    | refine t_lit tok rfl rfl rfl rfl ?_
    | refine t_im tok rfl rfl rfl rfl ?_
    | refine t_ip tok rfl rfl rfl rfl ?_
    | refine t_pt tok rfl rfl rfl rfl ?_
    | refine t_agg tok rfl rfl rfl rfl ?_
    | refine t_tup tok rfl rfl rfl rfl ?_
    | refine t_fn tok rfl rfl rfl rfl ?_
    | refine AL.nil ?_
    | refine s_skip rfl rfl rfl ?_
    | refine s_cmpT rfl rfl rfl rfl rfl rfl rfl (by first | (simp only [cmpP]; omega) | exact rfl) ?_
    | refine s_cmpF rfl rfl rfl rfl rfl rfl rfl (by first | (simp only [cmpP]; omega) | exact rfl) ?_
    | refine s_arith rfl rfl rfl rfl rfl rfl rfl (by first | (exact IntWalk.i64_in _ (by omega)) | (exact IntWalk.u8_in _ (by omega))) ?_
    | refine s_callP rfl rfl rfl rfl rfl (awake_spec) (SubL.of_eq rfl) ?_
    | refine a_condT rfl ?_
    | refine a_condF rfl ?_
    | refine a_skip ?_
    | refine a_exit ?_
    | refine a_ret ?_
    | refine a_block ?_)
    rw [lV]
    refine a_loop2 (fun (k : Nat) (v : Value) => [(1, .im 4 (l.map c8)), (5, .ip [A8 c0, A8 c1, A8 c2, A8 c3]), (7, .lit v), (32, .im 1 (V.map fun n => [A8 n])), (33, AI V.length), (34, AI k)]) (fun k v => [(v, .row 3 1 (rowI (trW (V.take k))))]) (fun k _ => k ≤ V.length) (fun k _ => V.length - k) 0 (.slice none 0 0) (Nat.zero_le _) ?_ (.free .nil) ?_
    · repeat (first | exact subs_nil | refine subs_cons (Sub.of_eq rfl) ?_ | refine subs_cons (Sub.nil _) ?_)
    · intro k v hk
      rcases Nat.lt_or_ge k V.length with hlt | hge
      · have hx := List.getElem?_eq_getElem hlt
        have hs := hw0 k hlt
        have hlo := hwl k
        have i8 := hV _ (List.getElem_mem hlt)
        generalize V[k] = a at hx hs i8
        obtain ⟨i81, i82⟩ := i8
        have xk : (V.map fun n => [A8 n])[(k : Int).toNat]? = some [A8 a] := map_get (f := fun n => [A8 n]) hx
        generalize trW (V.take k) = out at *
        have lo : (rowI out).length = out.length := by simp
        repeat (first
    | refine a_seq ?_
    | refine a_reg ?_
    | refine a_regP mixed (by decide +kernel) ?_
    | refine t_lit tok rfl rfl rfl rfl ?_
    | refine t_im tok rfl rfl rfl rfl ?_
    | refine t_ip tok rfl rfl rfl rfl ?_
    | refine t_pt tok rfl rfl rfl rfl ?_
    | refine t_agg tok rfl rfl rfl rfl ?_
    | refine t_tup tok rfl rfl rfl rfl ?_
    | refine t_fn tok rfl rfl rfl rfl ?_
    | refine AL.nil ?_
    | refine s_skip rfl rfl rfl ?_
    | refine s_cmpT rfl rfl rfl rfl rfl rfl rfl (by first | (simp only [cmpP]; omega) | exact rfl) ?_
    | refine s_cmpF rfl rfl rfl rfl rfl rfl rfl (by first | (simp only [cmpP]; omega) | exact rfl) ?_
    | refine s_arith rfl rfl rfl rfl rfl rfl rfl (by first | (exact IntWalk.i64_in _ (by omega)) | (exact IntWalk.u8_in _ (by omega))) ?_
    | refine s_index tok rfl rfl rfl rfl rfl rfl rfl rfl rfl (by omega) xk ?_
    | refine s_conv tok rfl rfl rfl rfl rfl rfl rfl (IntWalk.i64_in _ (by omega)) ?_
    | refine s_remT rfl rfl rfl rfl rfl rfl (by omega) ?_
    | refine a_condT rfl ?_
    | refine a_condF rfl ?_
    | refine a_skip ?_
    | refine a_exit ?_
    | refine a_ret ?_
    | refine a_block ?_)
        (first | refine s_build1 tok rfl rfl rfl rfl rfl rfl rfl rfl (fun u => ?_) | refine s_build1M tok rfl rfl rfl rfl rfl rfl rfl (fun u => ?_) | refine s_build1A tok rfl rfl rfl rfl rfl rfl rfl rfl (by decide) (fun u => ?_)); refine s_append1 tok 0 rfl rfl rfl rfl rfl rfl (by decide) rfl rfl rfl rfl (by omega) (by omega) (fun v' => ?_)
        repeat (first
    | refine a_seq ?_
    | refine a_reg ?_
    | refine a_regP mixed (by decide +kernel) ?_
    | refine t_lit tok rfl rfl rfl rfl ?_
    | refine t_im tok rfl rfl rfl rfl ?_
    | refine t_ip tok rfl rfl rfl rfl ?_
    | refine t_pt tok rfl rfl rfl rfl ?_
    | refine t_agg tok rfl rfl rfl rfl ?_
    | refine t_tup tok rfl rfl rfl rfl ?_
    | refine t_fn tok rfl rfl rfl rfl ?_
    | refine AL.nil ?_
    | refine s_skip rfl rfl rfl ?_
    | refine s_cmpT rfl rfl rfl rfl rfl rfl rfl (by first | (simp only [cmpP]; omega) | exact rfl) ?_
    | refine s_cmpF rfl rfl rfl rfl rfl rfl rfl (by first | (simp only [cmpP]; omega) | exact rfl) ?_
    | refine s_arith rfl rfl rfl rfl rfl rfl rfl (by first | (exact IntWalk.i64_in _ (by omega)) | (exact IntWalk.u8_in _ (by omega))) ?_
    | refine a_condT rfl ?_
    | refine a_condF rfl ?_
    | refine a_skip ?_
    | refine a_exit ?_
    | refine a_ret ?_
    | refine a_block ?_)
        refine ⟨k + 1, v', by omega, by omega, ?_, ?_⟩
        · repeat (first | exact subs_nil | refine subs_cons (Sub.of_eq rfl) ?_ | refine subs_cons (Sub.nil _) ?_)
        · rw [hs, rowI, List.map_append]
          exact OSub.refl _
      · obtain rfl : k = V.length := by omega
        rw [List.take_length, hW]
        repeat (first
    | refine a_seq ?_
    | refine a_reg ?_
    | refine a_regP mixed (by decide +kernel) ?_
    | refine t_lit tok rfl rfl rfl rfl ?_
    | refine t_im tok rfl rfl rfl rfl ?_
    | refine t_ip tok rfl rfl rfl rfl ?_
    | refine t_pt tok rfl rfl rfl rfl ?_
    | refine t_agg tok rfl rfl rfl rfl ?_
    | refine t_tup tok rfl rfl rfl rfl ?_
    | refine t_fn tok rfl rfl rfl rfl ?_
    | refine AL.nil ?_
    | refine s_skip rfl rfl rfl ?_
    | refine s_cmpT rfl rfl rfl rfl rfl rfl rfl (by first | (simp only [cmpP]; omega) | exact rfl) ?_
    | refine s_cmpF rfl rfl rfl rfl rfl rfl rfl (by first | (simp only [cmpP]; omega) | exact rfl) ?_
    | refine s_arith rfl rfl rfl rfl rfl rfl rfl (by first | (exact IntWalk.i64_in _ (by omega)) | (exact IntWalk.u8_in _ (by omega))) ?_
    | refine a_condT rfl ?_
    | refine a_condF rfl ?_
    | refine a_skip ?_
    | refine a_exit ?_
    | refine a_ret ?_
    | refine a_block ?_)
        refine a_frz 0 7 rfl rfl ?_
        repeat (first
    | refine a_seq ?_
    | refine a_reg ?_
    | refine a_regP mixed (by decide +kernel) ?_
    | refine t_lit tok rfl rfl rfl rfl ?_
    | refine t_im tok rfl rfl rfl rfl ?_
    | refine t_ip tok rfl rfl rfl rfl ?_
    | refine t_pt tok rfl rfl rfl rfl ?_
    | refine t_agg tok rfl rfl rfl rfl ?_
    | refine t_tup tok rfl rfl rfl rfl ?_
    | refine t_fn tok rfl rfl rfl rfl ?_
    | refine AL.nil ?_
    | refine s_skip rfl rfl rfl ?_
    | refine s_cmpT rfl rfl rfl rfl rfl rfl rfl (by first | (simp only [cmpP]; omega) | exact rfl) ?_
    | refine s_cmpF rfl rfl rfl rfl rfl rfl rfl (by first | (simp only [cmpP]; omega) | exact rfl) ?_
    | refine s_arith rfl rfl rfl rfl rfl rfl rfl (by first | (exact IntWalk.i64_in _ (by omega)) | (exact IntWalk.u8_in _ (by omega))) ?_
    | refine a_condT rfl ?_
    | refine a_condF rfl ?_
    | refine a_skip ?_
    | refine a_exit ?_
    | refine a_ret ?_
    | refine a_block ?_)
        rw [ll]
        refine a_loop2 (fun (k : Nat) (v : Value) => [(5, .ip [A8 c0, A8 c1, A8 c2, A8 c3]), (7, ints W), (10, .lit v), (45, .im 4 (l.map c8)), (46, AI l.length), (47, AI k)]) (fun k v => [(v, .row 26 5 ((trL W (l.take k)).map cT))]) (fun k _ => k ≤ l.length) (fun k _ => l.length - k) 0 (.slice none 0 0) (Nat.zero_le _) ?_ (.free .nil) ?_
        · repeat (first | exact subs_nil | refine subs_cons (Sub.of_eq rfl) ?_ | refine subs_cons (Sub.nil _) ?_)
        · intro k v hk
          rcases Nat.lt_or_ge k l.length with hlt | hge
          · have hx := List.getElem?_eq_getElem hlt
            have hs := hstep k hlt
            have hlo := hpre k
            have hho := hHo k hlt
            have hma := hMa k hlt
            generalize l[k] = d at hx hs hho hma
            obtain ⟨d0, d1, d2, d3⟩ := d
            rw [show c8 (d0, d1, d2, d3) = [A8 d0, A8 d1, A8 d2, A8 d3] from rfl] at hma
            have xk : (l.map c8)[(k : Int).toNat]? = some [A8 d0, A8 d1, A8 d2, A8 d3] := map_get hx
            generalize mkC V.length (d0, d1, d2, d3) = y at *
            generalize trL W (l.take k) = out at *
            have lo : (out.map cT).length = out.length := by simp
            generalize hhB : holdsR y W = b at *
            obtain ⟨t0, t1, t2, t3, t4⟩ := y
            rw [show cT ⟨t0, t1, t2, t3, t4⟩ = [AI t0, AI t1, AI t2, AI t3, AI t4] from rfl] at hma hho
            rw [← lW] at hma
            cases b with
            | true =>
              rw [if_pos rfl] at hs
              repeat (first
    | refine a_seq ?_
    | refine a_reg ?_
    | refine a_regP mixed (by decide +kernel) ?_
    | refine t_lit tok rfl rfl rfl rfl ?_
    | refine t_im tok rfl rfl rfl rfl ?_
    | refine t_ip tok rfl rfl rfl rfl ?_
    | refine t_pt tok rfl rfl rfl rfl ?_
    | refine t_agg tok rfl rfl rfl rfl ?_
    | refine t_tup tok rfl rfl rfl rfl ?_
    | refine t_fn tok rfl rfl rfl rfl ?_
    | refine AL.nil ?_
    | refine s_skip rfl rfl rfl ?_
    | refine s_cmpT rfl rfl rfl rfl rfl rfl rfl (by first | (simp only [cmpP]; omega) | exact rfl) ?_
    | refine s_cmpF rfl rfl rfl rfl rfl rfl rfl (by first | (simp only [cmpP]; omega) | exact rfl) ?_
    | refine s_arith rfl rfl rfl rfl rfl rfl rfl (by first | (exact IntWalk.i64_in _ (by omega)) | (exact IntWalk.u8_in _ (by omega))) ?_
    | refine s_alloc tok rfl rfl rfl rfl rfl (fun u => ?_)
    | refine s_store tok 0 rfl rfl rfl rfl rfl rfl rfl rfl (by decide) rfl rfl rfl (Nat.le_refl _) ?_
    | refine s_index tok rfl rfl rfl rfl rfl rfl rfl rfl rfl (by omega) xk ?_
    | refine s_ownLoad tok 0 rfl rfl rfl rfl (by decide) rfl rfl rfl rfl rfl rfl (List.cons_ne_nil _ _) ?_
    | refine s_callP rfl rfl rfl rfl rfl (hma) (SubL.of_eq rfl) ?_
    | refine s_callP rfl rfl rfl rfl rfl (hho) (SubL.of_eq rfl) ?_
    | refine a_condT rfl ?_
    | refine a_condF rfl ?_
    | refine a_skip ?_
    | refine a_exit ?_
    | refine a_ret ?_
    | refine a_block ?_)
              (first | refine s_build1 tok rfl rfl rfl rfl rfl rfl rfl rfl (fun u => ?_) | refine s_build1M tok rfl rfl rfl rfl rfl rfl rfl (fun u => ?_) | refine s_build1A tok rfl rfl rfl rfl rfl rfl rfl rfl (by decide) (fun u => ?_)); refine s_append1 tok 2 rfl rfl rfl rfl rfl rfl (by decide) rfl rfl rfl rfl (by omega) (by omega) (fun v' => ?_)
              repeat (first
    | refine a_seq ?_
    | refine a_reg ?_
    | refine a_regP mixed (by decide +kernel) ?_
    | refine t_lit tok rfl rfl rfl rfl ?_
    | refine t_im tok rfl rfl rfl rfl ?_
    | refine t_ip tok rfl rfl rfl rfl ?_
    | refine t_pt tok rfl rfl rfl rfl ?_
    | refine t_agg tok rfl rfl rfl rfl ?_
    | refine t_tup tok rfl rfl rfl rfl ?_
    | refine t_fn tok rfl rfl rfl rfl ?_
    | refine AL.nil ?_
    | refine s_skip rfl rfl rfl ?_
    | refine s_cmpT rfl rfl rfl rfl rfl rfl rfl (by first | (simp only [cmpP]; omega) | exact rfl) ?_
    | refine s_cmpF rfl rfl rfl rfl rfl rfl rfl (by first | (simp only [cmpP]; omega) | exact rfl) ?_
    | refine s_arith rfl rfl rfl rfl rfl rfl rfl (by first | (exact IntWalk.i64_in _ (by omega)) | (exact IntWalk.u8_in _ (by omega))) ?_
    | refine a_condT rfl ?_
    | refine a_condF rfl ?_
    | refine a_skip ?_
    | refine a_exit ?_
    | refine a_ret ?_
    | refine a_block ?_)
              refine ⟨k + 1, v', by omega, by omega, ?_, ?_⟩
              · repeat (first | exact subs_nil | refine subs_cons (Sub.of_eq rfl) ?_ | refine subs_cons (Sub.nil _) ?_)
              · rw [hs, List.map_append]
                first | exact .keep (.drop (.drop .nil)) | exact .drop (.keep (.drop .nil)) | exact .drop (.drop (.keep .nil)) | exact OSub.refl _
            | false =>
              rw [if_neg (by simp), List.append_nil] at hs
              repeat (first
    | refine a_seq ?_
    | refine a_reg ?_
    | refine a_regP mixed (by decide +kernel) ?_
    | refine t_lit tok rfl rfl rfl rfl ?_
    | refine t_im tok rfl rfl rfl rfl ?_
    | refine t_ip tok rfl rfl rfl rfl ?_
    | refine t_pt tok rfl rfl rfl rfl ?_
    | refine t_agg tok rfl rfl rfl rfl ?_
    | refine t_tup tok rfl rfl rfl rfl ?_
    | refine t_fn tok rfl rfl rfl rfl ?_
    | refine AL.nil ?_
    | refine s_skip rfl rfl rfl ?_
    | refine s_cmpT rfl rfl rfl rfl rfl rfl rfl (by first | (simp only [cmpP]; omega) | exact rfl) ?_
    | refine s_cmpF rfl rfl rfl rfl rfl rfl rfl (by first | (simp only [cmpP]; omega) | exact rfl) ?_
    | refine s_arith rfl rfl rfl rfl rfl rfl rfl (by first | (exact IntWalk.i64_in _ (by omega)) | (exact IntWalk.u8_in _ (by omega))) ?_
    | refine s_alloc tok rfl rfl rfl rfl rfl (fun u => ?_)
    | refine s_store tok 0 rfl rfl rfl rfl rfl rfl rfl rfl (by decide) rfl rfl rfl (Nat.le_refl _) ?_
    | refine s_index tok rfl rfl rfl rfl rfl rfl rfl rfl rfl (by omega) xk ?_
    | refine s_ownLoad tok 0 rfl rfl rfl rfl (by decide) rfl rfl rfl rfl rfl rfl (List.cons_ne_nil _ _) ?_
    | refine s_callP rfl rfl rfl rfl rfl (hma) (SubL.of_eq rfl) ?_
    | refine s_callP rfl rfl rfl rfl rfl (hho) (SubL.of_eq rfl) ?_
    | refine a_condT rfl ?_
    | refine a_condF rfl ?_
    | refine a_skip ?_
    | refine a_exit ?_
    | refine a_ret ?_
    | refine a_block ?_)
              refine ⟨k + 1, v, by omega, by omega, ?_, ?_⟩
              · repeat (first | exact subs_nil | refine subs_cons (Sub.of_eq rfl) ?_ | refine subs_cons (Sub.nil _) ?_)
              · rw [hs]
                first | exact .keep (.drop (.drop .nil)) | exact .drop (.keep (.drop .nil)) | exact .drop (.drop (.keep .nil)) | exact OSub.refl _
          · obtain rfl : k = l.length := by omega
            rw [List.take_length]
            obtain ⟨t0, t1', t2', t3', t4'⟩ := x
            rw [show tA ⟨t0, t1', t2', t3', t4'⟩ = .agg [AI t0, AI t1', AI t2', AI t3', AI t4'] from rfl] at t2
            rw [show cT ⟨t0, t1', t2', t3', t4'⟩ = [AI t0, AI t1', AI t2', AI t3', AI t4'] from rfl] at hm t3
            generalize (solveR V.length (trL W l)).1 = U at *
            generalize (impliesR V.length (trL W l) ⟨t0, t1', t2', t3', t4'⟩).1 = b at *
            generalize holdsR ⟨t0, t1', t2', t3', t4'⟩ W = c at *
            rw [← lW] at hm t1 t2
            refine a_frz 0 10 rfl rfl ?_
            cases b with
            | false =>
              repeat (first
    | refine a_seq ?_
    | refine a_reg ?_
    | refine a_regP mixed (by decide +kernel) ?_
    | refine t_lit tok rfl rfl rfl rfl ?_
    | refine t_im tok rfl rfl rfl rfl ?_
    | refine t_ip tok rfl rfl rfl rfl ?_
    | refine t_pt tok rfl rfl rfl rfl ?_
    | refine t_agg tok rfl rfl rfl rfl ?_
    | refine t_tup tok rfl rfl rfl rfl ?_
    | refine t_fn tok rfl rfl rfl rfl ?_
    | refine AL.nil ?_
    | refine s_skip rfl rfl rfl ?_
    | refine s_cmpT rfl rfl rfl rfl rfl rfl rfl (by first | (simp only [cmpP]; omega) | exact rfl) ?_
    | refine s_cmpF rfl rfl rfl rfl rfl rfl rfl (by first | (simp only [cmpP]; omega) | exact rfl) ?_
    | refine s_arith rfl rfl rfl rfl rfl rfl rfl (by first | (exact IntWalk.i64_in _ (by omega)) | (exact IntWalk.u8_in _ (by omega))) ?_
    | refine s_alloc tok rfl rfl rfl rfl rfl (fun u => ?_)
    | refine s_store tok 0 rfl rfl rfl rfl rfl rfl rfl rfl (by decide) rfl rfl rfl (Nat.le_refl _) ?_
    | refine s_ownLoad tok 0 rfl rfl rfl rfl (by decide) rfl rfl rfl rfl rfl rfl (List.cons_ne_nil _ _) ?_
    | refine s_callP rfl rfl rfl rfl rfl (hm) (SubL.of_eq rfl) ?_
    | refine s_callP rfl rfl rfl rfl rfl (t1) (SubL.of_eq rfl) ?_
    | refine s_callP rfl rfl rfl rfl rfl (t2) (SubL.of_eq rfl) ?_
    | refine a_condT rfl ?_
    | refine a_condF rfl ?_
    | refine a_skip ?_
    | refine a_exit ?_
    | refine a_ret ?_
    | refine a_block ?_)
              first | refine fin (x := .lit _) (.inr rfl) rfl (Sub.refl _) ?_ (OSub.none _) | refine fin (x := .im _ _) (.inr rfl) rfl (Sub.refl _) ?_ (OSub.none _) | refine fin (x := .tup [.lit _, .lit _]) (.inr rfl) rfl (Sub.refl _) ?_ (OSub.none _) | refine fin (x := .tup [.im _ _, .lit _]) (.inr rfl) rfl (Sub.refl _) ?_ (OSub.none _) | refine fin (x := .tup [.lit _, .lit _, .lit _]) (.inr rfl) rfl (Sub.refl _) ?_ (OSub.none _) | refine fin (x := .agg _) (.inr rfl) rfl (Sub.refl _) ?_ (OSub.none _)
              exact ⟨rfl, rfl⟩
            | true =>
              obtain rfl := o3 rfl
              repeat (first
    | refine a_seq ?_
    | refine a_reg ?_
    | refine a_regP mixed (by decide +kernel) ?_
    | refine t_lit tok rfl rfl rfl rfl ?_
    | refine t_im tok rfl rfl rfl rfl ?_
    | refine t_ip tok rfl rfl rfl rfl ?_
    | refine t_pt tok rfl rfl rfl rfl ?_
    | refine t_agg tok rfl rfl rfl rfl ?_
    | refine t_tup tok rfl rfl rfl rfl ?_
    | refine t_fn tok rfl rfl rfl rfl ?_
    | refine AL.nil ?_
    | refine s_skip rfl rfl rfl ?_
    | refine s_cmpT rfl rfl rfl rfl rfl rfl rfl (by first | (simp only [cmpP]; omega) | exact rfl) ?_
    | refine s_cmpF rfl rfl rfl rfl rfl rfl rfl (by first | (simp only [cmpP]; omega) | exact rfl) ?_
    | refine s_arith rfl rfl rfl rfl rfl rfl rfl (by first | (exact IntWalk.i64_in _ (by omega)) | (exact IntWalk.u8_in _ (by omega))) ?_
    | refine s_alloc tok rfl rfl rfl rfl rfl (fun u => ?_)
    | refine s_store tok 0 rfl rfl rfl rfl rfl rfl rfl rfl (by decide) rfl rfl rfl (Nat.le_refl _) ?_
    | refine s_ownLoad tok 0 rfl rfl rfl rfl (by decide) rfl rfl rfl rfl rfl rfl (List.cons_ne_nil _ _) ?_
    | refine s_callP rfl rfl rfl rfl rfl (hm) (SubL.of_eq rfl) ?_
    | refine s_callP rfl rfl rfl rfl rfl (t1) (SubL.of_eq rfl) ?_
    | refine s_callP rfl rfl rfl rfl rfl (t2) (SubL.of_eq rfl) ?_
    | refine s_callP rfl rfl rfl rfl rfl (t3) (SubL.of_eq rfl) ?_
    | refine a_condT rfl ?_
    | refine a_condF rfl ?_
    | refine a_skip ?_
    | refine a_exit ?_
    | refine a_ret ?_
    | refine a_block ?_)
              first | refine fin (x := .lit _) (.inr rfl) rfl (Sub.refl _) ?_ (OSub.none _) | refine fin (x := .im _ _) (.inr rfl) rfl (Sub.refl _) ?_ (OSub.none _) | refine fin (x := .tup [.lit _, .lit _]) (.inr rfl) rfl (Sub.refl _) ?_ (OSub.none _) | refine fin (x := .tup [.im _ _, .lit _]) (.inr rfl) rfl (Sub.refl _) ?_ (OSub.none _) | refine fin (x := .tup [.lit _, .lit _, .lit _]) (.inr rfl) rfl (Sub.refl _) ?_ (OSub.none _) | refine fin (x := .agg _) (.inr rfl) rfl (Sub.refl _) ?_ (OSub.none _)
              exact ⟨rfl, rfl⟩
end Go.Proofs.Ytniboaekigoheaa
