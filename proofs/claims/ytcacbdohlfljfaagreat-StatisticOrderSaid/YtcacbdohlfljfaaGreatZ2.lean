/-
  Rows of counts: deletion, binary search, equality: the walks of package slices. Conditions: short rows.
-/
import Derived.Test.YtcacbdohlfljfaaGreatSjQ8
import Derived.Test.YtcacbdohlfljfaaGreatZ1
namespace Go.Proofs.YtcacbdohlfljfaaGreat
open Go.Sj Go.Sj.Typ Go.Sj.Sta
set_option linter.unusedVariables false
set_option linter.unusedSimpArgs false
set_option maxHeartbeats 4000000

theorem DeleteC_spec (l : List Cnt) (k : Nat) (hk : k < l.length) (hl : l.length ≤ 1000) (v : Value) :
    ACalls Tryz.prog 71 [.lit v, AI k, AI (k + 1)] [(v, .row 75 4 (l.map cCnt))]
      (fun y L => ∃ v', y = .lit v' ∧ L = [(v', .row 75 4 ((l.take k ++ l.drop (k + 1)).map cCnt))]) := by
  have ll : (l.map cCnt).length = l.length := by simp
  refine a_enter Tryz.func71 (by kernel_rfl) rfl Tryz.ntmps71 rfl (by simp) ?_
  refine a_knowRow 0 rfl (fun a c hv hc hm _ => ?_)
  subst hv
  rw [ll] at hc ⊢
  repeat (first | refine gN pk ?_ | (show AL _ _ _ _ _ _ _; first | refine s_ownLen tok 0 rfl rfl rfl rfl (by decide) rfl rfl rfl ?_ | refine s_slice3 tok k (k + 1) l.length rfl rfl rfl rfl rfl rfl rfl rfl rfl rfl (by omega) (by omega) (by omega) (by omega) (by omega) (by omega) ?_))
  refine a_regP mixed (by decide +kernel) ?_
  repeat (first | refine gY pk ?_ | (show AL _ _ _ _ _ _ _; first | refine s_capPart tok 0 k rfl rfl rfl rfl rfl rfl rfl rfl (by first | exact rfl | exact ⟨_, _, rfl, by omega⟩) (by first | exact rfl | exact ⟨_, _, rfl, by omega⟩) (by omega) (by omega) ?_ | refine s_capPart tok (k + 1) l.length rfl rfl rfl rfl rfl rfl rfl rfl (by first | exact rfl | exact ⟨_, _, rfl, by omega⟩) (by first | exact rfl | exact ⟨_, _, rfl, by omega⟩) (by omega) (by omega) ?_ | refine s_appendBack tok 0 k (k + 1) rfl rfl rfl rfl rfl rfl (by decide) rfl rfl rfl rfl (by omega) (by omega) (cCnt_cell l) ?_))
  have hl2 : ((l.map cCnt).take k ++ (l.map cCnt).drop (k + 1)).length = k + (l.length - (k + 1)) := by simp only [List.length_append, List.length_take, List.length_drop, ll]; omega
  repeat (first | refine gA pk ?_ | (show AL _ _ _ _ _ _ _; first | refine s_ownLen tok 0 rfl rfl rfl rfl (by decide) rfl rfl rfl ?_ | refine s_capPart tok (k + (l.length - (k + 1))) l.length rfl rfl rfl rfl rfl rfl rfl rfl (by first | exact rfl | exact ⟨_, _, rfl, by omega⟩) (by first | exact rfl | exact ⟨_, _, rfl, by omega⟩) (by omega) (by omega) ?_ | refine s_clearTail tok 0 (k + (l.length - (k + 1))) l.length rfl rfl rfl rfl rfl rfl rfl rfl (by omega) (by omega) (by omega) rfl ?_))
  refine fin (x := .lit _) (.inr rfl) rfl (Sub.refl _) ⟨_, rfl, rfl⟩ ?_
  rw [List.map_append, List.map_take, List.map_drop]
  exact OSub.refl _
def fndB (l : List Cnt) (x : Cnt) : Bool := match l[plc l x]? with
  | some c => decide (keq c x)
  | none => false
theorem cSub (l : List Cnt) {k : Nat} (h : k < l.length) : (l.map cCnt)[k]? = some (cCnt l[k]) := map_get (List.getElem?_eq_getElem h)
theorem BinC_spec (l : List Cnt) (hs : Srt l) (hl : l.length ≤ 1000) (x : Cnt) (g : FuncId) (hg : ∀ c ∈ l, Pure Tryz.prog g [.agg (cCnt c), .agg (cCnt x)] (AI (cmp3 c x))) :
    Pure Tryz.prog 69 [cntsA l, .agg (cCnt x), .fn (.func g) [] []] (.tup [AI (plc l x), AB (fndB l x)]) := by
  have ll : (l.map cCnt).length = l.length := by simp
  have hple := plc_le l x
  refine a_enter Tryz.func69 (by kernel_rfl) rfl Tryz.ntmps69 rfl (by simp) ?_; refine a_seq ?_; refine a_reg ?_; (repeat (first | refine gZ pk ?_ | (show AL _ _ _ _ _ _ _; first | refine jB (fun u => ?_)))); refine a_frzBox 0 4 rfl rfl ?_
  repeat (first | refine gN pk ?_)
  rw [ll]
  refine a_loop2 (fun (i j : Nat) => [(0, cntsA l), (2, .fn (.func g) [] []), (4, .ip (cCnt x)), (8, AI l.length), (9, AI i), (10, AI j)]) (fun _ _ => []) (fun i j => i ≤ plc l x ∧ plc l x ≤ j ∧ j ≤ l.length) (fun i j => j - i) 0 l.length ⟨Nat.zero_le _, hple, Nat.le_refl _⟩ ?_ (OSub.refl _) ?_
  · exact subQ
  · rintro i j ⟨h1, h2, h3⟩
    rcases Nat.lt_or_ge i j with h | h
    · have hh : ((i : Int) + (j : Int)) / 2 = (((i + j) / 2 : Nat) : Int) := by omega
      obtain ⟨m, hm⟩ : ∃ m, (i + j) / 2 = m := ⟨_, rfl⟩
      rw [hm] at hh
      have hml : m < l.length := by omega
      have hx := List.getElem?_eq_getElem hml
      have hc := hg _ (List.getElem_mem hml)
      have hp1 : klt l[m] x → m < plc l x := fun hk => by
        rcases Nat.lt_or_ge m (plc l x) with h | h
        · exact h
        · exact absurd hk (plc_ge hs h hx)
      have hp2 : ¬ klt l[m] x → plc l x ≤ m := fun hk => by
        rcases Nat.lt_or_ge m (plc l x) with h | h
        · exact absurd (plc_lt h hx) hk
        · exact h
      have hz := cmp3_lt l[m] x
      generalize l[m] = c at *
      have xk : (l.map cCnt)[(m : Int).toNat]? = some (cCnt c) := map_get hx
      generalize cmp3 c x = z at *
      repeat (first | refine gN pk ?_ | (show AL _ _ _ _ _ _ _; first | refine s_conv tok rfl rfl rfl rfl rfl rfl rfl (IntWalk.u64_in _ (by omega)) ?_ | refine s_conv tok rfl rfl rfl rfl rfl rfl rfl (IntWalk.i64_in _ (by omega)) ?_ | refine s_shr1 rfl rfl rfl rfl rfl rfl (by omega) ?_))
      rw [hh]
      refine a_regP mixed (by decide +kernel) ?_
      by_cases hk : klt c x
      · have hz1 := hz.2 hk
        have hp := hp1 hk
        repeat (first | refine gY pk ?_ | (show AL _ _ _ _ _ _ _; first | refine jX tok xk ?_ | refine jP hc ?_))
        repeat (first | refine gA pk ?_)
        exact ⟨m + 1, j, ⟨by omega, by omega, by omega⟩, by omega, by exact subQ, OSub.refl _⟩
      · have hz1 : ¬ z < 0 := fun q => hk (hz.1 q)
        have hp := hp2 hk
        repeat (first | refine gY pk ?_ | (show AL _ _ _ _ _ _ _; first | refine jX tok xk ?_ | refine jP hc ?_))
        repeat (first | refine gA pk ?_)
        exact ⟨i, m, ⟨by omega, by omega, by omega⟩, by omega, by exact subQ, OSub.refl _⟩
    · obtain rfl : i = plc l x := by omega
      rcases Nat.lt_or_ge (plc l x) l.length with hlt | hge
      · have hx := List.getElem?_eq_getElem hlt
        have hc := hg _ (List.getElem_mem hlt)
        have hz := cmp3_eq l[plc l x] x
        have hf : fndB l x = decide (keq l[plc l x] x) := by unfold fndB; rw [hx]
        generalize l[plc l x] = c at *
        have xk : (l.map cCnt)[((plc l x : Nat) : Int).toNat]? = some (cCnt c) := map_get hx
        generalize cmp3 c x = z at *
        generalize plc l x = pp at *
        rw [hf]
        by_cases hk : keq c x
        · have hz1 := hz.2 hk
          rw [decide_eq_true hk]
          repeat (first | refine gA pk ?_ | (show AL _ _ _ _ _ _ _; first | refine jX tok xk ?_ | refine jP hc ?_))
          refine finQ ?_
          exact ⟨rfl, rfl⟩
        · have hz1 : ¬ z = 0 := fun q => hk (hz.1 q)
          rw [decide_eq_false hk]
          repeat (first | refine gA pk ?_ | (show AL _ _ _ _ _ _ _; first | refine jX tok xk ?_ | refine jP hc ?_))
          refine finQ ?_
          exact ⟨rfl, rfl⟩
      · have hf : fndB l x = false := by unfold fndB; rw [List.getElem?_eq_none hge]
        generalize plc l x = pp at *
        rw [hf]
        repeat (first | refine gA pk ?_)
        refine finQ ?_
        exact ⟨rfl, rfl⟩
theorem se_cnt : SE Tryz.prog 75 4 := se_of Tryz.underlying75 (by kernel_rfl) (by kernel_rfl) rfl (by kernel_rfl)
abbrev toIC (c : Cnt) : List Int := [c.ty, c.fr, c.to, c.nu]
theorem toIC_eq {a b : Cnt} : toIC a = toIC b ↔ a = b := by
  cases a; cases b; simp
theorem take_eq1 {A : Type} {xs ys : List A} {k : Nat} {a b : A} (hx : xs[k]? = some a) (hy : ys[k]? = some b) (h : xs.take k = ys.take k) (e : a = b) : xs.take (k + 1) = ys.take (k + 1) := by
  obtain ⟨h1, rfl⟩ := List.getElem?_eq_some_iff.1 hx
  obtain ⟨h2, rfl⟩ := List.getElem?_eq_some_iff.1 hy
  rw [List.take_succ_eq_append_getElem h1, List.take_succ_eq_append_getElem h2, h, e]
theorem EqualC_spec (xs ys : List Cnt) (hx : xs.length ≤ 140737488355328) (hy : ys.length ≤ 140737488355328) : Pure Tryz.prog 54 [cntsA xs, cntsA ys] (AB (decide (xs = ys))) := by
  have lx : (xs.map cCnt).length = xs.length := by simp
  have ly : (ys.map cCnt).length = ys.length := by simp
  by_cases hl : xs.length = ys.length
  · refine a_enter Tryz.func54 (by kernel_rfl) rfl Tryz.ntmps54 rfl (by simp) ?_
    repeat (first | refine gA pk ?_)
    rw [lx]
    refine a_loopX (fun k : Nat => [(0, cntsA xs), (1, cntsA ys), (12, AI xs.length), (13, AI k)]) (fun _ => []) (fun k => k ≤ xs.length ∧ xs.take k = ys.take k) (fun k => xs.length - k) 0 ⟨Nat.zero_le _, rfl⟩ ?_ (OSub.refl _) ?_
    · exact subQ
    · rintro k ⟨hk, he⟩
      rcases Nat.lt_or_ge k xs.length with h | h
      · have h1 := List.getElem?_eq_getElem h
        have h2 := List.getElem?_eq_getElem (l := ys) (i := k) (by omega)
        generalize xs[k] = a at h1
        generalize ys[k] = b at h2
        have x1 : (xs.map cCnt)[(k : Int).toNat]? = some (cCnt a) := map_get h1
        have x2 : (ys.map cCnt)[(k : Int).toNat]? = some (cCnt b) := map_get h2
        by_cases hab : a = b
        · have ht := take_eq1 h1 h2 he hab
          repeat (first | refine gA pk ?_ | (show AL _ _ _ _ _ _ _; first | refine jX tok x1 ?_ | refine jX tok x2 ?_ | refine s_sne (b := false) (xs := toIC a) (ys := toIC b) se_cnt rfl rfl rfl rfl rfl rfl rfl rfl (by rw [decide_eq_true (toIC_eq.2 hab)]; rfl) ?_))
          exact ⟨k + 1, ⟨by omega, ht⟩, by omega, by exact subQ, OSub.refl _⟩
        · have hne : xs ≠ ys := fun e => by rw [e, h2] at h1; cases h1; exact hab rfl
          rw [decide_eq_false hne]
          repeat (first | refine gA pk ?_ | (show AL _ _ _ _ _ _ _; first | refine jX tok x1 ?_ | refine jX tok x2 ?_ | refine s_sne (b := true) (xs := toIC a) (ys := toIC b) se_cnt rfl rfl rfl rfl rfl rfl rfl rfl (by rw [decide_eq_false (fun q => hab (toIC_eq.1 q))]; rfl) ?_))
          refine finQ ?_
          exact ⟨rfl, rfl⟩
      · have : xs = ys := by
          have e1 : xs.take k = xs := List.take_of_length_le (by omega)
          have e2 : ys.take k = ys := List.take_of_length_le (by omega)
          rw [← e1, ← e2, he]
        rw [decide_eq_true this]
        repeat (first | refine gA pk ?_)
        refine finQ ?_
        exact ⟨rfl, rfl⟩
  · rw [decide_eq_false (fun e => hl (by rw [e]))]
    refine a_enter Tryz.func54 (by kernel_rfl) rfl Tryz.ntmps54 rfl (by simp) ?_
    repeat (first | refine gA pk ?_)
    refine finQ ?_
    exact ⟨rfl, rfl⟩
end Go.Proofs.YtcacbdohlfljfaaGreat
