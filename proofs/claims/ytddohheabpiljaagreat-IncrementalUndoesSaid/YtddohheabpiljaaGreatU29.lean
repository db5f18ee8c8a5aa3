/- Parts of a proof. -/
import Derived.Test.YtddohheabpiljaaGreatU28
set_option linter.unusedVariables false
set_option linter.unusedSimpArgs false
section
namespace Go.Proofs.YtddohheabpiljaaGreat
open Go.Sj Go.Sj.Typ Go.Sj.Sta Go.Sj.Inc
set_option maxRecDepth 8000
set_option maxHeartbeats 16000000
def MoB (m : Mo) : Prop := m.1.length ≤ 1000000 ∧ m.2.length ≤ 1000000
theorem take_nextE {A : Type} {a b : List A} {k : Nat} {x : A} (h1 : a[k]? = some x) (h2 : b[k]? = some x) (he : a.take k = b.take k) : a.take (k + 1) = b.take (k + 1) := by
  rw [List.take_add_one, List.take_add_one, h1, h2, he]
theorem gSameAll_spec (a b : List Mo) (ha : ∀ m ∈ a, MoB m) (hb : ∀ m ∈ b, MoB m) (hla : a.length ≤ 1000000) (hlb : b.length ≤ 1000000) : Pure Tryz.prog 47 [mosA a, mosA b] (AB (decide (a = b))) := by
  have la : (a.map cMo).length = a.length := by simp
  have lb : (b.map cMo).length = b.length := by simp
  by_cases hl : a.length = b.length
  · refine zen Tryz.func47 (by kernel_rfl) rfl Tryz.ntmps47 rfl (by simp) ?_
    repeat (first | refine gA pk ?_)
    refine zlx (fun k : Nat => [(0, mosA a), (1, mosA b), (5, AI k)]) (fun _ => []) (fun k => k ≤ a.length ∧ a.take k = b.take k) (fun k => a.length - k) 0 ⟨Nat.zero_le _, rfl⟩ ?_ (OSub.none _) ?_
    · exact subQ
    · rintro k ⟨hk, he⟩
      rcases Nat.lt_or_ge k a.length with h | h
      · have h1 := List.getElem?_eq_getElem h
        have h2 := List.getElem?_eq_getElem (l := b) (i := k) (by omega)
        have b1 := ha _ (List.getElem_mem h)
        have b2 := hb _ (List.getElem_mem (l := b) (n := k) (by omega))
        generalize a[k] = x at h1 b1
        generalize b[k]'(by omega) = y at h2 b2
        have x1 : (a.map cMo)[(k : Int).toNat]? = some (cMo x) := zmp (f := cMo) h1
        have x2 : (b.map cMo)[(k : Int).toNat]? = some (cMo y) := zmp (f := cMo) h2
        have s1 := gSameInts_spec x.1 y.1 b1.1 b2.1
        have s2 := gSameInts_spec x.2 y.2 b1.2 b2.2
        have hne : x ≠ y → decide (a = b) = false := fun hxy => decide_eq_false (fun e => by rw [e, h2] at h1; cases h1; exact hxy rfl)
        obtain ⟨xa, xb⟩ := x
        obtain ⟨ya, yb⟩ := y
        simp only at s1 s2
        by_cases e1 : xa = ya
        · rw [decide_eq_true e1] at s1
          by_cases e2 : xb = yb
          · rw [decide_eq_true e2] at s2
            subst e1; subst e2
            have ht := take_nextE h1 h2 he
            repeat (first | refine gN pk ?_)
            refine zrg ((List.range 26).map fun i => if inL [10, 23] i = true then .eff else if inL [2, 4, 7, 9, 15, 17, 20, 22] i = true then .read else .pure) [] [0, 1, 2, 3, 4, 5, 6, 7, 8, 9, 10, 11, 12, 13, 14, 15, 16, 17, 18, 19, 20, 21, 22, 23, 24, 25] .stop mixed rfl rfl (by decide +kernel) ?_
            repeat' (first | (with_reducible show AG _ _ _ _ _ _ _ _ _ _; first | exact zgn | refine zgs ?_ | refine znd ?_ ?_) | (show AMid _ _ _ _; first | refine zmf ?_ | refine zmg (by first | exact OSub.refl _ | exact .drop (OSub.refl _) | exact .drop (.drop (OSub.refl _))) ?_) | refine gY pk ?_ | (show AL _ _ _ _ _ _ _; first | refine jX tok x1 ?_ | refine jX tok x2 ?_ | refine jP s1 ?_ | refine jP s2 ?_) | fail)
            repeat (first | refine gA pk ?_)
            exact ⟨k + 1, ⟨by omega, ht⟩, by omega, by exact subQ, OSub.none _⟩
          · rw [decide_eq_false e2] at s2
            rw [hne (fun e => e2 (by cases e; rfl))]
            repeat (first | refine gN pk ?_)
            refine zrg ((List.range 26).map fun i => if inL [10, 23] i = true then .eff else if inL [2, 4, 7, 9, 15, 17, 20, 22] i = true then .read else .pure) [] [0, 1, 2, 3, 4, 5, 6, 7, 8, 9, 10, 11, 12, 13, 14, 15, 16, 17, 18, 19, 20, 21, 22, 23, 24, 25] .stop mixed rfl rfl (by decide +kernel) ?_
            repeat' (first | (with_reducible show AG _ _ _ _ _ _ _ _ _ _; first | exact zgn | refine zgs ?_ | refine znd ?_ ?_) | (show AMid _ _ _ _; first | refine zmf ?_ | refine zmg (by first | exact OSub.refl _ | exact .drop (OSub.refl _) | exact .drop (.drop (OSub.refl _))) ?_) | refine gY pk ?_ | (show AL _ _ _ _ _ _ _; first | refine jX tok x1 ?_ | refine jX tok x2 ?_ | refine jP s1 ?_ | refine jP s2 ?_) | fail)
            repeat (first | refine gA pk ?_)
            refine finQ ?_
            exact ⟨rfl, rfl⟩
        · rw [decide_eq_false e1] at s1
          rw [hne (fun e => e1 (by cases e; rfl))]
          repeat (first | refine gN pk ?_)
          refine zrg ((List.range 26).map fun i => if inL [10, 23] i = true then .eff else if inL [2, 4, 7, 9, 15, 17, 20, 22] i = true then .read else .pure) [] [0, 1, 2, 3, 4, 5, 6, 7, 8, 9, 10, 11, 12, 13, 14, 15, 16, 17, 18, 19, 20, 21, 22, 23, 24, 25] .stop mixed rfl rfl (by decide +kernel) ?_
          repeat' (first | (with_reducible show AG _ _ _ _ _ _ _ _ _ _; first | exact zgn | refine zgs ?_ | refine znd ?_ ?_) | (show AMid _ _ _ _; first | refine zmf ?_ | refine zmg (by first | exact OSub.refl _ | exact .drop (OSub.refl _) | exact .drop (.drop (OSub.refl _))) ?_) | refine gY pk ?_ | (show AL _ _ _ _ _ _ _; first | refine jX tok x1 ?_ | refine jX tok x2 ?_ | refine jP s1 ?_) | fail)
          repeat (first | refine gA pk ?_)
          refine finQ ?_
          exact ⟨rfl, rfl⟩
      · have : a = b := by
          have e1 : a.take k = a := List.take_of_length_le (by omega)
          have e2 : b.take k = b := List.take_of_length_le (by omega)
          rw [← e1, ← e2, he]
        rw [decide_eq_true this]
        repeat (first | refine gA pk ?_)
        refine finQ ?_
        exact ⟨rfl, rfl⟩
  · rw [decide_eq_false (fun e => hl (by rw [e]))]
    refine zen Tryz.func47 (by kernel_rfl) rfl Tryz.ntmps47 rfl (by simp) ?_
    repeat (first | refine gA pk ?_)
    refine finQ ?_
    exact ⟨rfl, rfl⟩
theorem gSameMats_spec (a b : List (List Mo)) (ha : ∀ l ∈ a, l.length ≤ 1000000 ∧ ∀ m ∈ l, MoB m) (hb : ∀ l ∈ b, l.length ≤ 1000000 ∧ ∀ m ∈ l, MoB m) (hla : a.length ≤ 1000000) (hlb : b.length ≤ 1000000) : Pure Tryz.prog 38 [mssA a, mssA b] (AB (decide (a = b))) := by
  have la : (a.map cMos).length = a.length := by simp
  have lb : (b.map cMos).length = b.length := by simp
  by_cases hl : a.length = b.length
  · refine zen Tryz.func38 (by kernel_rfl) rfl Tryz.ntmps38 rfl (by simp) ?_
    repeat (first | refine gA pk ?_)
    refine zlx (fun k : Nat => [(0, mssA a), (1, mssA b), (5, AI k)]) (fun _ => []) (fun k => k ≤ a.length ∧ a.take k = b.take k) (fun k => a.length - k) 0 ⟨Nat.zero_le _, rfl⟩ ?_ (OSub.none _) ?_
    · exact subQ
    · rintro k ⟨hk, he⟩
      rcases Nat.lt_or_ge k a.length with h | h
      · have h1 := List.getElem?_eq_getElem h
        have h2 := List.getElem?_eq_getElem (l := b) (i := k) (by omega)
        have b1 := ha _ (List.getElem_mem h)
        have b2 := hb _ (List.getElem_mem (l := b) (n := k) (by omega))
        generalize a[k] = x at h1 b1
        generalize b[k]'(by omega) = y at h2 b2
        have x1 : (a.map cMos)[(k : Int).toNat]? = some (cMos x) := zmp (f := cMos) h1
        have x2 : (b.map cMos)[(k : Int).toNat]? = some (cMos y) := zmp (f := cMos) h2
        have s1 := gSameAll_spec x y b1.2 b2.2 b1.1 b2.1
        by_cases e1 : x = y
        · rw [decide_eq_true e1] at s1
          subst e1
          have ht := take_nextE h1 h2 he
          repeat (first | refine gN pk ?_)
          refine zrg ((List.range 10).map fun i => if inL [8] i = true then .eff else if inL [2, 3, 6, 7] i = true then .read else .pure) [] [0, 1, 2, 3, 4, 5, 6, 7, 8, 9] .stop mixed rfl rfl (by decide +kernel) ?_
          repeat' (first | (with_reducible show AG _ _ _ _ _ _ _ _ _ _; first | exact zgn | refine zgs ?_ | refine znd ?_ ?_) | (show AMid _ _ _ _; first | refine zmf ?_ | refine zmg (by first | exact OSub.refl _ | exact .drop (OSub.refl _) | exact .drop (.drop (OSub.refl _))) ?_) | refine gY pk ?_ | (show AL _ _ _ _ _ _ _; first | refine jX tok x1 ?_ | refine jX tok x2 ?_ | refine jP s1 ?_) | fail)
          repeat (first | refine gA pk ?_)
          exact ⟨k + 1, ⟨by omega, ht⟩, by omega, by exact subQ, OSub.none _⟩
        · rw [decide_eq_false e1] at s1
          rw [decide_eq_false (fun e => by rw [e, h2] at h1; cases h1; exact e1 rfl)]
          repeat (first | refine gN pk ?_)
          refine zrg ((List.range 10).map fun i => if inL [8] i = true then .eff else if inL [2, 3, 6, 7] i = true then .read else .pure) [] [0, 1, 2, 3, 4, 5, 6, 7, 8, 9] .stop mixed rfl rfl (by decide +kernel) ?_
          repeat' (first | (with_reducible show AG _ _ _ _ _ _ _ _ _ _; first | exact zgn | refine zgs ?_ | refine znd ?_ ?_) | (show AMid _ _ _ _; first | refine zmf ?_ | refine zmg (by first | exact OSub.refl _ | exact .drop (OSub.refl _) | exact .drop (.drop (OSub.refl _))) ?_) | refine gY pk ?_ | (show AL _ _ _ _ _ _ _; first | refine jX tok x1 ?_ | refine jX tok x2 ?_ | refine jP s1 ?_) | fail)
          repeat (first | refine gA pk ?_)
          refine finQ ?_
          exact ⟨rfl, rfl⟩
      · have : a = b := by
          have e1 : a.take k = a := List.take_of_length_le (by omega)
          have e2 : b.take k = b := List.take_of_length_le (by omega)
          rw [← e1, ← e2, he]
        rw [decide_eq_true this]
        repeat (first | refine gA pk ?_)
        refine finQ ?_
        exact ⟨rfl, rfl⟩
  · rw [decide_eq_false (fun e => hl (by rw [e]))]
    refine zen Tryz.func38 (by kernel_rfl) rfl Tryz.ntmps38 rfl (by simp) ?_
    repeat (first | refine gA pk ?_)
    refine finQ ?_
    exact ⟨rfl, rfl⟩
theorem gSameW_spec (w : Wat) (hm : ∀ l ∈ w.ms, l.length ≤ 1000000 ∧ ∀ m ∈ l, MoB m) (hml : w.ms.length ≤ 1000000) (hp : ∀ p ∈ w.ps, p.nodes.length ≤ 1000000 ∧ p.edges.length ≤ 1000000) (hpl : w.ps.length ≤ 1000000) (hg : w.g.nodes.length ≤ 1000000 ∧ w.g.edges.length ≤ 1000000) : Pure Tryz.prog 14 [watA w, watA w] (AB true) := by
  have s1 := gSame_spec w.g w.g hg hg
  have s2 := gSameMats_spec w.ms w.ms hm hm hml hml
  have sp := fun (p : Gr) (h : p ∈ w.ps) => gSame_spec p p (hp p h) (hp p h)
  rw [gSame_self] at s1
  rw [decide_eq_true rfl] at s2
  obtain ⟨ps, g, inj, ms⟩ := w
  simp only at *
  have lp : (ps.map cGr).length = ps.length := by simp
  obtain ⟨gn, ge⟩ := g
  change Pure _ _ [.agg [ints gn, edsA ge], .agg [ints gn, edsA ge]] _ at s1
  change Pure _ _ [.agg [grsA ps, ints gn, edsA ge, AB inj, mssA ms], .agg [grsA ps, ints gn, edsA ge, AB inj, mssA ms]] _
  cases inj with
  | false =>
    refine zen Tryz.func14 (by kernel_rfl) rfl Tryz.ntmps14 rfl (by simp) ?_
    refine a_seq ?_
    refine a_reg ?_
    repeat (first | refine gZ pk ?_ | (show AL _ _ _ _ _ _ _; first | refine jB (fun u => ?_)))
    refine zfb 1 2 rfl rfl ?_
    refine zfb 0 3 rfl rfl ?_
    repeat (first | refine gA pk ?_ | (show AL _ _ _ _ _ _ _; first | refine jP s1 ?_ | refine jP s2 ?_ | refine s_boolNe tok (a := false) (b := false) rfl rfl rfl rfl rfl rfl rfl ?_))
    refine zlx (fun k : Nat => [(2, .ip [grsA ps, ints gn, edsA ge, AB false, mssA ms]), (3, .ip [grsA ps, ints gn, edsA ge, AB false, mssA ms]), (5, AI k)]) (fun _ => []) (fun k => k ≤ ps.length) (fun k => ps.length - k) 0 (Nat.zero_le _) ?_ (OSub.none _) ?_
    · exact subQ
    · intro k hk
      rcases Nat.lt_or_ge k ps.length with h | h
      · have h1 := List.getElem?_eq_getElem h
        have s3 := sp _ (List.getElem_mem h)
        generalize ps[k] = p at h1 s3
        have xk : (ps.map cGr)[(k : Int).toNat]? = some (cGr p) := zmp (f := cGr) h1
        rw [gSame_self] at s3
        obtain ⟨pn, pe⟩ := p
        change Pure _ _ [.agg [ints pn, edsA pe], .agg [ints pn, edsA pe]] _ at s3
        repeat (first | refine gN pk ?_)
        refine zrg ((List.range 12).map fun i => if inL [10] i = true then .eff else if inL [1, 3, 4, 6, 8, 9] i = true then .read else .pure) [] [0, 1, 2, 3, 4, 5, 6, 7, 8, 9, 10, 11] .stop mixed rfl rfl (by decide +kernel) ?_
        repeat' (first | (with_reducible show AG _ _ _ _ _ _ _ _ _ _; first | exact zgn | refine zgs ?_ | refine znd ?_ ?_) | (show AMid _ _ _ _; first | refine zmf ?_ | refine zmg (by first | exact OSub.refl _ | exact .drop (OSub.refl _) | exact .drop (.drop (OSub.refl _))) ?_) | refine gY pk ?_ | (show AL _ _ _ _ _ _ _; first | refine jX tok xk ?_ | refine jP s3 ?_) | fail)
        repeat (first | refine gA pk ?_)
        exact ⟨k + 1, by omega, by omega, by exact subQ, OSub.none _⟩
      · repeat (first | refine gA pk ?_)
        refine finQ ?_
        exact ⟨rfl, rfl⟩
  | true =>
    refine zen Tryz.func14 (by kernel_rfl) rfl Tryz.ntmps14 rfl (by simp) ?_
    refine a_seq ?_
    refine a_reg ?_
    repeat (first | refine gZ pk ?_ | (show AL _ _ _ _ _ _ _; first | refine jB (fun u => ?_)))
    refine zfb 1 2 rfl rfl ?_
    refine zfb 0 3 rfl rfl ?_
    repeat (first | refine gA pk ?_ | (show AL _ _ _ _ _ _ _; first | refine jP s1 ?_ | refine jP s2 ?_ | refine s_boolNe tok (a := true) (b := true) rfl rfl rfl rfl rfl rfl rfl ?_))
    refine zlx (fun k : Nat => [(2, .ip [grsA ps, ints gn, edsA ge, AB true, mssA ms]), (3, .ip [grsA ps, ints gn, edsA ge, AB true, mssA ms]), (5, AI k)]) (fun _ => []) (fun k => k ≤ ps.length) (fun k => ps.length - k) 0 (Nat.zero_le _) ?_ (OSub.none _) ?_
    · exact subQ
    · intro k hk
      rcases Nat.lt_or_ge k ps.length with h | h
      · have h1 := List.getElem?_eq_getElem h
        have s3 := sp _ (List.getElem_mem h)
        generalize ps[k] = p at h1 s3
        have xk : (ps.map cGr)[(k : Int).toNat]? = some (cGr p) := zmp (f := cGr) h1
        rw [gSame_self] at s3
        obtain ⟨pn, pe⟩ := p
        change Pure _ _ [.agg [ints pn, edsA pe], .agg [ints pn, edsA pe]] _ at s3
        repeat (first | refine gN pk ?_)
        refine zrg ((List.range 12).map fun i => if inL [10] i = true then .eff else if inL [1, 3, 4, 6, 8, 9] i = true then .read else .pure) [] [0, 1, 2, 3, 4, 5, 6, 7, 8, 9, 10, 11] .stop mixed rfl rfl (by decide +kernel) ?_
        repeat' (first | (with_reducible show AG _ _ _ _ _ _ _ _ _ _; first | exact zgn | refine zgs ?_ | refine znd ?_ ?_) | (show AMid _ _ _ _; first | refine zmf ?_ | refine zmg (by first | exact OSub.refl _ | exact .drop (OSub.refl _) | exact .drop (.drop (OSub.refl _))) ?_) | refine gY pk ?_ | (show AL _ _ _ _ _ _ _; first | refine jX tok xk ?_ | refine jP s3 ?_) | fail)
        repeat (first | refine gA pk ?_)
        exact ⟨k + 1, by omega, by omega, by exact subQ, OSub.none _⟩
      · repeat (first | refine gA pk ?_)
        refine finQ ?_
        exact ⟨rfl, rfl⟩
theorem gnew_spec (t : Tys) (ht : Small t) (ps : List Gr) (g : Gr) (inj : Bool) (hps : ∀ p ∈ ps, OkG p) (hl : ps.length ≤ 140737488355328) (hg : OkG g) :
    Pure Tryz.prog 13 [tysA t, grsA ps, grA g, AB inj] (.tup [watA (newR t ps g inj).1, AI (newR t ps g inj).2]) := by
  have s1 := gmats_spec t ht ps g inj hps hl hg
  have lps : (ps.map cGr).length = ps.length := by simp
  unfold newR
  unfold matsR at s1
  by_cases he : matsE t ps g inj = 0
  · rw [if_neg (Decidable.not_not.2 he)] at s1 ⊢
    obtain ⟨hG, h5, hall⟩ := matsE_zero he
    have hgn := hG.nl
    have hge := hG.el
    have sp : ∀ p ∈ ps, Pure Tryz.prog 29 [grA p] (grA p) := fun p hp => by
      have := (zvz (allR_zero (hall p hp))).2.1
      have h1 := this.nl
      have h2 := this.el
      exact gCopied_spec p (by omega) (by omega)
    have s3 := gCopied_spec g (by omega) (by omega)
    generalize matsL t ps g inj = L at *
    obtain ⟨gn, ge⟩ := g
    change Pure _ _ [.agg [ints gn, edsA ge]] (.agg [ints gn, edsA ge]) at s3
    refine a_enterM (rs := [.cell 8 37, .tmp 9]) tok Tryz.func13 (by kernel_rfl) rfl Tryz.ntmps13 rfl (by decide) (by simp) ?_
    refine a_seq ?_
    refine a_reg ?_
    repeat (first | refine gZ pk ?_ | (show AL _ _ _ _ _ _ _; first | refine jB (fun u => ?_) | refine jL tok (fun U8 => ?_)))
    refine zfb 2 4 rfl rfl ?_
    refine zfb 1 6 rfl rfl ?_
    repeat (first | refine gA pk ?_ | (show AL _ _ _ _ _ _ _; first | refine jP s1 ?_ | refine jP s3 ?_ | refine jL tok (fun bw => ?_) | refine jS tok 0 ?_))
    refine a_loopG2 (fun (i : Nat) (vo : Value) => [(1, grsA ps), (8, .pt U8 0 0 0), (12, .pt bw 0 0 0), (13, AI i)]) (fun i vo => [(bw, OB.box [.lit vo, ints gn, edsA ge, AB inj, mssA L]), (vo, .row 30 2 ((ps.take i).map cGr)), (U8, OB.box [nilS, nilS, nilS, AB false, nilS])]) (fun i _ => i ≤ ps.length) (fun i _ => ps.length - i) 0 (.slice none 0 0) (Nat.zero_le _) (.sub (by exact subQ) (.keep (.free (OSub.refl _)))) ?_
    intro i vo hi
    have hlp : ((ps.take i).map cGr).length = i := by rw [List.length_map, List.length_take]; omega
    rcases Nat.lt_or_ge i ps.length with h | h
    · have hp := List.getElem?_eq_getElem h
      have s4 := sp _ (List.getElem_mem h)
      generalize ps[i] = p at hp s4
      have xk : (ps.map cGr)[(i : Int).toNat]? = some (cGr p) := zmp (f := cGr) hp
      have hset : (ps.take (i + 1)).map cGr = (ps.take i).map cGr ++ [cGr p] := by rw [List.take_add_one, hp]; simp
      obtain ⟨pn, pe⟩ := p
      change Pure _ _ [.agg [ints pn, edsA pe]] (.agg [ints pn, edsA pe]) at s4
      repeat (first | refine gN pk ?_)
      refine zrg ((List.range 11).map fun i => if inL [6, 7, 8, 10] i = true then .eff else if inL [1, 4, 5] i = true then .read else .pure) [6, 7] [0, 1, 2, 3, 4, 5] (.nd 6 [] (.nd 7 [8, 9, 10] .stop .stop) .stop) mixed rfl rfl (by decide +kernel) ?_
      repeat' (first | (with_reducible show AG _ _ _ _ _ _ _ _ _ _; first | exact zgn | refine zgs ?_ | refine znd ?_ ?_) | (show AMid _ _ _ _; first | refine zmf ?_ | refine zmg (by first | exact OSub.refl _ | exact .drop (OSub.refl _) | exact .drop (.drop (OSub.refl _))) ?_) | refine gY pk ?_ | (show AL _ _ _ _ _ _ _; first | refine jX tok xk ?_ | refine jO tok 0 ?_ | refine jP s4 ?_ | refine zba tok rfl rfl rfl rfl rfl rfl rfl rfl (by decide) (fun lv => ?_) | refine zak tok 1 rfl rfl rfl rfl rfl rfl (by decide) rfl rfl rfl rfl (by omega) (by omega) (fun w hw => ?_) | refine zsb tok 0 rfl rfl rfl rfl rfl rfl rfl (by assumption) rfl (Nat.le_of_ble_eq_true rfl) rfl ?_) | fail)
      repeat (first | refine gA pk ?_)
      exact ⟨i + 1, w, by omega, by omega, .sub (by exact subQ) (by rw [hset]; exact OSub.refl _)⟩
    · obtain rfl : i = ps.length := by omega
      rw [List.take_length]
      have hr2 : ∀ x ∈ ps.map cGr, x.length = 2 := fun x hx => by
        obtain ⟨y, _, rfl⟩ := List.mem_map.1 hx
        rfl
      refine zgt (GoTo.freeze 1 rfl (FZS.refl _) [(bw, OB.box [grsA ps, ints gn, edsA ge, AB inj, mssA L]), (U8, OB.box [nilS, nilS, nilS, AB false, nilS])] (zfo ⟨FZ.here, FZ.refl _, FZ.refl _, FZ.refl _, FZ.refl _, trivial⟩ (zfo (FZL.refl _) trivial))) ?_
      refine zfb 0 12 rfl rfl ?_
      repeat (first | refine gV pk ?_ | (show AL _ _ _ _ _ _ _; first | refine jS tok 0 ?_))
      refine zfb 0 8 rfl rfl ?_
      refine a_ret ?_
      exact ⟨.inr rfl, _, _, [], rfl, Turn.of (Sub.refl _) (OSub.none _), rfl, rfl⟩
  · rw [if_pos he] at s1 ⊢
    generalize matsE t ps g inj = e at *
    refine a_enterM (rs := [.cell 8 37, .tmp 9]) tok Tryz.func13 (by kernel_rfl) rfl Tryz.ntmps13 rfl (by decide) (by simp) ?_
    refine a_seq ?_
    refine a_reg ?_
    repeat (first | refine gZ pk ?_ | (show AL _ _ _ _ _ _ _; first | refine jB (fun u => ?_) | refine jL tok (fun U8 => ?_)))
    refine zfb 2 4 rfl rfl ?_
    refine zfb 1 6 rfl rfl ?_
    repeat (first | refine gV pk ?_ | (show AL _ _ _ _ _ _ _; first | refine jP s1 ?_ | refine jS tok 0 ?_))
    refine zfb 0 8 rfl rfl ?_
    refine a_ret ?_
    exact ⟨.inr rfl, _, _, [], rfl, Turn.of (Sub.tup (l := [.agg [nilS, nilS, nilS, AB false, nilS], AI e]) (m := [watA ⟨[], ⟨[], []⟩, false, []⟩, AI e]) ⟨Sub.agg (m := [grsA [], ints [], edsA [], AB false, mssA []]) ⟨Sub.nil 2, Sub.nil 1, Sub.nil 3, Sub.refl _, Sub.nil 1, trivial⟩, Sub.refl _, trivial⟩) (OSub.none _), rfl, rfl⟩
end Go.Proofs.YtddohheabpiljaaGreat
end
