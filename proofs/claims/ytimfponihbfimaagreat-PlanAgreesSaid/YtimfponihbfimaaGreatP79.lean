/- Parts of a proof. -/
import Derived.Handy
import Derived.Lib.AppendZerosOnto
import Derived.Lib.Overlaps
import Derived.Laws.Runes
import Derived.Laws.Externs
import Derived.Laws.Cover3
import Derived.WalkKit
import Derived.WalkSpells
import Derived.WalkLawsBesides
import Derived.Deep.Draws
import Derived.Orders
import Derived.Still
import Derived.Sort.AssemblyPlain
import Derived.Laws.Bits64
import Derived.Laws.Bits64b
import Derived.ProofKit
import Derived.WideKeyArgs
import Derived.OpenShut
import Derived.SizedLaws
import Derived.Test.YtimfponihbfimaaGreatP42
import Derived.Test.YtimfponihbfimaaGreatP78
set_option linter.unusedVariables false
set_option linter.unusedSimpArgs false
section
namespace Go.Proofs.YtimfponihbfimaaGreat
open Go.Sj Go.Sj.Typ Go.Sj.Sta
set_option maxRecDepth 8000
set_option maxHeartbeats 8000000
abbrev SN0 : AV := .lit (.slice none 0 0)
theorem nil_cnts : Sub SN0 (cntsA []) := Sub.nil 4
theorem smN_sm {c : Cnt} (h : smN c) : smC c := by unfold smN at h; unfold smC; omega
theorem refOf_spec (t : Tys) (ht : Small t) (g : Gr) (hg : OkG g) : Pure Tryz.prog 30 [tysA t, grA g] (.tup [staA (ofR t g).1, AI (ofR t g).2]) := by
  have ln : (rowI g.nodes).length = g.nodes.length := by simp
  have le : (g.edges.map cEd).length = g.edges.length := by simp
  have s1 := refTyped_spec t ht g hg
  unfold ofR
  by_cases he : typedE t g = 0
  · have hT := typedE_zero.1 he
    have hG := hT.graph
    have hg1 := hG.nl
    have hg2 := hG.el
    rw [he] at s1
    rw [if_neg (Decidable.not_not.2 he)]
    refine a_enterM (rs := [.cell 4 64, .tmp 5]) tok Tryz.func30 (by kernel_rfl) rfl Tryz.ntmps30 rfl (by decide) (by simp) ?_
    refine a_seq ?_
    refine a_reg ?_
    repeat (first | refine gZ pk ?_ | (show AL _ _ _ _ _ _ _; first | refine jB (fun u => ?_) | refine jL tok (fun u4 => ?_)))
    refine zfb 1 3 rfl rfl ?_
    refine zfb 1 2 rfl rfl ?_
    repeat (first | refine gA pk ?_ | (show AL _ _ _ _ _ _ _; first | refine jP s1 ?_ | refine jL tok (fun u7 => ?_)))
    refine a_loopG (fun k : Nat => [(3, grP g), (4, .pt u4 0 0 0), (7, .pt u7 0 0 0), (8, AI k)]) (fun k => [(u7, .box [cntsA (ofN g (g.nodes.take k)), SN0]), (u4, .box [SN0, SN0])]) (fun k => k ≤ g.nodes.length) (fun k => g.nodes.length - k) 0 (Nat.zero_le _) (GoTo.weak (by exact subQ) ⟨rfl, ⟨nil_cnts, Sub.refl _, trivial⟩, rfl, ⟨Sub.refl _, Sub.refl _, trivial⟩, trivial⟩) ?_
    intro k hk
    rcases Nat.lt_or_ge k g.nodes.length with h | h
    · have hx := List.getElem?_eq_getElem h
      generalize g.nodes[k] = y at hx
      have xk : (rowI g.nodes)[(k : Int).toNat]? = some [AI y] := zmp (f := cI) hx
      have hlen : (ofN g (g.nodes.take k)).length ≤ 40 := by have := ofN_len g (g.nodes.take k); rw [List.length_take] at this; omega
      have hm := ofN_small g (l := g.nodes.take k) (fun n hn => hG.nodes n (List.mem_of_mem_take hn)) (by rw [List.length_take]; omega)
      have hsn := ofN_snoc g hx
      have s2 := refchange_spec (ofN g (g.nodes.take k)) (ofN_srt g _) (by omega) (fun c hc => ⟨smN_sm (hm c hc).1, (hm c hc).2⟩) y 0 0 0 1 (by have := hG.nodes _ (List.mem_of_getElem? hx); unfold smC; simp only; omega) (.inl rfl)
      repeat (first | refine gN pk ?_)
      refine a_regRO [0, 1, 2, 3, 4, 5, 6, 7, 8, 9, 10] mixed rfl rfl (by decide +kernel) ?_
      repeat (first | refine gY pk ?_ | (show AL _ _ _ _ _ _ _; first | refine jX tok xk ?_ | refine jO tok 0 ?_ | refine jP s2 ?_ | refine jS tok 0 ?_))
      repeat (first | refine gA pk ?_)
      refine ⟨k + 1, by omega, by omega, GoTo.sub (by exact subQ) ?_⟩
      rw [hsn]
      exact OSub.refl _
    · obtain rfl : k = g.nodes.length := by omega
      rw [List.take_length]
      repeat (first | refine gA pk ?_)
      refine a_loopG (fun k : Nat => [(3, grP g), (4, .pt u4 0 0 0), (7, .pt u7 0 0 0), (9, AI k)]) (fun k => [(u7, .box [cntsA (ofN g g.nodes), cntsA (ofE g (g.edges.take k))]), (u4, .box [SN0, SN0])]) (fun k => k ≤ g.edges.length) (fun k => g.edges.length - k) 0 (Nat.zero_le _) (GoTo.weak (by exact subQ) ⟨rfl, ⟨Sub.refl _, nil_cnts, trivial⟩, rfl, ⟨Sub.refl _, Sub.refl _, trivial⟩, trivial⟩) ?_
      intro k hk
      rcases Nat.lt_or_ge k g.edges.length with h | h
      · have hx := List.getElem?_eq_getElem h
        have hed := hG.edges _ (List.getElem_mem h)
        have hsn := ofE_snoc g hx
        generalize g.edges[k] = y at hx hed hsn
        obtain ⟨c1, c2, c3⟩ := y
        simp only at hed
        have xk : (g.edges.map cEd)[(k : Int).toNat]? = some [AI c1, AI c2, AI c3] := zmp (f := cEd) hx
        have xa : (rowI g.nodes)[c2.toNat]? = some [AI (nodeAt g c2)] := zmp (f := cI) (nodeAt_get hed.2.1.1 hed.2.1.2)
        have xb : (rowI g.nodes)[c3.toNat]? = some [AI (nodeAt g c3)] := zmp (f := cI) (nodeAt_get hed.2.2.1 hed.2.2.2)
        have ra := hG.nodes _ (nodeAt_mem (g := g) hed.2.1.1 hed.2.1.2)
        have rb := hG.nodes _ (nodeAt_mem (g := g) hed.2.2.1 hed.2.2.2)
        have hlen : (ofE g (g.edges.take k)).length ≤ 80 := by have := ofE_len g (g.edges.take k); rw [List.length_take] at this; omega
        have hm := ofE_small g (l := g.edges.take k) (fun e he => by
          have h5 := hG.edges e (List.mem_of_mem_take he)
          exact ⟨h5.1, hG.nodes _ (nodeAt_mem h5.2.1.1 h5.2.1.2), hG.nodes _ (nodeAt_mem h5.2.2.1 h5.2.2.2)⟩) (by rw [List.length_take]; omega)
        have hsn : ofE g (g.edges.take (k + 1)) = addC (ofE g (g.edges.take k)) ⟨c1, nodeAt g c2, nodeAt g c3, 1⟩ := hsn
        generalize nodeAt g c2 = na at *
        generalize nodeAt g c3 = nb at *
        have s2 := refchange_spec (ofE g (g.edges.take k)) (ofE_srt g _) (by omega) (fun c hc => ⟨smN_sm (hm c hc).1, (hm c hc).2⟩) c1 na nb 0 1 (by unfold smC; simp only; omega) (.inl rfl)
        repeat (first | refine gN pk ?_ | (show AL _ _ _ _ _ _ _; first | refine jX tok xk ?_ | refine jL tok (fun u => ?_) | refine jS tok 0 ?_ | refine jO tok 0 ?_))
        refine zfb 0 10 rfl rfl ?_
        refine a_regRO [0, 1, 2, 3, 4, 5, 6, 7, 8, 9, 10, 11, 12, 13, 14, 15, 16, 17, 18, 19] mixed rfl rfl (by decide +kernel) ?_
        repeat (first | refine gY pk ?_ | (show AL _ _ _ _ _ _ _; first | refine jX tok xa ?_ | refine jX tok xb ?_ | refine jO tok 0 ?_ | refine jP s2 ?_ | refine jS tok 0 ?_))
        repeat (first | refine gA pk ?_)
        refine ⟨k + 1, by omega, by omega, GoTo.sub (by exact subQ) ?_⟩
        rw [hsn]
        exact OSub.refl _
      · obtain rfl : k = g.edges.length := by omega
        rw [List.take_length]
        repeat (first | refine gV pk ?_ | (show AL _ _ _ _ _ _ _; first | refine jO tok 0 ?_ | refine jS tok 1 ?_))
        refine zfb 1 4 rfl rfl ?_
        refine a_ret ?_
        exact ⟨.inr rfl, _, _, [], rfl, Turn.of (Sub.refl _) (OSub.none _), rfl, rfl⟩
  · rw [if_pos he]
    generalize typedE t g = e at *
    refine a_enterM (rs := [.cell 4 64, .tmp 5]) tok Tryz.func30 (by kernel_rfl) rfl Tryz.ntmps30 rfl (by decide) (by simp) ?_
    refine a_seq ?_
    refine a_reg ?_
    repeat (first | refine gZ pk ?_ | (show AL _ _ _ _ _ _ _; first | refine jB (fun u => ?_) | refine jL tok (fun u4 => ?_)))
    refine zfb 1 3 rfl rfl ?_
    refine zfb 1 2 rfl rfl ?_
    repeat (first | refine gV pk ?_ | (show AL _ _ _ _ _ _ _; first | refine jP s1 ?_ | refine jS tok 0 ?_))
    refine zfb 0 4 rfl rfl ?_
    refine a_ret ?_
    exact ⟨.inr rfl, _, .tup [staA ⟨[], []⟩, AI e], [], rfl, Turn.of (Sub.tup (l := [.agg [SN0, SN0], AI e]) ⟨Sub.agg (m := [cntsA [], cntsA []]) ⟨nil_cnts, nil_cnts, trivial⟩, Sub.refl _, trivial⟩) (OSub.none _), rfl, rfl⟩
end Go.Proofs.YtimfponihbfimaaGreat
end
section
namespace Go.Proofs.YtimfponihbfimaaGreat
open Go.Sj Go.Sj.Typ
set_option maxRecDepth 8000
set_option maxHeartbeats 4000000
def exTys : Tys := ⟨[⟨⟨#[65, 99, 99, 111, 117, 110, 116]⟩, -1, true, [⟨⟨#[98, 97, 108, 97, 110, 99, 101]⟩, -1000, 1000, []⟩]⟩, ⟨⟨#[67, 97, 115, 104]⟩, 0, false, []⟩,
  ⟨⟨#[76, 111, 97, 110]⟩, 0, false, [⟨⟨#[115, 116, 97, 116, 101]⟩, 0, 1, [⟨#[111, 112, 101, 110]⟩, ⟨#[99, 108, 111, 115, 101, 100]⟩]⟩]⟩, ⟨⟨#[80, 101, 114, 115, 111, 110]⟩, -1, false, []⟩],
  [⟨⟨#[111, 119, 110, 115]⟩, 3, 0, 0, -1, 1, 1⟩, ⟨⟨#[112, 97, 121, 115]⟩, 1, 1, 0, -1, 0, -1⟩]⟩
theorem exSmall : Small exTys := ⟨by decide, by decide, by decide, by decide⟩
def exRaw : AV := .agg [.im 4 [[AS ⟨#[65, 99, 99, 111, 117, 110, 116]⟩, AI (-1), AB true, .im 4 [[AS ⟨#[98, 97, 108, 97, 110, 99, 101]⟩, AI (-1000), AI 1000, .lit (.slice none 0 0)]]],
  [AS ⟨#[67, 97, 115, 104]⟩, AI 0, AB false, .lit (.slice none 0 0)],
  [AS ⟨#[76, 111, 97, 110]⟩, AI 0, AB false, .im 4 [[AS ⟨#[115, 116, 97, 116, 101]⟩, AI 0, AI 1, .im 1 [[AS ⟨#[111, 112, 101, 110]⟩], [AS ⟨#[99, 108, 111, 115, 101, 100]⟩]]]]],
  [AS ⟨#[80, 101, 114, 115, 111, 110]⟩, AI (-1), AB false, .lit (.slice none 0 0)]],
  .im 7 [[AS ⟨#[111, 119, 110, 115]⟩, AI 3, AI 0, AI 0, AI (-1), AI 1, AI 1], [AS ⟨#[112, 97, 121, 115]⟩, AI 1, AI 1, AI 0, AI (-1), AI 0, AI (-1)]]]
theorem exSub : Sub exRaw (tysA exTys) :=
  Sub.agg ⟨Sub.im ⟨⟨Sub.refl _, Sub.refl _, Sub.refl _, Sub.im ⟨⟨Sub.refl _, Sub.refl _, Sub.refl _, Sub.nil 1, trivial⟩, trivial⟩, trivial⟩,
    ⟨Sub.refl _, Sub.refl _, Sub.refl _, Sub.nil 4, trivial⟩, ⟨Sub.refl _, Sub.refl _, Sub.refl _, Sub.refl _, trivial⟩, ⟨Sub.refl _, Sub.refl _, Sub.refl _, Sub.nil 4, trivial⟩, trivial⟩, Sub.refl _, trivial⟩
theorem Example_spec : Pure Tryz.prog 35 [] (tysA exTys) := by
  refine a_enterC Tryz.func35 (by kernel_rfl) rfl Tryz.ntmps35 rfl (tok _ _ rfl) (by simp) ?_
  repeat (first | refine gV pk ?_ | (show AL _ _ _ _ _ _ _; first | refine jL tok (fun u => ?_) | refine s_frzNow 0 rfl rfl rfl (s_build tok rfl rfl rfl rfl rfl rfl rfl rfl (by decide) (by decide) (fun v => AL.nil ⟨v, rfl, rfl, rfl⟩)) ?_ | refine jS tok 0 ?_))
  refine zfb 0 0 rfl rfl ?_
  refine a_ret ?_
  exact ⟨.inr rfl, _, exRaw, _, _, rfl, rfl, Turn.of exSub (OSub.refl _), rfl, rfl⟩
end Go.Proofs.YtimfponihbfimaaGreat
end
section
namespace Go.Proofs.YtimfponihbfimaaGreat
open Go.Sj Go.Sj.Typ Go.Sj.Sta
set_option maxRecDepth 8000
set_option maxHeartbeats 8000000
def exG : Gr := ⟨[3, 1, 1], [⟨0, 0, 1⟩, ⟨0, 0, 2⟩]⟩
def exS : Sta := ⟨[⟨1, 0, 0, 2⟩, ⟨3, 0, 0, 1⟩], [⟨0, 3, 1, 2⟩]⟩
theorem exOf : ofR exTys exG = (exS, 0) := by kernel_rfl
end Go.Proofs.YtimfponihbfimaaGreat
end
section
namespace Go.Proofs.YtimfponihbfimaaGreat
open Go.Sj Go.Sj.Typ Go.Sj.Sta Go.Sj.Inc Go.Sj.Pln
set_option maxRecDepth 8000
set_option maxHeartbeats 16000000
def exPn : Gr := ⟨[3, 0], [⟨0, 0, 1⟩]⟩
def exPl : List Opn := [⟨1, 0⟩, ⟨2, 0⟩]
theorem exPricE : pricE exTys exS exPn = 0 := by decide +kernel
theorem exBestL : (bestB exTys exS exPn).l = exPl := by decide +kernel
theorem exBestC : (bestB exTys exS exPn).c = 3 := by decide +kernel
theorem exBest : bestR exTys exS exPn = (exPl, 3, 0) := by
  unfold bestR
  rw [if_neg (Decidable.not_not.2 exPricE), if_neg (by decide), exBestL, exBestC]
theorem exValidS : validS exTys exPn exG = 0 := by decide +kernel
theorem exPlanE : planE exPn (kn0 exPn) exPl = 0 := by decide +kernel
theorem exRunM : runM (extM (seaA exTys exPn exG true)) [noMo exPn] exPl = some ([([0, 1], [0]), ([0, 2], [1])], [1, 2]) := by decide +kernel
theorem exRun : ∃ l : List Mo, l.length = 2 ∧ runR exTys exPn exG exPl true = (l, [1, 2], 0) := by
  unfold runR
  rw [if_neg (Decidable.not_not.2 exValidS), if_neg (Decidable.not_not.2 exPlanE), exRunM]
  exact ⟨srtL [([0, 1], [0]), ([0, 2], [1])], (srtL_perm _).length_eq, rfl⟩
theorem example_spec : Pure Tryz.prog 36 [] (.tup [grA exPn, grA exG]) := by
  refine a_enterM (rs := [.cell 0 29, .cell 1 29]) tok Tryz.func36 (by kernel_rfl) rfl Tryz.ntmps36 rfl (by decide) (by simp) ?_
  repeat (first | refine gV pk ?_ | (show AL _ _ _ _ _ _ _; first | refine s_frzNow 0 rfl rfl rfl (s_build tok rfl rfl rfl rfl rfl rfl rfl rfl (by decide) (by decide) (fun v => AL.nil ⟨v, rfl, rfl, rfl⟩)) ?_ | refine jL tok (fun uq => ?_) | refine jS tok 0 ?_ | refine jO tok 0 ?_ | refine jS tok 1 ?_ | refine jS tok 2 ?_))
  refine zfb 2 0 rfl rfl ?_
  refine zfb 1 1 rfl rfl ?_
  refine a_ret ?_
  exact ⟨.inr rfl, _, _, [], rfl, Turn.of (Sub.refl _) (OSub.none _), rfl, rfl⟩
theorem awakeP_spec : Pure Tryz.prog 11 [] (AB true) := by
  have s0 := Example_spec
  have s1 := example_spec
  have s2 := refOf_spec exTys exSmall exG ⟨by decide, by decide⟩
  rw [exOf] at s2
  have s3 := best_spec exTys exSmall exS ⟨by decide, by decide⟩ exPn ⟨by decide, by decide⟩
  rw [exBest] at s3
  have s4 := prun_spec exTys exSmall exPn exG ⟨by decide, by decide⟩ ⟨by decide, by decide⟩ exPl (by decide) true
  obtain ⟨L, hL, hr⟩ := exRun
  rw [hr] at s4
  have s5 := gSameOps_spec exPl exPl (by decide) (by decide)
  rw [decide_eq_true rfl] at s5
  have s6 := Equal_spec [1, 2] [1, 2] (by decide) (by decide)
  rw [decide_eq_true rfl] at s6
  have lm : (L.map cMo).length = 2 := by rw [List.length_map, hL]
  clear hr
  change Pure _ _ _ (.tup [opsA exPl, AI 3, AI 0]) at s3
  generalize exTys.nodes = N at *
  generalize exTys.edges = E at *
  generalize exPn.nodes = PN at *
  generalize exPn.edges = PE at *
  generalize exG.nodes = GN at *
  generalize exG.edges = GE at *
  generalize exS.nodes = SN at *
  generalize exS.edges = SE at *
  refine zen Tryz.func11 (by kernel_rfl) rfl Tryz.ntmps11 rfl (by simp) ?_
  repeat (first | refine gA pk ?_ | (show AL _ _ _ _ _ _ _; first | refine jP s0 ?_ | refine jP s1 ?_ | refine jP s2 ?_ | refine jP s3 ?_ | refine jP s4 ?_ | refine jP s5 ?_ | refine jP s6 ?_ | refine s_frzNow 0 rfl rfl rfl (s_build tok rfl rfl rfl rfl rfl rfl rfl rfl (by decide) (by decide) (fun v => AL.nil ⟨v, rfl, rfl, rfl⟩)) ?_ | refine jL tok (fun u => ?_) | refine jS tok 0 ?_ | refine jS tok 1 ?_ | refine jO tok 0 ?_ | refine jO tok 1 ?_ | refine jO tok 2 ?_ | refine jO tok 3 ?_))
  refine finQ ?_
  exact ⟨rfl, rfl⟩
end Go.Proofs.YtimfponihbfimaaGreat
end
section
namespace Go.Sj.Pln
open Go.Sj Go.Sj.Sta Go.Sj.Typ Go.Sj.Inc
set_option maxRecDepth 8000
def PreE (p : Gr) : Kn → List Opn → Prop
  | _, [] => True
  | k, o :: l => opE p k o = 0 ∧ PreE p (aftK p k o) l
def endK (p : Gr) (k : Kn) (l : List Opn) : Kn := l.foldl (aftK p) k
theorem endK_ok {p : Gr} : ∀ {l : List Opn} {k : Kn}, KnOk p k → KnOk p (endK p k l)
  | [], k, h => h
  | o :: l, k, h => endK_ok (l := l) (aftK_ok h o)
theorem endK_snoc (p : Gr) (k : Kn) (l : List Opn) (o : Opn) : endK p k (l ++ [o]) = aftK p (endK p k l) o := by unfold endK; rw [List.foldl_append]; rfl
theorem preE_snoc {p : Gr} : ∀ {l : List Opn} {k : Kn} {o : Opn}, PreE p k l → opE p (endK p k l) o = 0 → PreE p k (l ++ [o])
  | [], k, o, _, h => ⟨h, trivial⟩
  | x :: l, k, o, h, ho => ⟨h.1, preE_snoc (l := l) h.2 ho⟩
theorem pre_at {p : Gr} {o : Opn} : ∀ {l : List Opn} {k : Kn} {j : Nat}, PreE p k l → l[j]? = some o → opE p (endK p k (l.take j)) o = 0
  | [], k, j, h, hx => by cases hx
  | x :: l, k, 0, h, hx => by cases hx; exact h.1
  | x :: l, k, j + 1, h, hx => pre_at (l := l) (j := j) h.2 hx
theorem end_take {p : Gr} {o : Opn} {l : List Opn} {k : Kn} {j : Nat} (hx : l[j]? = some o) : endK p k (l.take (j + 1)) = aftK p (endK p k (l.take j)) o := by
  rw [List.take_add_one, hx]
  exact endK_snoc p k (l.take j) o
def opsX (p : Gr) (k : Kn) (kind : Int) (n : Nat) : List Opn := ((List.range n).map fun i : Nat => (⟨kind, (i : Int)⟩ : Opn)).filter fun o => decide (opE p k o = 0)
theorem opsX_succ (p : Gr) (k : Kn) (kind : Int) (n : Nat) : opsX p k kind (n + 1) = opsX p k kind n ++ if opE p k ⟨kind, (n : Int)⟩ = 0 then [⟨kind, (n : Int)⟩] else [] := by
  unfold opsX
  rw [List.range_succ, List.map_append, List.filter_append]
  congr 1
  simp only [List.map_cons, List.map_nil, List.filter_cons, List.filter_nil, decide_eq_true_eq]
theorem opsX_len (p : Gr) (k : Kn) (kind : Int) (n : Nat) : (opsX p k kind n).length ≤ n := by
  unfold opsX
  exact Nat.le_trans (List.length_filter_le _ _) (by simp)
theorem opsX_more {p : Gr} {k : Kn} {kind : Int} {n m : Nat} (h : ∀ i : Nat, n ≤ i → opE p k ⟨kind, (i : Int)⟩ ≠ 0) (hm : n ≤ m) : opsX p k kind m = opsX p k kind n := by
  obtain ⟨d, rfl⟩ : ∃ d, m = n + d := ⟨m - n, by omega⟩
  induction d with
  | zero => rfl
  | succ d ih =>
    rw [← Nat.add_assoc, opsX_succ, if_neg (h _ (by omega)), List.append_nil]
    exact ih (by omega)
theorem poss_X (p : Gr) (k : Kn) (M : Nat) (h1 : p.nodes.length ≤ M) (h2 : p.edges.length ≤ M) : poss p k = opsX p k 1 M ++ opsX p k 2 M ++ opsX p k 3 M := by
  have e1 : opsX p k 1 M = opsX p k 1 p.nodes.length := opsX_more (fun i hi h => by
    rcases opE_zero h with ⟨_, a, _⟩ | ⟨a, _⟩
    · simp only at a; omega
    · simp only at a; omega) h1
  have e2 : ∀ kind : Int, kind = 2 ∨ kind = 3 → opsX p k kind M = opsX p k kind p.edges.length := fun kind hk => opsX_more (fun i hi h => by
    rcases opE_zero h with ⟨a, _⟩ | ⟨_, a, _⟩
    · simp only at a; omega
    · simp only at a; omega) h2
  rw [e1, e2 2 (.inl rfl), e2 3 (.inr rfl)]
  unfold poss opsL opsN opsE opsX
  rw [List.filter_append, List.filter_append]
theorem poss_len (p : Gr) (k : Kn) : (poss p k).length ≤ p.nodes.length + p.edges.length + p.edges.length := by
  unfold poss
  exact Nat.le_trans (List.length_filter_le _ _) (by simp [opsL, opsN, opsE]; omega)
end Go.Sj.Pln
end
section
namespace Go.Proofs.YtimfponihbfimaaGreat
open Go.Sj Go.Sj.Typ Go.Sj.Sta Go.Sj.Inc Go.Sj.Pln
set_option maxRecDepth 8000
set_option maxHeartbeats 16000000
def posK (p : Gr) (k : Kn) (M : Nat) : Nat → List Opn
  | 0 => []
  | 1 => opsX p k 1 M
  | 2 => opsX p k 1 M ++ opsX p k 2 M
  | _ => opsX p k 1 M ++ opsX p k 2 M ++ opsX p k 3 M
theorem posK_step (p : Gr) (k : Kn) (M d : Nat) (h : d < 3) : posK p k M (d + 1) = posK p k M d ++ opsX p k ((d : Int) + 1) M := by
  have : d = 0 ∨ d = 1 ∨ d = 2 := by omega
  rcases this with rfl | rfl | rfl
  · rfl
  · rfl
  · rfl
theorem posK_len (p : Gr) (k : Kn) (M d : Nat) (h : d ≤ 3) : (posK p k M d).length ≤ d * M := by
  have h1 := opsX_len p k 1 M
  have h2 := opsX_len p k 2 M
  have h3 := opsX_len p k 3 M
  have : d = 0 ∨ d = 1 ∨ d = 2 ∨ d = 3 := by omega
  rcases this with rfl | rfl | rfl | rfl
  · simp [posK]
  · simp [posK]; omega
  · simp [posK]; omega
  · simp [posK]; omega
theorem gPossible_spec (p : Gr) (hp : GV p) (l : List Opn) (hl : l.length ≤ 1000) (hpl : PreE p (kn0 p) l) : Gives Tryz.prog 57 [grA p, opsA l] 41 2 ((poss p (endK p (kn0 p) l)).map cOp) := by
  have hnl := hp.nl
  have hel := hp.el
  have su := gfresh_spec p (by omega) (by omega)
  have ss := fun s hs o => gpossible_spec p hp s hs o
  have sf := fun s hs o ho => gafter_spec p hp s hs o ho
  have ll : (l.map cOp).length = l.length := by simp
  have lpn : (rowI p.nodes).length = p.nodes.length := by simp
  have lpe : (p.edges.map cEd).length = p.edges.length := by simp
  obtain ⟨M, hM1, hM2, hM3⟩ : ∃ M : Nat, p.nodes.length ≤ M ∧ p.edges.length ≤ M ∧ (M = p.nodes.length ∨ M = p.edges.length) := by
    rcases Nat.le_total p.nodes.length p.edges.length with h | h
    · exact ⟨_, h, Nat.le_refl _, .inr rfl⟩
    · exact ⟨_, Nat.le_refl _, h, .inl rfl⟩
  rw [poss_X p _ M hM1 hM2]
  refine zen Tryz.func57 (by kernel_rfl) rfl Tryz.ntmps57 rfl (by simp) ?_; refine a_seq ?_; refine a_reg ?_; (repeat (first | refine gZ pk ?_ | (show AL _ _ _ _ _ _ _; first | refine jB (fun u => ?_)))); refine zfb 0 2 rfl rfl ?_
  repeat (first | refine gA pk ?_ | (show AL _ _ _ _ _ _ _; first | refine jP su ?_ | refine jL tok (fun us => ?_) | refine jS tok 0 ?_))
  refine a_loopG3 (fun (i : Nat) (_ : Unit) (_ : Unit) => [(1, opsA l), (2, grP p), (5, .pt us 0 0 0), (6, AI i)]) (fun i _ _ => [(us, .box [boolsA (endK p (kn0 p) (l.take i)).ns, boolsA (endK p (kn0 p) (l.take i)).es])]) (fun i _ _ => i ≤ l.length) (fun i _ _ => l.length - i) 0 () () (Nat.zero_le _) (.sub (by exact subQ) (OSub.refl _)) ?_
  rintro i _ _ hi
  have hks : KnOk p (endK p (kn0 p) (l.take i)) := endK_ok (kn0_ok p)
  rcases Nat.lt_or_ge i l.length with h | h
  · have h1 := List.getElem?_eq_getElem h
    generalize l[i] = o at h1
    have hop := pre_at hpl h1
    have het := end_take (p := p) (k := kn0 p) h1
    have xk : (l.map cOp)[(i : Int).toNat]? = some [AI o.kind, AI o.el] := zmp (f := cOp) h1
    have s2 := sf _ hks o hop
    rw [← het] at s2
    change Pure _ _ [_, _, .agg [AI o.kind, AI o.el]] _ at s2
    repeat (first | refine gN pk ?_)
    refine zrg ((List.range 8).map fun i => if inL [6, 7] i = true then .eff else if inL [0, 1, 4, 5] i = true then .read else .pure) [] [0, 1, 2, 3, 4, 5, 6, 7] .stop mixed rfl rfl (by decide +kernel) ?_
    repeat' (first | (with_reducible show AG _ _ _ _ _ _ _ _ _ _; first | exact zgn | refine zgs ?_ | refine znd ?_ ?_) | (show AMid _ _ _ _; first | refine zmf ?_ | refine zmg (by first | exact OSub.refl _ | exact .drop (OSub.refl _) | exact .drop (.drop (OSub.refl _))) ?_) | refine gY pk ?_ | (show AL _ _ _ _ _ _ _; first | refine jO tok 0 ?_ | refine jX tok xk ?_ | refine jP s2 ?_ | refine jS tok 0 ?_) | fail)
    repeat (first | refine gA pk ?_)
    exact ⟨i + 1, (), (), by omega, by omega, .sub (by exact subQ) (OSub.refl _)⟩
  · obtain rfl : i = l.length := by omega
    rw [List.take_length] at hks ⊢
    generalize endK p (kn0 p) l = K at *
    refine zfb 0 5 rfl rfl ?_
    repeat (first | refine gA pk ?_)
    refine a_loopG3 (fun (d : Nat) (o : List Opn) (v : Value) => [(2, grP p), (5, .ip [boolsA K.ns, boolsA K.es]), (7, .lit v), (8, AI ((d : Int) + 1))]) (fun d o v => [(v, .row 41 2 (o.map cOp))]) (fun d o _ => d ≤ 3 ∧ o = posK p K M d) (fun d _ _ => 3 - d) 0 [] (.slice none 0 0) ⟨by omega, rfl⟩ (.sub (by exact subQ) (.free (OSub.none _))) ?_
    rintro d o v ⟨hd, ho⟩
    have hol : o.length ≤ d * M := by rw [ho]; exact posK_len p K M d hd
    rcases Nat.lt_or_ge d 3 with h3 | h3
    rotate_left
    · obtain rfl : d = 3 := by omega
      have ho : o = opsX p K 1 M ++ opsX p K 2 M ++ opsX p K 3 M := ho
      subst ho
      repeat (first | refine gA pk ?_)
      refine finR ?_
      exact ⟨v, rfl, rfl⟩
    · have hst := posK_step p K M d h3
      rw [← ho] at hst
      have hdm : d * M ≤ 2 * M := Nat.mul_le_mul_right M (by omega)
      repeat (first | refine gA pk ?_)
      refine a_loopG3 (fun (i : Nat) (o' : List Opn) (v : Value) => [(2, grP p), (5, .ip [boolsA K.ns, boolsA K.es]), (7, .lit v), (8, AI ((d : Int) + 1)), (9, AI i)]) (fun i o' v => [(v, .row 41 2 (o'.map cOp))]) (fun i o' _ => i ≤ M ∧ o' = o ++ opsX p K ((d : Int) + 1) i) (fun i _ _ => M - i) 0 o v ⟨by omega, by simp [opsX]⟩ (.sub (by exact subQ) (OSub.refl _)) ?_
      rintro i o' v ⟨hi, ho'⟩
      have hol' : o'.length ≤ d * M + i := by
        rw [ho', List.length_append]
        have := opsX_len p K ((d : Int) + 1) i
        omega
      have lo' : (o'.map cOp).length = o'.length := by simp
      rcases Nat.lt_or_ge i M with h4 | h4
      · have s1 := ss K hks ⟨(d : Int) + 1, (i : Int)⟩
        change Pure _ _ [_, _, .agg [AI ((d : Int) + 1), AI i]] _ at s1
        have hsx := opsX_succ p K ((d : Int) + 1) i
        have hlt : (i : Int) < p.nodes.length ∨ (¬ (i : Int) < p.nodes.length ∧ (i : Int) < p.edges.length) := by omega
        by_cases hop : opE p K ⟨(d : Int) + 1, (i : Int)⟩ = 0
        · have hnew : (o ++ opsX p K ((d : Int) + 1) (i + 1)).map cOp = o'.map cOp ++ [[AI ((d : Int) + 1), AI i]] := by
            rw [ho', opsX_succ, if_pos hop, ← List.append_assoc, List.map_append]
            rfl
          rw [hop] at s1
          rcases hlt with hlt | ⟨hlt1, hlt2⟩
          all_goals
            repeat (first | refine gA pk ?_ | (show AL _ _ _ _ _ _ _; first | refine jL tok (fun uo => ?_) | refine jS tok 0 ?_ | refine jO tok 0 ?_ | refine jP s1 ?_))
            (first | refine s_build1 tok rfl rfl rfl rfl rfl rfl rfl rfl (fun u => ?_) | refine s_build1M tok rfl rfl rfl rfl rfl rfl rfl (fun u => ?_) | refine zba tok rfl rfl rfl rfl rfl rfl rfl rfl (by decide) (fun u => ?_)); refine s_append1 tok 1 rfl rfl rfl rfl rfl rfl (by decide) rfl rfl rfl rfl (by omega) (by omega) (fun w => ?_)
            repeat (first | refine gA pk ?_)
            exact ⟨i + 1, o ++ opsX p K ((d : Int) + 1) (i + 1), w, ⟨by omega, rfl⟩, by omega, .sub (by exact subQ) (by rw [hnew]; exact .drop (OSub.refl _))⟩
        · rw [if_neg hop, List.append_nil] at hsx
          generalize opE p K ⟨(d : Int) + 1, (i : Int)⟩ = c at *
          rcases hlt with hlt | ⟨hlt1, hlt2⟩
          all_goals
            repeat (first | refine gA pk ?_ | (show AL _ _ _ _ _ _ _; first | refine jL tok (fun uo => ?_) | refine jS tok 0 ?_ | refine jO tok 0 ?_ | refine jP s1 ?_))
            exact ⟨i + 1, o', v, ⟨by omega, by rw [hsx]; exact ho'⟩, by omega, .sub (by exact subQ) (.drop (OSub.refl _))⟩
      · obtain rfl : i = M := by omega
        repeat (first | refine gA pk ?_)
        exact ⟨d + 1, o', v, ⟨by omega, by rw [ho', hst]⟩, by omega, .sub (by exact subQ) (OSub.refl _)⟩
end Go.Proofs.YtimfponihbfimaaGreat
end
section
namespace Go.Proofs.YtimfponihbfimaaGreat
open Go.Sj Go.Sj.Typ Go.Sj.Sta Go.Sj.Inc Go.Sj.Pln
set_option maxRecDepth 8000
abbrev cseA (t : Tys) (p g : Gr) : AV := .agg [nodsA t.nodes, edgsA t.edges, ints p.nodes, edsA p.edges, ints g.nodes, edsA g.edges]
end Go.Proofs.YtimfponihbfimaaGreat
end
section
namespace Go.Sj.Can
open Go.Sj Go.Sj.Sta Go.Sj.Typ
set_option maxRecDepth 8000
structure Dr5 where
  nodes : List Int
  edges : List (Int × Int × Int)
abbrev RDr5 := List Int × List (List Int) × Unit
def toDr5 (x : RDr5) : Dr5 := ⟨x.1, x.2.1.map toC3⟩
abbrev dr5L (d : Dr5) : List AV := [bytesA d.nodes, .im 3 (d.edges.map c83)]
abbrev dr5A (d : Dr5) : AV := .agg (dr5L d)
def gDr5 (x : RDr5) : List AV := [.im 1 (x.1.map fun n => [.lit (.int .u8 n)])] ++ ([.im 3 (x.2.1.map g8s)] ++ [])
structure OkD5 (d : Dr5) : Prop where
  nodes : ∀ n ∈ d.nodes, 0 ≤ n ∧ n ≤ 255
  edges : ∀ c ∈ d.edges, In3 c
  nl : d.nodes.length ≤ 140737488355328
  gl : d.edges.length ≤ 140737488355328
abbrev okRD5 (x : RDr5) : Prop := ((∀ m ∈ x.1, (Lit.int .u8 m).wf = true) ∧ x.1.length ≤ reachBytes) ∧ ((∀ a ∈ x.2.1, a.length = 3 ∧ ∀ m ∈ a, (Lit.int .u8 m).wf = true) ∧ x.2.1.length ≤ reachBytes) ∧ True
theorem dr5_ok {x : RDr5} (hx : okRD5 x) : OkD5 (toDr5 x) := by
  have r3 := hx.1.2
  have r4 := hx.2.1.2
  unfold reachBytes at r3 r4
  refine ⟨fun n hn => wf_n8 (hx.1.1 n hn), fun c hc => ?_, ?_, ?_⟩
  · obtain ⟨a, ha, rfl⟩ := List.mem_map.1 hc
    exact toC3_ok (hx.2.1.1 a ha)
  · show x.1.length ≤ _
    omega
  · show (x.2.1.map toC3).length ≤ _
    rw [List.length_map]; omega
section
variable {g : Gr} {p q : List Int} (h : GV g) (hp : Prm p g.nodes.length) (hq : Prm q g.edges.length)
include h hp hq
end
end Go.Sj.Can
end
section
namespace Go.Proofs.YtimfponihbfimaaGreat
open Go.Sj Go.Sj.Typ Go.Sj.Sta Go.Sj.Inc Go.Sj.Pln
set_option maxRecDepth 8000
set_option maxHeartbeats 16000000
def chF (codes : List Int) (i : Nat) : Int := if codes.length = 0 then 0 else codes.getD (i % codes.length) 0
theorem mkP_nil {p : Gr} {f : Nat → Int} {m i : Nat} {k : Kn} (h : poss p k = []) : mkP p f m i k = [] := by
  cases m with
  | zero => rfl
  | succ m => rw [mkP, if_pos h]
theorem gmade_spec (p : Gr) (hp : GV p) (codes : List Int) (hcl : codes.length ≤ 1000) (hc : ∀ x ∈ codes, 0 ≤ x ∧ x ≤ 255) : Pure Tryz.prog 19 [grA p, bytesA codes] (opsA (mkP p (chF codes) 200 0 (kn0 p))) := by
  have hnl := hp.nl
  have hel := hp.el
  have sP : ∀ (l : List Opn) (h1 : l.length ≤ 1000) (h2 : PreE p (kn0 p) l) (v : Value), ACalls Tryz.prog 57 [grA p, .lit v] [(v, .row 41 2 (l.map cOp))] (fun y M => ∃ w, y = .lit w ∧ M = [(w, .row 41 2 ((poss p (endK p (kn0 p) l)).map cOp)), (v, .row 41 2 (l.map cOp))]) := fun l h1 h2 v => (ACalls.lendZ (E := 41) (gPossible_spec p hp l h1 h2) (v := v) (sz := 2) (es := l.map cOp) (args' := [grA p, .lit v]) ⟨FZ.refl _, FZ.here, trivial⟩ (fun y M ⟨w, h1, h2⟩ => by
    subst h1; subst h2
    refine ⟨.lit _, fun q hq => ?_⟩
    rw [List.mem_singleton] at hq
    subst hq
    intro e he x hx
    obtain ⟨z, _, rfl⟩ := List.mem_map.1 he
    have hx : x ∈ [AI z.kind, AI z.el] := hx
    simp only [List.mem_cons, List.not_mem_nil, or_false] at hx
    rcases hx with rfl | rfl <;> exact .lit _)).mono fun y M ⟨M', ⟨w, h1, h2⟩, h3⟩ => ⟨w, h1, by rw [h3, h2]; rfl⟩
  have lc : (codes.map c8).length = codes.length := by simp
  generalize hf : chF codes = f
  refine zen Tryz.func19 (by kernel_rfl) rfl Tryz.ntmps19 rfl (by simp) ?_; refine a_seq ?_; refine a_reg ?_; (repeat (first | refine gZ pk ?_ | (show AL _ _ _ _ _ _ _; first | refine jB (fun u => ?_)))); refine zfb 0 2 rfl rfl ?_
  repeat (first | refine gA pk ?_)
  refine a_loopG3 (fun (i : Nat) (o : List Opn) (v : Value) => [(1, bytesA codes), (2, grP p), (5, .lit v), (6, AI i)]) (fun i o v => [(v, .row 41 2 (o.map cOp))]) (fun i o _ => i ≤ 200 ∧ o.length = i ∧ PreE p (kn0 p) o ∧ mkP p f 200 0 (kn0 p) = o ++ mkP p f (200 - i) i (endK p (kn0 p) o)) (fun i _ _ => 200 - i) 0 [] (.slice none 0 0) ⟨by omega, rfl, trivial, rfl⟩ (.sub (by exact subQ) (.free (OSub.none _))) ?_
  rintro i o v ⟨hi, ho, hpr, he⟩
  rw [he]
  have lo : (o.map cOp).length = i := by rw [List.length_map, ho]
  rcases Nat.lt_or_ge i 200 with h | h
  · have s1 := sP o (by omega) hpr v
    have hplen := poss_len p (endK p (kn0 p) o)
    have hpm := fun x => poss_mem (p := p) (s := endK p (kn0 p) o) (o := x)
    by_cases hn : poss p (endK p (kn0 p) o) = []
    · rw [mkP_nil hn, List.append_nil]
      rw [hn] at s1
      have l0 : (([] : List Opn).map cOp).length = 0 := rfl
      repeat (first | refine gZ pk ?_)
      refine a_reg ?_
      repeat (first | refine gZ pk ?_)
      refine a_reg ?_
      repeat (first | refine gZ pk ?_ | (show AL _ _ _ _ _ _ _; first | refine s_frzNowP (M := [(v, .row 41 2 (o.map cOp))]) 0 rfl rfl rfl (zsc (Lc := [(v, .row 41 2 (o.map cOp))]) (Lr := []) rfl rfl rfl rfl rfl s1 (SubL.of_eq rfl) (List.Perm.refl _) (by rintro _ _ ⟨w, rfl, rfl⟩; exact AL.nil ⟨w, rfl, rfl, List.Perm.refl _⟩)) ?_))
      refine a_frz 0 5 rfl rfl ?_
      repeat (first | refine gA pk ?_)
      refine finQ ?_
      exact ⟨rfl, rfl⟩
    · have hpos : 0 < (poss p (endK p (kn0 p) o)).length := List.length_pos_iff.2 hn
      have hstep : mkP p f (200 - i) i (endK p (kn0 p) o) = (poss p (endK p (kn0 p) o)).getD (f i % (poss p (endK p (kn0 p) o)).length).toNat ⟨0, 0⟩ :: mkP p f (200 - (i + 1)) (i + 1) (aftK p (endK p (kn0 p) o) ((poss p (endK p (kn0 p) o)).getD (f i % (poss p (endK p (kn0 p) o)).length).toNat ⟨0, 0⟩)) := by
        obtain ⟨d, hd⟩ : ∃ d, 200 - i = d + 1 := ⟨200 - i - 1, by omega⟩
        rw [hd, show 200 - (i + 1) = d by omega, mkP, if_neg hn]
      rw [hstep] at he ⊢
      have h0 := Int.emod_nonneg (f i) (b := ((poss p (endK p (kn0 p) o)).length : Int)) (by omega)
      have h1 := Int.emod_lt_of_pos (f i) (b := ((poss p (endK p (kn0 p) o)).length : Int)) (by omega)
      have hget := List.getElem?_eq_getElem (l := poss p (endK p (kn0 p) o)) (i := (f i % (poss p (endK p (kn0 p) o)).length).toNat) (by omega)
      have hmem := (hpm _).1 (List.mem_of_getElem? hget)
      have hgD : (poss p (endK p (kn0 p) o)).getD (f i % (poss p (endK p (kn0 p) o)).length).toNat ⟨0, 0⟩ = (poss p (endK p (kn0 p) o))[(f i % (poss p (endK p (kn0 p) o)).length).toNat]'(by omega) := by
        rw [List.getD_eq_getElem?_getD, hget]
        rfl
      rw [hgD] at he ⊢
      generalize (poss p (endK p (kn0 p) o))[(f i % (poss p (endK p (kn0 p) o)).length).toNat]'(by omega) = x at *
      have hpr2 := preE_snoc hpr hmem
      have hek := endK_snoc p (kn0 p) o x
      rw [← hek] at he ⊢
      have lL : ((poss p (endK p (kn0 p) o)).map cOp).length = (poss p (endK p (kn0 p) o)).length := by simp
      clear hgD hstep hpm hmem
      generalize poss p (endK p (kn0 p) o) = L at *
      have hrow : (o ++ [x]).map cOp = o.map cOp ++ [[AI x.kind, AI x.el]] := by rw [List.map_append]; rfl
      by_cases hz : codes.length = 0
      · have hfi : f i = 0 := by rw [← hf]; unfold chF; rw [if_pos hz]
        rw [hfi] at hget h0 h1
        have xk : (L.map cOp)[(0 : Int).toNat]? = some [AI x.kind, AI x.el] := zmp (f := cOp) (by rw [Int.zero_emod] at hget; exact hget)
        repeat (first | refine gA pk ?_ | (show AL _ _ _ _ _ _ _; first | refine s_frzNowP (M := [(v, .row 41 2 (o.map cOp))]) 0 rfl rfl rfl (zsc (Lc := [(v, .row 41 2 (o.map cOp))]) (Lr := []) rfl rfl rfl rfl rfl s1 (SubL.of_eq rfl) (List.Perm.refl _) (by rintro _ _ ⟨w, rfl, rfl⟩; exact AL.nil ⟨w, rfl, rfl, List.Perm.refl _⟩)) ?_ | refine jX tok xk ?_))
        (first | refine s_build1 tok rfl rfl rfl rfl rfl rfl rfl rfl (fun u => ?_) | refine s_build1M tok rfl rfl rfl rfl rfl rfl rfl (fun u => ?_) | refine zba tok rfl rfl rfl rfl rfl rfl rfl rfl (by decide) (fun u => ?_)); refine s_append1 tok 0 rfl rfl rfl rfl rfl rfl (by decide) rfl rfl rfl rfl (by omega) (by omega) (fun w => ?_)
        repeat (first | refine gA pk ?_)
        exact ⟨i + 1, o ++ [x], w, ⟨by omega, by simp; omega, hpr2, by simp⟩, by omega, .sub (by exact subQ) (by rw [hrow]; exact OSub.refl _)⟩
      · have hm : i % codes.length < codes.length := Nat.mod_lt _ (by omega)
        have hcg := List.getElem?_eq_getElem hm
        have hcr := hc _ (List.getElem_mem hm)
        have hfi : f i = codes[i % codes.length] := by
          rw [← hf]
          unfold chF
          rw [if_neg hz, List.getD_eq_getElem?_getD, hcg]
          rfl
        rw [hfi] at hget h0 h1
        generalize codes[i % codes.length] = y at *
        have hmi : ((i : Int) % ((codes.map c8).length : Int)) = ((i % codes.length : Nat) : Int) := by rw [lc]; omega
        have ck : (codes.map c8)[((i : Int) % ((codes.map c8).length : Int)).toNat]? = some [A8 y] := by rw [hmi, Int.toNat_natCast]; exact zmp (f := c8) hcg
        have hmn : 0 ≤ (i : Int) % ((codes.map c8).length : Int) := by rw [hmi]; omega
        have xk : (L.map cOp)[(y % ((L.map cOp).length : Int)).toNat]? = some [AI x.kind, AI x.el] := by rw [lL]; exact zmp (f := cOp) hget
        rw [← lL] at h0 h1
        repeat (first | refine gA pk ?_ | (show AL _ _ _ _ _ _ _; first | refine s_frzNowP (M := [(v, .row 41 2 (o.map cOp))]) 0 rfl rfl rfl (zsc (Lc := [(v, .row 41 2 (o.map cOp))]) (Lr := []) rfl rfl rfl rfl rfl s1 (SubL.of_eq rfl) (List.Perm.refl _) (by rintro _ _ ⟨w, rfl, rfl⟩; exact AL.nil ⟨w, rfl, rfl, List.Perm.refl _⟩)) ?_ | refine s_rem rfl rfl rfl rfl rfl rfl (by omega) (by omega) ?_ | refine s_index tok rfl rfl rfl rfl rfl rfl rfl rfl rfl hmn ck ?_ | refine zcv tok rfl rfl rfl rfl rfl rfl rfl (IntWalk.i64_in _ (by omega)) ?_ | refine s_index tok rfl rfl rfl rfl rfl rfl rfl rfl rfl h0 xk ?_))
        (first | refine s_build1 tok rfl rfl rfl rfl rfl rfl rfl rfl (fun u => ?_) | refine s_build1M tok rfl rfl rfl rfl rfl rfl rfl (fun u => ?_) | refine zba tok rfl rfl rfl rfl rfl rfl rfl rfl (by decide) (fun u => ?_)); refine s_append1 tok 0 rfl rfl rfl rfl rfl rfl (by decide) rfl rfl rfl rfl (by omega) (by omega) (fun w => ?_)
        repeat (first | refine gA pk ?_)
        exact ⟨i + 1, o ++ [x], w, ⟨by omega, by simp; omega, hpr2, by simp⟩, by omega, .sub (by exact subQ) (by rw [hrow]; exact OSub.refl _)⟩
  · obtain rfl : i = 200 := by omega
    rw [show mkP p f (200 - 200) 200 (endK p (kn0 p) o) = [] from rfl, List.append_nil]
    refine a_frz 0 5 rfl rfl ?_
    repeat (first | refine gA pk ?_)
    refine finQ ?_
    exact ⟨rfl, rfl⟩
end Go.Proofs.YtimfponihbfimaaGreat
end
