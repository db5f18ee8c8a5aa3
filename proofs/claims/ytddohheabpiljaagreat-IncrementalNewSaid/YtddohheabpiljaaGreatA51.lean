/-
  Parts of the proof of the law IncrementalNew (texts Y19, W63, Y21, M33, W64): steps, plain mathematics, contracts of functions. Each theorem states its own conditions.
-/
import Derived.Test.YtddohheabpiljaaGreatA04
import Derived.Test.YtddohheabpiljaaGreatA07
import Derived.Test.YtddohheabpiljaaGreatA09
import Derived.Test.YtddohheabpiljaaGreatA12
import Derived.Test.YtddohheabpiljaaGreatA26
import Derived.Test.YtddohheabpiljaaGreatA42
import Derived.Test.YtddohheabpiljaaGreatA44
import Derived.Test.YtddohheabpiljaaGreatA50
section
/-
  Few, the example of the chapter, awake: the walks.
-/
namespace Go.Proofs.YtddohheabpiljaaGreat
open Go.Sj Go.Sj.Typ
set_option maxRecDepth 8000
set_option linter.unusedVariables false
set_option maxHeartbeats 4000000

def exTys : Tys := ⟨[⟨⟨#[65, 99, 99, 111, 117, 110, 116]⟩, -1, true, [⟨⟨#[98, 97, 108, 97, 110, 99, 101]⟩, -1000, 1000, []⟩]⟩, ⟨⟨#[67, 97, 115, 104]⟩, 0, false, []⟩,
  ⟨⟨#[76, 111, 97, 110]⟩, 0, false, [⟨⟨#[115, 116, 97, 116, 101]⟩, 0, 1, [⟨#[111, 112, 101, 110]⟩, ⟨#[99, 108, 111, 115, 101, 100]⟩]⟩]⟩, ⟨⟨#[80, 101, 114, 115, 111, 110]⟩, -1, false, []⟩],
  [⟨⟨#[111, 119, 110, 115]⟩, 3, 0, 0, -1, 1, 1⟩, ⟨⟨#[112, 97, 121, 115]⟩, 1, 1, 0, -1, 0, -1⟩]⟩
theorem exSmall : Small exTys := ⟨by decide, by decide, by decide, by decide⟩
def exRaw : AV := .agg [.im 4 [[AS ⟨#[65, 99, 99, 111, 117, 110, 116]⟩, AI (-1), AB true, .im 4 [[AS ⟨#[98, 97, 108, 97, 110, 99, 101]⟩, AI (-1000), AI 1000, .lit (.slice none 0 0)]]],
  [AS ⟨#[67, 97, 115, 104]⟩, AI 0, AB false, .lit (.slice none 0 0)],
  [AS ⟨#[76, 111, 97, 110]⟩, AI 0, AB false, .im 4 [[AS ⟨#[115, 116, 97, 116, 101]⟩, AI 0, AI 1, .im 1 [[AS ⟨#[111, 112, 101, 110]⟩], [AS ⟨#[99, 108, 111, 115, 101, 100]⟩]]]]],
  [AS ⟨#[80, 101, 114, 115, 111, 110]⟩, AI (-1), AB false, .lit (.slice none 0 0)]],
  .im 7 [[AS ⟨#[111, 119, 110, 115]⟩, AI 3, AI 0, AI 0, AI (-1), AI 1, AI 1], [AS ⟨#[112, 97, 121, 115]⟩, AI 1, AI 1, AI 0, AI (-1), AI 0, AI (-1)]]]
theorem exSub : Sub exRaw (tysA exTys) :=
  Sub.agg ⟨Sub.im ⟨⟨Sub.refl _, Sub.refl _, Sub.refl _, Sub.im ⟨⟨Sub.refl _, Sub.refl _, Sub.refl _, Sub.nil 1, trivial⟩, trivial⟩, trivial⟩,
    ⟨Sub.refl _, Sub.refl _, Sub.refl _, Sub.nil 4, trivial⟩, ⟨Sub.refl _, Sub.refl _, Sub.refl _, Sub.refl _, trivial⟩, ⟨Sub.refl _, Sub.refl _, Sub.refl _, Sub.nil 4, trivial⟩, trivial⟩, Sub.refl _, trivial⟩
theorem Example_spec : Pure Tryz.prog 31 [] (tysA exTys) := by
  refine a_enterC Tryz.func31 (by kernel_rfl) rfl Tryz.ntmps31 rfl (tok _ _ rfl) (by simp) ?_
  repeat (first | refine gV pk ?_ | (show AL _ _ _ _ _ _ _; first | refine jL tok (fun u => ?_) | refine s_frzNow 0 rfl rfl rfl (s_build tok rfl rfl rfl rfl rfl rfl rfl rfl (by decide) (by decide) (fun v => AL.nil ⟨v, rfl, rfl, rfl⟩)) ?_ | refine jS tok 0 ?_))
  refine a_frzBox 0 0 rfl rfl ?_
  refine a_ret ?_
  exact ⟨.inr rfl, _, exRaw, _, _, rfl, rfl, Turn.of exSub (OSub.refl _), rfl, rfl⟩
end Go.Proofs.YtddohheabpiljaaGreat

end
section
/-
  Watches: the chapter's example.
-/
namespace Go.Proofs.YtddohheabpiljaaGreat
open Go.Sj Go.Sj.Typ Go.Sj.Sta Go.Sj.Inc
set_option maxRecDepth 8000
set_option linter.unusedVariables false
set_option linter.unusedSimpArgs false
set_option maxHeartbeats 16000000

def exP : Gr := ⟨[1, 1], [⟨1, 0, 1⟩]⟩
def exG : Gr := ⟨[1], []⟩
def exH : Gr := ⟨[1], [⟨1, 0, 0⟩]⟩
theorem exNew0 : matsE exTys [exP] exG false = 0 := by decide +kernel
theorem exNew1 : matsL exTys [exP] exG false = [[]] := by decide +kernel
theorem exFre1 : (freI exTys exP exH true false 0) = ([([0, 0], [0])], 0) := by decide +kernel
theorem exEdit : editE exG ⟨2, 0, 1, 0, 0⟩ 4 2 = 0 := by decide +kernel
theorem exPV : GV exP := gvalid_zero.1 (by decide +kernel)
theorem exHV : GV exH := gvalid_zero.1 (by decide +kernel)
abbrev exW : Wat := ⟨[exP], exG, false, [[]]⟩
abbrev exV : Wat := ⟨[exP], exH, false, [[([0, 0], [0])]]⟩
theorem exNew : newR exTys [exP] exG false = (exW, 0) := by
  unfold newR
  rw [exNew0, exNew1]
  rfl
theorem exVal : wvalE exTys exW = 0 := by
  unfold wvalE
  rw [exNew0, exNew1]
  rfl
theorem exFreC : freC exTys exP exH true false = [([0, 0], [0])] := by
  show (List.range 1).flatMap (fun i => (freI exTys exP exH true false i).1) = _
  show (freI exTys exP exH true false 0).1 ++ [] = _
  rw [exFre1]
  rfl
theorem ext_le (t : Tys) (p g : Gr) (a b : List Int) (inj : Bool) : (extR t p g a b inj).1.length ≤ 5000 := by
  unfold extR capR
  repeat' split
  all_goals first | exact Nat.zero_le _ | (simp only; omega)
theorem exFresh : Pure Tryz.prog 66 [tysA exTys, grA exP, grA exH, AB true, AB false] (.tup [mosA [([0, 0], [0])], AI 0]) :=
  fresh_spec exTys exSmall exP exH exPV exHV true false (fun i hi => by
    have : i = 0 := by
      have : i < 1 := hi
      omega
    subst this
    rw [exFre1]) (by rw [exFreC]; decide) (fun i => ext_le _ _ _ _ _ _) [([0, 0], [0])] [([0, 0], [0])] (by rw [exFreC]; exact fun v => sort1_spec v _ _ (by decide)) (fun v => (compact1_spec v _ _ (by decide)).mono fun y M h => ⟨v, h.1, h.2⟩)
theorem exMerged : Gives Tryz.prog 67 [mosA [], mosA [([0, 0], [0])]] 95 2 (([([0, 0], [0])] : List Mo).map cMo) :=
  merged_spec [] [([0, 0], [0])] [([0, 0], [0])] (by decide) (by decide) (fun v => sort1_spec v _ _ (by decide))
theorem exMoB : ∀ x ∈ ([([0, 0], [0])] : List Mo), MoB x := fun x hx => by
  have : x = ([0, 0], [0]) := by simpa using hx
  subst this
  exact ⟨by decide, by decide⟩
theorem exWOk : WatOk exW := ⟨fun p hp => by
  have : p = exP := by simpa using hp
  subst this
  exact ⟨by decide, by decide⟩, by decide, ⟨by decide, by decide⟩, fun l hl => by
  have : l = [] := by simpa using hl
  subst this
  exact ⟨by decide, by simp⟩, by decide⟩
theorem exEd : Pure Tryz.prog 54 [grA exG, .agg [AI 2, AI 0, AI 1, AI 0, AI 0], AI (exTys.nodes.map cNod).length, AI (exTys.edges.map cEdg).length] (AI 0) := by
  have h := iedit_spec exG ⟨by decide, by decide⟩ (by decide) ⟨2, 0, 1, 0, 0⟩ ((exTys.nodes.map cNod).length : Nat) ((exTys.edges.map cEdg).length : Nat)
  have h0 : editE exG ⟨2, 0, 1, 0, 0⟩ ((exTys.nodes.map cNod).length : Nat) ((exTys.edges.map cEdg).length : Nat) = 0 := exEdit
  rw [h0] at h
  exact h
theorem exApply : Pure Tryz.prog 17 [tysA exTys, watA exW, .agg [AI 2, AI 0, AI 1, AI 0, AI 0]] (.tup [watA exV, .im 2 (([[([0, 0], [0])]] : List (List Mo)).map cDelN), AI 0]) :=
  iApply_spec exTys exW exV 2 0 1 0 0 _ (by have h := ivalid_spec exTys exSmall exW exWOk; rw [exVal] at h; exact h)
    (iapplyA_spec exTys exSmall exW 2 0 1 0 0 true (.inr ⟨rfl, rfl⟩) exH [[([0, 0], [0])]] [[([0, 0], [0])]] (by decide) (fun p hp => by
      have : p = exP := by simpa using hp
      subst this
      exact ⟨by decide, by decide⟩) rfl rfl rfl exEd (ieditedE_spec exG (by decide) (by decide) 0 1 0 0) (fun j p hp => by
      have hj : j = 0 := by
        have h1 := (List.getElem?_eq_some_iff.1 hp).1
        have h2 : j < 1 := h1
        omega
      subst hj
      have hp' : p = exP := by
        have h3 : some exP = some p := hp
        cases h3
        rfl
      subst hp'
      exact ⟨[([0, 0], [0])], [], [([0, 0], [0])], rfl, rfl, rfl, by decide, by decide, exMoB, exMoB, exFresh, exMerged⟩))
theorem awakeI_spec : Pure Tryz.prog 10 [] (AB true) := by
  have s0 := Example_spec
  have s1 := Pure.subA (inew_spec exTys exSmall [exP] exG false (fun p hp => by
      have : p = exP := by simpa using hp
      subst this
      exact ⟨by decide, by decide⟩) (by decide) ⟨by decide, by decide⟩) (args' := [tysA exTys, grsA [exP], .agg [ints [1], nilS], AB false]) ⟨Sub.refl _, Sub.refl _, Sub.agg (m := [ints [1], edsA []]) ⟨Sub.refl _, Sub.nil 3, trivial⟩, Sub.refl _, trivial⟩
  rw [exNew] at s1
  have s2 := exApply
  have ka : (([[]] : List (List Mo)).map cMos)[(0 : Int).toNat]? = some [mosA []] := rfl
  have kb : (([[([0, 0], [0])]] : List (List Mo)).map cMos)[(0 : Int).toNat]? = some [mosA [([0, 0], [0])]] := rfl
  have kc : (([[([0, 0], [0])]] : List (List Mo)).map cDelN)[(0 : Int).toNat]? = some [mosA [([0, 0], [0])], mosA []] := rfl
  generalize exTys.nodes = N at *
  generalize exTys.edges = E at *
  refine a_enter Tryz.func10 (by kernel_rfl) rfl Tryz.ntmps10 rfl (by simp) ?_
  repeat (first | refine gA pk ?_ | (show AL _ _ _ _ _ _ _; first | refine jP s0 ?_ | refine jP s1 ?_ | refine jP s2 ?_ | refine s_frzNow 0 rfl rfl rfl (s_build tok rfl rfl rfl rfl rfl rfl rfl rfl (by decide) (by decide) (fun v => AL.nil ⟨v, rfl, rfl, rfl⟩)) ?_ | refine jL tok (fun u => ?_) | refine jS tok 0 ?_ | refine jO tok 0 ?_ | refine jO tok 1 ?_ | refine jO tok 2 ?_ | refine jO tok 3 ?_ | refine jX tok ka ?_ | refine jX tok kb ?_ | refine jX tok kc ?_))
  refine finQ ?_
  exact ⟨rfl, rfl⟩
end Go.Proofs.YtddohheabpiljaaGreat

end
section
/-
  The laws on Valid, Is, Meet and Join: the walks.
-/
namespace Go.Proofs.YtddohheabpiljaaGreat
open Go.Sj Go.Sj.Typ
set_option maxRecDepth 8000
set_option linter.unusedVariables false
set_option maxHeartbeats 4000000

/-! Type graphs among the arguments. -/
abbrev RAtt := ByteArray × Int × Int × List ByteArray × Unit
abbrev RNod := ByteArray × Int × Bool × List RAtt × Unit
abbrev REdg := ByteArray × Int × Int × Int × Int × Int × Int × Unit
abbrev RTys := List RNod × List REdg × Unit
def toAtt (x : RAtt) : Att := ⟨x.1, x.2.1, x.2.2.1, x.2.2.2.1⟩
def toNod (x : RNod) : Nod := ⟨x.1, x.2.1, x.2.2.1, x.2.2.2.1.map toAtt⟩
def toEdg (x : REdg) : Edg := ⟨x.1, x.2.1, x.2.2.1, x.2.2.2.1, x.2.2.2.2.1, x.2.2.2.2.2.1, x.2.2.2.2.2.2.1⟩
def toTys (x : RTys) : Tys := ⟨x.1.map toNod, x.2.1.map toEdg⟩
def gAtt (x : RAtt) : List AV := [.lit (.string x.1)] ++ ([.lit (.int .i64 x.2.1)] ++ ([.lit (.int .i64 x.2.2.1)] ++ ([.im 1 (x.2.2.2.1.map fun s => [.lit (.string s)])] ++ [])))
def gNod (x : RNod) : List AV := [.lit (.string x.1)] ++ ([.lit (.int .i64 x.2.1)] ++ ([.lit (.bool x.2.2.1)] ++ ([.im 4 (x.2.2.2.1.map gAtt)] ++ [])))
def gEdg (x : REdg) : List AV := [.lit (.string x.1)] ++ ([.lit (.int .i64 x.2.1)] ++ ([.lit (.int .i64 x.2.2.1)] ++ ([.lit (.int .i64 x.2.2.2.1)] ++ ([.lit (.int .i64 x.2.2.2.2.1)] ++ ([.lit (.int .i64 x.2.2.2.2.2.1)] ++ ([.lit (.int .i64 x.2.2.2.2.2.2.1)] ++ []))))))
def gTys (x : RTys) : List AV := [.im 4 (x.1.map gNod)] ++ ([.im 7 (x.2.1.map gEdg)] ++ [])
theorem gAtt_eq : gAtt = fun x => cAtt (toAtt x) := rfl
theorem gEdg_eq : gEdg = fun x => cEdg (toEdg x) := rfl
theorem gNod_eq : gNod = fun x => cNod (toNod x) := funext fun x => by
  show [AV.lit (.string x.1), AI x.2.1, AB x.2.2.1, .im 4 (x.2.2.2.1.map gAtt)] = [AV.lit (.string x.1), AI x.2.1, AB x.2.2.1, .im 4 ((x.2.2.2.1.map toAtt).map cAtt)]
  rw [gAtt_eq, List.map_map]; rfl
def okRN (okA : RAtt → Prop) (a : RNod) : Prop := a.1.size ≤ maxLen ∧ (Lit.int .i64 a.2.1).wf = true ∧ True ∧ ((∀ b ∈ a.2.2.2.1, okA b) ∧ a.2.2.2.1.length ≤ reachBytes) ∧ True
theorem tys_ok {x : RTys} {okA : RAtt → Prop} {p q : Prop} (h : ((∀ a ∈ x.1, okRN okA a) ∧ p) ∧ q) : OkT (toTys x) := fun n hn => by
  obtain ⟨a, ha, rfl⟩ := List.mem_map.1 hn
  have := (h.1.1 a ha).2.2.2.1.2
  simp only [toNod, List.length_map]
  unfold reachBytes at this
  omega
end Go.Proofs.YtddohheabpiljaaGreat

end
section
/-
  Readings of lists of graphs. No condition.
-/
namespace Go.Sj.Can
open Go.Sj Go.Sj.Sta
set_option maxRecDepth 8000
set_option linter.unusedVariables false
theorem grs_ok {x : List RGr} {P : RGr → Prop} (h : (∀ m ∈ x, P m) ∧ x.length ≤ reachBytes) (hP : ∀ m, P m → OkG (toGr m)) : (∀ g ∈ x.map toGr, OkG g) ∧ (x.map toGr).length ≤ 140737488355328 := by
  have h2 := h.2
  unfold reachBytes at h2
  refine ⟨fun g hg => ?_, by rw [List.length_map]; omega⟩
  obtain ⟨m, hm, rfl⟩ := List.mem_map.1 hg
  exact hP m (h.1 m hm)
end Go.Sj.Can

end
section
/-
  The law IncrementalNew: the walk, and how its argument is read.
-/
namespace Go.Proofs.YtddohheabpiljaaGreat
open Go.Sj Go.Sj.Typ Go.Sj.Sta Go.Sj.Inc
set_option maxRecDepth 8000
set_option linter.unusedVariables false
set_option linter.unusedSimpArgs false
set_option maxHeartbeats 16000000

/-- A type graph with patterns and a graph. -/
abbrev casA (t : Tys) (ps : List Gr) (g : Gr) (inj : Bool) : AV := .agg [nodsA t.nodes, edgsA t.edges, grsA ps, ints g.nodes, edsA g.edges, AB inj]
abbrev RCas := RTys × List RGr × RGr × Bool × Unit
def gCas (x : RCas) : List AV := gTys x.1 ++ ([.im 2 (x.2.1.map gGr)] ++ (gGr x.2.2.1 ++ ([.lit (.bool x.2.2.2.1)] ++ [])))
theorem gTys_eq (x : RTys) : gTys x = [nodsA (toTys x).nodes, edgsA (toTys x).edges] := by
  show [AV.im 4 (x.1.map gNod), AV.im 7 (x.2.1.map gEdg)] = [AV.im 4 ((x.1.map toNod).map cNod), AV.im 7 ((x.2.1.map toEdg).map cEdg)]
  rw [gNod_eq, gEdg_eq, List.map_map, List.map_map]; rfl
theorem gGrs_eq (x : List RGr) : x.map gGr = (x.map toGr).map cGr := by
  rw [List.map_map]
  exact List.map_congr_left fun y _ => gGr_eq y
theorem cas_vr {σ : Hp} {v : Value} {x : RCas} (h : VR σ (.agg (gCas x)) v) : VR σ (casA (toTys x.1) (x.2.1.map toGr) (toGr x.2.2.1) x.2.2.2.1) v := by
  unfold gCas at h
  rw [gTys_eq, gGr_eq, gGrs_eq] at h
  exact h
theorem newR_ok {t : Tys} {ps : List Gr} {g : Gr} {inj : Bool} (hps : ∀ p ∈ ps, OkG p) (hl : ps.length ≤ 140737488355328) (hg : OkG g) (he : (newR t ps g inj).2 = 0) :
    newR t ps g inj = (⟨ps, g, inj, matsL t ps g inj⟩, 0) ∧ matsE t ps g inj = 0 := by
  unfold newR at he ⊢
  split at he
  · rename_i h; exact absurd he h
  · rename_i h
    rw [if_neg h]
    exact ⟨rfl, Decidable.not_not.1 h⟩
theorem newR_err {t : Tys} {ps : List Gr} {g : Gr} {inj : Bool} (he : (newR t ps g inj).2 ≠ 0) : (newR t ps g inj).1 = ⟨[], ⟨[], []⟩, false, []⟩ := by
  unfold newR at he ⊢
  split at he
  · rename_i h; rw [if_pos h]
  · exact absurd rfl he
theorem allR_gv {t : Tys} {p g : Gr} {inj : Bool} (h : (allR t p g inj).2 = 0) : GV p ∧ GV g := ⟨(validS_zero (allR_zero h)).2.1, (validS_zero (allR_zero h)).2.2.1⟩
theorem newR_wat {t : Tys} {ps : List Gr} {g : Gr} {inj : Bool} (hps : ∀ p ∈ ps, OkG p) (hl : ps.length ≤ 140737488355328) (hg : OkG g) (he : matsE t ps g inj = 0) : WatOk ⟨ps, g, inj, matsL t ps g inj⟩ := by
  obtain ⟨hG, h5, hall⟩ := matsE_zero he
  exact ⟨hps, hl, hg, matsL_le t ps g inj, by show (matsL t ps g inj).length ≤ _; unfold matsL; rw [List.length_map]; omega⟩
theorem gSameN_spec (t : Tys) (ps : List Gr) (g : Gr) (inj : Bool) (hps : ∀ p ∈ ps, OkG p) (hl : ps.length ≤ 140737488355328) (hg : OkG g) : Pure Tryz.prog 14 [watA (newR t ps g inj).1, watA (newR t ps g inj).1] (AB true) := by
  by_cases he : (newR t ps g inj).2 = 0
  · obtain ⟨h1, h2⟩ := newR_ok hps hl hg he
    obtain ⟨hG, h5, hall⟩ := matsE_zero h2
    rw [h1]
    refine gSameW_spec _ (matsL_le t ps g inj) ?_ (fun p hp => ?_) (by show ps.length ≤ _; omega) ⟨?_, ?_⟩
    · show (matsL t ps g inj).length ≤ _
      unfold matsL
      rw [List.length_map]
      omega
    · have := (allR_gv (hall p hp)).1
      have h1 := this.nl
      have h2 := this.el
      exact ⟨by omega, by omega⟩
    · have := hG.nl
      show g.nodes.length ≤ _
      omega
    · have := hG.el
      show g.edges.length ≤ _
      omega
  · rw [newR_err he]
    exact gSameW_spec _ (fun l h => by cases h) (Nat.zero_le _) (fun p h => by cases h) (Nat.zero_le _) ⟨Nat.zero_le _, Nat.zero_le _⟩
theorem IncrementalNew_spec (t : Tys) (ps : List Gr) (g : Gr) (inj : Bool) (ht : OkT t) (hp : (∀ p ∈ ps, OkG p) ∧ ps.length ≤ 140737488355328) (hg : OkG g) : Pure Tryz.prog 3 [casA t ps g inj] (AB true) := by
  have sa := awakeI_spec
  have sl := light20_spec t ht ps g hp.1 hp.2 hg
  have ss := gSameN_spec t ps g inj hp.1 hp.2 hg
  have sn := fun h => inew_spec t h ps g inj hp.1 hp.2 hg
  have sm := fun h => gnew_spec t h ps g inj hp.1 hp.2 hg
  have sv : ∀ (h : Small t), (newR t ps g inj).2 = 0 → Pure Tryz.prog 15 [tysA t, watA (newR t ps g inj).1] (AI 0) := fun h he => by
    obtain ⟨h1, h2⟩ := newR_ok hp.1 hp.2 hg he
    have h3 := ivalid_spec t h ⟨ps, g, inj, matsL t ps g inj⟩ (newR_wat hp.1 hp.2 hg h2)
    unfold wvalE at h3
    rw [h1]
    rw [if_neg (by rw [h2]; decide), if_pos rfl] at h3
    exact h3
  generalize newR t ps g inj = r at *
  obtain ⟨w, e⟩ := r
  obtain ⟨wp, ⟨wn, we⟩, wi, wm⟩ := w
  obtain ⟨gn, ge⟩ := g
  obtain ⟨tn, te⟩ := t
  change Pure _ _ [.agg [nodsA tn, edgsA te, grsA ps, ints gn, edsA ge, AB inj]] _
  change Go.Sj.ACalls _ _ [.agg [nodsA tn, edgsA te], grsA ps, .agg [ints gn, edsA ge]] _ _ at sl
  change ∀ h, Pure _ _ [.agg [nodsA tn, edgsA te], grsA ps, .agg [ints gn, edsA ge], AB inj] (.tup [.agg [grsA wp, ints wn, edsA we, AB wi, mssA wm], AI e]) at sn
  change ∀ h, Pure _ _ [.agg [nodsA tn, edgsA te], grsA ps, .agg [ints gn, edsA ge], AB inj] (.tup [.agg [grsA wp, ints wn, edsA we, AB wi, mssA wm], AI e]) at sm
  change Pure _ _ [.agg [grsA wp, ints wn, edsA we, AB wi, mssA wm], .agg [grsA wp, ints wn, edsA we, AB wi, mssA wm]] _ at ss
  change ∀ h, e = 0 → Pure _ _ [.agg [nodsA tn, edgsA te], .agg [grsA wp, ints wn, edsA we, AB wi, mssA wm]] _ at sv
  refine a_enter Tryz.func3 (by kernel_rfl) rfl Tryz.ntmps3 rfl (by simp) ?_
  refine a_seq ?_
  refine a_reg ?_
  repeat (first | refine gZ pk ?_ | (show AL _ _ _ _ _ _ _; first | refine jB (fun u => ?_)))
  refine a_frzBox 0 1 rfl rfl ?_
  repeat (first | refine gA pk ?_ | (show AL _ _ _ _ _ _ _; first | refine jP sa ?_ | refine s_call (Lc := []) (Lr := []) rfl rfl rfl rfl rfl sl (SubL.of_eq rfl) (List.Perm.refl _) ?_; rintro _ _ ⟨⟨b1, rfl, hb1⟩, rfl⟩))
  cases b1 with
  | false =>
    repeat (first | refine gA pk ?_ | (show AL _ _ _ _ _ _ _; first | refine jP sa ?_))
    refine finQ ?_
    exact ⟨rfl, rfl⟩
  | true =>
    have hs := hb1 rfl
    replace sn := sn hs
    replace sm := sm hs
    replace sv := sv hs
    by_cases he : e = 0
    · subst he
      replace sv := sv rfl
      repeat (first | refine gA pk ?_ | (show AL _ _ _ _ _ _ _; first | refine jP sn ?_ | refine jP sm ?_ | refine jP ss ?_ | refine jP sv ?_ | refine jL tok (fun ux => ?_) | refine jS tok 0 ?_ | refine jO tok 0 ?_ | refine jO tok 1 ?_))
      refine finQ ?_
      exact ⟨rfl, rfl⟩
    · clear sv
      repeat (first | refine gA pk ?_ | (show AL _ _ _ _ _ _ _; first | refine jP sn ?_ | refine jP sm ?_ | refine jP ss ?_ | refine jL tok (fun ux => ?_) | refine jS tok 0 ?_ | refine jO tok 0 ?_ | refine jO tok 1 ?_))
      refine finQ ?_
      exact ⟨rfl, rfl⟩
end Go.Proofs.YtddohheabpiljaaGreat

end
