/-
  Parts of the proof of the law IncrementalOpposite (texts Y19, W63): steps, plain mathematics, contracts of functions. Each theorem states its own conditions.
-/
import Derived.Test.YtddohheabpiljaaGreatB07
import Derived.Test.YtddohheabpiljaaGreatB09
import Derived.Test.YtddohheabpiljaaGreatB24
import Derived.Test.YtddohheabpiljaaGreatB49
section
/-
  Few, the example of the chapter, awake: the walks.
-/
namespace Go.Proofs.YtddohheabpiljaaGreat
open Go.Sj Go.Sj.Typ
set_option maxRecDepth 8000
set_option linter.unusedVariables false
set_option maxHeartbeats 4000000

def exTys : Tys := ⟨[⟨⟨#[65, 99, 99, 111, 117, 110, 116]⟩, -1, true, [⟨⟨#[98, 97, 108, 97, 110, 99, 101]⟩, -1000, 1000, []⟩]⟩, ⟨⟨#[67, 97, 115, 104]⟩, 0, false, []⟩,
  ⟨⟨#[76, 111, 97, 110]⟩, 0, false, [⟨⟨#[115, 116, 97, 116, 101]⟩, 0, 1, [⟨#[111, 112, 101, 110]⟩, ⟨#[99, 108, 111, 115, 101, 100]⟩]⟩]⟩, ⟨⟨#[80, 101, 114, 115, 111, 110]⟩, -1, false, []⟩],
  [⟨⟨#[111, 119, 110, 115]⟩, 3, 0, 0, -1, 1, 1⟩, ⟨⟨#[112, 97, 121, 115]⟩, 1, 1, 0, -1, 0, -1⟩]⟩
theorem exSmall : Small exTys := ⟨by decide, by decide, by decide, by decide⟩
def exRaw : AV := .agg [.im 4 [[AS ⟨#[65, 99, 99, 111, 117, 110, 116]⟩, AI (-1), AB true, .im 4 [[AS ⟨#[98, 97, 108, 97, 110, 99, 101]⟩, AI (-1000), AI 1000, .lit (.slice none 0 0)]]],
  [AS ⟨#[67, 97, 115, 104]⟩, AI 0, AB false, .lit (.slice none 0 0)],
  [AS ⟨#[76, 111, 97, 110]⟩, AI 0, AB false, .im 4 [[AS ⟨#[115, 116, 97, 116, 101]⟩, AI 0, AI 1, .im 1 [[AS ⟨#[111, 112, 101, 110]⟩], [AS ⟨#[99, 108, 111, 115, 101, 100]⟩]]]]],
  [AS ⟨#[80, 101, 114, 115, 111, 110]⟩, AI (-1), AB false, .lit (.slice none 0 0)]],
  .im 7 [[AS ⟨#[111, 119, 110, 115]⟩, AI 3, AI 0, AI 0, AI (-1), AI 1, AI 1], [AS ⟨#[112, 97, 121, 115]⟩, AI 1, AI 1, AI 0, AI (-1), AI 0, AI (-1)]]]
theorem exSub : Sub exRaw (tysA exTys) :=
  Sub.agg ⟨Sub.im ⟨⟨Sub.refl _, Sub.refl _, Sub.refl _, Sub.im ⟨⟨Sub.refl _, Sub.refl _, Sub.refl _, Sub.nil 1, trivial⟩, trivial⟩, trivial⟩,
    ⟨Sub.refl _, Sub.refl _, Sub.refl _, Sub.nil 4, trivial⟩, ⟨Sub.refl _, Sub.refl _, Sub.refl _, Sub.refl _, trivial⟩, ⟨Sub.refl _, Sub.refl _, Sub.refl _, Sub.nil 4, trivial⟩, trivial⟩, Sub.refl _, trivial⟩
theorem Example_spec : Pure Tryz.prog 31 [] (tysA exTys) := by
  refine a_enterC Tryz.func31 (by kernel_rfl) rfl Tryz.ntmps31 rfl (tok _ _ rfl) (by simp) ?_
  repeat (first | refine gV pk ?_ | (show AL _ _ _ _ _ _ _; first | refine jL tok (fun u => ?_) | refine s_frzNow 0 rfl rfl rfl (s_build tok rfl rfl rfl rfl rfl rfl rfl rfl (by decide) (by decide) (fun v => AL.nil ⟨v, rfl, rfl, rfl⟩)) ?_ | refine jS tok 0 ?_))
  refine a_frzBox 0 0 rfl rfl ?_
  refine a_ret ?_
  exact ⟨.inr rfl, _, exRaw, _, _, rfl, rfl, Turn.of exSub (OSub.refl _), rfl, rfl⟩
end Go.Proofs.YtddohheabpiljaaGreat

end
section
/-
  Watches: the chapter's example.
-/
namespace Go.Proofs.YtddohheabpiljaaGreat
open Go.Sj Go.Sj.Typ Go.Sj.Sta Go.Sj.Inc
set_option maxRecDepth 8000
set_option linter.unusedVariables false
set_option linter.unusedSimpArgs false
set_option maxHeartbeats 16000000

def exP : Gr := ⟨[1, 1], [⟨1, 0, 1⟩]⟩
def exG : Gr := ⟨[1], []⟩
def exH : Gr := ⟨[1], [⟨1, 0, 0⟩]⟩
theorem exNew0 : matsE exTys [exP] exG false = 0 := by decide +kernel
theorem exNew1 : matsL exTys [exP] exG false = [[]] := by decide +kernel
theorem exFre1 : (freI exTys exP exH true false 0) = ([([0, 0], [0])], 0) := by decide +kernel
theorem exEdit : editE exG ⟨2, 0, 1, 0, 0⟩ 4 2 = 0 := by decide +kernel
theorem exPV : GV exP := gvalid_zero.1 (by decide +kernel)
theorem exHV : GV exH := gvalid_zero.1 (by decide +kernel)
abbrev exW : Wat := ⟨[exP], exG, false, [[]]⟩
abbrev exV : Wat := ⟨[exP], exH, false, [[([0, 0], [0])]]⟩
theorem exNew : newR exTys [exP] exG false = (exW, 0) := by
  unfold newR
  rw [exNew0, exNew1]
  rfl
theorem exVal : wvalE exTys exW = 0 := by
  unfold wvalE
  rw [exNew0, exNew1]
  rfl
theorem exFreC : freC exTys exP exH true false = [([0, 0], [0])] := by
  show (List.range 1).flatMap (fun i => (freI exTys exP exH true false i).1) = _
  show (freI exTys exP exH true false 0).1 ++ [] = _
  rw [exFre1]
  rfl
theorem ext_le (t : Tys) (p g : Gr) (a b : List Int) (inj : Bool) : (extR t p g a b inj).1.length ≤ 5000 := by
  unfold extR capR
  repeat' split
  all_goals first | exact Nat.zero_le _ | (simp only; omega)
theorem exFresh : Pure Tryz.prog 66 [tysA exTys, grA exP, grA exH, AB true, AB false] (.tup [mosA [([0, 0], [0])], AI 0]) :=
  fresh_spec exTys exSmall exP exH exPV exHV true false (fun i hi => by
    have : i = 0 := by
      have : i < 1 := hi
      omega
    subst this
    rw [exFre1]) (by rw [exFreC]; decide) (fun i => ext_le _ _ _ _ _ _) [([0, 0], [0])] [([0, 0], [0])] (by rw [exFreC]; exact fun v => sort1_spec v _ _ (by decide)) (fun v => (compact1_spec v _ _ (by decide)).mono fun y M h => ⟨v, h.1, h.2⟩)
theorem exMerged : Gives Tryz.prog 67 [mosA [], mosA [([0, 0], [0])]] 95 2 (([([0, 0], [0])] : List Mo).map cMo) :=
  merged_spec [] [([0, 0], [0])] [([0, 0], [0])] (by decide) (by decide) (fun v => sort1_spec v _ _ (by decide))
theorem exMoB : ∀ x ∈ ([([0, 0], [0])] : List Mo), MoB x := fun x hx => by
  have : x = ([0, 0], [0]) := by simpa using hx
  subst this
  exact ⟨by decide, by decide⟩
theorem exWOk : WatOk exW := ⟨fun p hp => by
  have : p = exP := by simpa using hp
  subst this
  exact ⟨by decide, by decide⟩, by decide, ⟨by decide, by decide⟩, fun l hl => by
  have : l = [] := by simpa using hl
  subst this
  exact ⟨by decide, by simp⟩, by decide⟩
theorem exEd : Pure Tryz.prog 54 [grA exG, .agg [AI 2, AI 0, AI 1, AI 0, AI 0], AI (exTys.nodes.map cNod).length, AI (exTys.edges.map cEdg).length] (AI 0) := by
  have h := iedit_spec exG ⟨by decide, by decide⟩ (by decide) ⟨2, 0, 1, 0, 0⟩ ((exTys.nodes.map cNod).length : Nat) ((exTys.edges.map cEdg).length : Nat)
  have h0 : editE exG ⟨2, 0, 1, 0, 0⟩ ((exTys.nodes.map cNod).length : Nat) ((exTys.edges.map cEdg).length : Nat) = 0 := exEdit
  rw [h0] at h
  exact h
theorem exApply : Pure Tryz.prog 17 [tysA exTys, watA exW, .agg [AI 2, AI 0, AI 1, AI 0, AI 0]] (.tup [watA exV, .im 2 (([[([0, 0], [0])]] : List (List Mo)).map cDelN), AI 0]) :=
  iApply_spec exTys exW exV 2 0 1 0 0 _ (by have h := ivalid_spec exTys exSmall exW exWOk; rw [exVal] at h; exact h)
    (iapplyA_spec exTys exSmall exW 2 0 1 0 0 true (.inr ⟨rfl, rfl⟩) exH [[([0, 0], [0])]] [[([0, 0], [0])]] (by decide) (fun p hp => by
      have : p = exP := by simpa using hp
      subst this
      exact ⟨by decide, by decide⟩) rfl rfl rfl exEd (ieditedE_spec exG (by decide) (by decide) 0 1 0 0) (fun j p hp => by
      have hj : j = 0 := by
        have h1 := (List.getElem?_eq_some_iff.1 hp).1
        have h2 : j < 1 := h1
        omega
      subst hj
      have hp' : p = exP := by
        have h3 : some exP = some p := hp
        cases h3
        rfl
      subst hp'
      exact ⟨[([0, 0], [0])], [], [([0, 0], [0])], rfl, rfl, rfl, by decide, by decide, exMoB, exMoB, exFresh, exMerged⟩))
theorem awakeI_spec : Pure Tryz.prog 10 [] (AB true) := by
  have s0 := Example_spec
  have s1 := Pure.subA (inew_spec exTys exSmall [exP] exG false (fun p hp => by
      have : p = exP := by simpa using hp
      subst this
      exact ⟨by decide, by decide⟩) (by decide) ⟨by decide, by decide⟩) (args' := [tysA exTys, grsA [exP], .agg [ints [1], nilS], AB false]) ⟨Sub.refl _, Sub.refl _, Sub.agg (m := [ints [1], edsA []]) ⟨Sub.refl _, Sub.nil 3, trivial⟩, Sub.refl _, trivial⟩
  rw [exNew] at s1
  have s2 := exApply
  have ka : (([[]] : List (List Mo)).map cMos)[(0 : Int).toNat]? = some [mosA []] := rfl
  have kb : (([[([0, 0], [0])]] : List (List Mo)).map cMos)[(0 : Int).toNat]? = some [mosA [([0, 0], [0])]] := rfl
  have kc : (([[([0, 0], [0])]] : List (List Mo)).map cDelN)[(0 : Int).toNat]? = some [mosA [([0, 0], [0])], mosA []] := rfl
  generalize exTys.nodes = N at *
  generalize exTys.edges = E at *
  refine a_enter Tryz.func10 (by kernel_rfl) rfl Tryz.ntmps10 rfl (by simp) ?_
  repeat (first | refine gA pk ?_ | (show AL _ _ _ _ _ _ _; first | refine jP s0 ?_ | refine jP s1 ?_ | refine jP s2 ?_ | refine s_frzNow 0 rfl rfl rfl (s_build tok rfl rfl rfl rfl rfl rfl rfl rfl (by decide) (by decide) (fun v => AL.nil ⟨v, rfl, rfl, rfl⟩)) ?_ | refine jL tok (fun u => ?_) | refine jS tok 0 ?_ | refine jO tok 0 ?_ | refine jO tok 1 ?_ | refine jO tok 2 ?_ | refine jO tok 3 ?_ | refine jX tok ka ?_ | refine jX tok kb ?_ | refine jX tok kc ?_))
  refine finQ ?_
  exact ⟨rfl, rfl⟩
end Go.Proofs.YtddohheabpiljaaGreat

end
