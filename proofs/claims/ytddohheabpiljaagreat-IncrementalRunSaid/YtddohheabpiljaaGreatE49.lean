/- Parts of a proof. -/
import Derived.Test.YtddohheabpiljaaGreatE04
import Derived.Test.YtddohheabpiljaaGreatE48
set_option linter.unusedVariables false
set_option linter.unusedSimpArgs false
section
namespace Go.Proofs.YtddohheabpiljaaGreat
open Go.Sj Go.Sj.Typ
set_option maxRecDepth 8000
set_option maxHeartbeats 4000000
def exTys : Tys := ⟨[⟨⟨#[65, 99, 99, 111, 117, 110, 116]⟩, -1, true, [⟨⟨#[98, 97, 108, 97, 110, 99, 101]⟩, -1000, 1000, []⟩]⟩, ⟨⟨#[67, 97, 115, 104]⟩, 0, false, []⟩,
  ⟨⟨#[76, 111, 97, 110]⟩, 0, false, [⟨⟨#[115, 116, 97, 116, 101]⟩, 0, 1, [⟨#[111, 112, 101, 110]⟩, ⟨#[99, 108, 111, 115, 101, 100]⟩]⟩]⟩, ⟨⟨#[80, 101, 114, 115, 111, 110]⟩, -1, false, []⟩],
  [⟨⟨#[111, 119, 110, 115]⟩, 3, 0, 0, -1, 1, 1⟩, ⟨⟨#[112, 97, 121, 115]⟩, 1, 1, 0, -1, 0, -1⟩]⟩
theorem exSmall : Small exTys := ⟨by decide, by decide, by decide, by decide⟩
def exRaw : AV := .agg [.im 4 [[AS ⟨#[65, 99, 99, 111, 117, 110, 116]⟩, AI (-1), AB true, .im 4 [[AS ⟨#[98, 97, 108, 97, 110, 99, 101]⟩, AI (-1000), AI 1000, .lit (.slice none 0 0)]]],
  [AS ⟨#[67, 97, 115, 104]⟩, AI 0, AB false, .lit (.slice none 0 0)],
  [AS ⟨#[76, 111, 97, 110]⟩, AI 0, AB false, .im 4 [[AS ⟨#[115, 116, 97, 116, 101]⟩, AI 0, AI 1, .im 1 [[AS ⟨#[111, 112, 101, 110]⟩], [AS ⟨#[99, 108, 111, 115, 101, 100]⟩]]]]],
  [AS ⟨#[80, 101, 114, 115, 111, 110]⟩, AI (-1), AB false, .lit (.slice none 0 0)]],
  .im 7 [[AS ⟨#[111, 119, 110, 115]⟩, AI 3, AI 0, AI 0, AI (-1), AI 1, AI 1], [AS ⟨#[112, 97, 121, 115]⟩, AI 1, AI 1, AI 0, AI (-1), AI 0, AI (-1)]]]
theorem exSub : Sub exRaw (tysA exTys) :=
  Sub.agg ⟨Sub.im ⟨⟨Sub.refl _, Sub.refl _, Sub.refl _, Sub.im ⟨⟨Sub.refl _, Sub.refl _, Sub.refl _, Sub.nil 1, trivial⟩, trivial⟩, trivial⟩,
    ⟨Sub.refl _, Sub.refl _, Sub.refl _, Sub.nil 4, trivial⟩, ⟨Sub.refl _, Sub.refl _, Sub.refl _, Sub.refl _, trivial⟩, ⟨Sub.refl _, Sub.refl _, Sub.refl _, Sub.nil 4, trivial⟩, trivial⟩, Sub.refl _, trivial⟩
theorem Example_spec : Pure Tryz.prog 31 [] (tysA exTys) := by
  refine a_enterC Tryz.func31 (by kernel_rfl) rfl Tryz.ntmps31 rfl (tok _ _ rfl) (by simp) ?_
  repeat (first | refine gV pk ?_ | (show AL _ _ _ _ _ _ _; first | refine jL tok (fun u => ?_) | refine s_frzNow 0 rfl rfl rfl (s_build tok rfl rfl rfl rfl rfl rfl rfl rfl (by decide) (by decide) (fun v => AL.nil ⟨v, rfl, rfl, rfl⟩)) ?_ | refine jS tok 0 ?_))
  refine a_frzBox 0 0 rfl rfl ?_
  refine a_ret ?_
  exact ⟨.inr rfl, _, exRaw, _, _, rfl, rfl, Turn.of exSub (OSub.refl _), rfl, rfl⟩
end Go.Proofs.YtddohheabpiljaaGreat
end
section
namespace Go.Proofs.YtddohheabpiljaaGreat
open Go.Sj Go.Sj.Typ Go.Sj.Sta Go.Sj.Inc
set_option maxRecDepth 8000
set_option maxHeartbeats 16000000
def exP : Gr := ⟨[1, 1], [⟨1, 0, 1⟩]⟩
def exG : Gr := ⟨[1], []⟩
def exH : Gr := ⟨[1], [⟨1, 0, 0⟩]⟩
theorem exNew0 : matsE exTys [exP] exG false = 0 := by decide +kernel
theorem exNew1 : matsL exTys [exP] exG false = [[]] := by decide +kernel
theorem exFre1 : (freI exTys exP exH true false 0) = ([([0, 0], [0])], 0) := by decide +kernel
theorem exEdit : editE exG ⟨2, 0, 1, 0, 0⟩ 4 2 = 0 := by decide +kernel
theorem exPV : GV exP := gvalid_zero.1 (by decide +kernel)
theorem exHV : GV exH := gvalid_zero.1 (by decide +kernel)
abbrev exW : Wat := ⟨[exP], exG, false, [[]]⟩
abbrev exV : Wat := ⟨[exP], exH, false, [[([0, 0], [0])]]⟩
theorem exNew : newR exTys [exP] exG false = (exW, 0) := by
  unfold newR
  rw [exNew0, exNew1]
  rfl
theorem exVal : wvalE exTys exW = 0 := by
  unfold wvalE
  rw [exNew0, exNew1]
  rfl
theorem exFreC : freC exTys exP exH true false = [([0, 0], [0])] := by
  show (List.range 1).flatMap (fun i => (freI exTys exP exH true false i).1) = _
  show (freI exTys exP exH true false 0).1 ++ [] = _
  rw [exFre1]
  rfl
theorem ext_le (t : Tys) (p g : Gr) (a b : List Int) (inj : Bool) : (extR t p g a b inj).1.length ≤ 5000 := by
  unfold extR capR
  repeat' split
  all_goals first | exact Nat.zero_le _ | (simp only; omega)
theorem exFresh : Pure Tryz.prog 66 [tysA exTys, grA exP, grA exH, AB true, AB false] (.tup [mosA [([0, 0], [0])], AI 0]) :=
  fresh_spec exTys exSmall exP exH exPV exHV true false (fun i hi => by
    have : i = 0 := by
      have : i < 1 := hi
      omega
    subst this
    rw [exFre1]) (by rw [exFreC]; decide) (fun i => ext_le _ _ _ _ _ _) [([0, 0], [0])] [([0, 0], [0])] (by rw [exFreC]; exact fun v => sort1_spec v _ _ (by decide)) (fun v => (compact1_spec v _ _ (by decide)).mono fun y M h => ⟨v, h.1, h.2⟩)
theorem exMerged : Gives Tryz.prog 67 [mosA [], mosA [([0, 0], [0])]] 95 2 (([([0, 0], [0])] : List Mo).map cMo) :=
  merged_spec [] [([0, 0], [0])] [([0, 0], [0])] (by decide) (by decide) (fun v => sort1_spec v _ _ (by decide))
theorem exMoB : ∀ x ∈ ([([0, 0], [0])] : List Mo), MoB x := fun x hx => by
  have : x = ([0, 0], [0]) := by simpa using hx
  subst this
  exact ⟨by decide, by decide⟩
theorem exWOk : WatOk exW := ⟨fun p hp => by
  have : p = exP := by simpa using hp
  subst this
  exact ⟨by decide, by decide⟩, by decide, ⟨by decide, by decide⟩, fun l hl => by
  have : l = [] := by simpa using hl
  subst this
  exact ⟨by decide, by simp⟩, by decide⟩
theorem exEd : Pure Tryz.prog 54 [grA exG, .agg [AI 2, AI 0, AI 1, AI 0, AI 0], AI (exTys.nodes.map cNod).length, AI (exTys.edges.map cEdg).length] (AI 0) := by
  have h := iedit_spec exG ⟨by decide, by decide⟩ (by decide) ⟨2, 0, 1, 0, 0⟩ ((exTys.nodes.map cNod).length : Nat) ((exTys.edges.map cEdg).length : Nat)
  have h0 : editE exG ⟨2, 0, 1, 0, 0⟩ ((exTys.nodes.map cNod).length : Nat) ((exTys.edges.map cEdg).length : Nat) = 0 := exEdit
  rw [h0] at h
  exact h
theorem exApply : Pure Tryz.prog 17 [tysA exTys, watA exW, .agg [AI 2, AI 0, AI 1, AI 0, AI 0]] (.tup [watA exV, .im 2 (([[([0, 0], [0])]] : List (List Mo)).map cDelN), AI 0]) :=
  iApply_spec exTys exW exV 2 0 1 0 0 _ (by have h := ivalid_spec exTys exSmall exW exWOk; rw [exVal] at h; exact h)
    (iapplyA_spec exTys exSmall exW 2 0 1 0 0 true (.inr ⟨rfl, rfl⟩) exH [[([0, 0], [0])]] [[([0, 0], [0])]] (by decide) (fun p hp => by
      have : p = exP := by simpa using hp
      subst this
      exact ⟨by decide, by decide⟩) rfl rfl rfl exEd (ieditedE_spec exG (by decide) (by decide) 0 1 0 0) (fun j p hp => by
      have hj : j = 0 := by
        have h1 := (List.getElem?_eq_some_iff.1 hp).1
        have h2 : j < 1 := h1
        omega
      subst hj
      have hp' : p = exP := by
        have h3 : some exP = some p := hp
        cases h3
        rfl
      subst hp'
      exact ⟨[([0, 0], [0])], [], [([0, 0], [0])], rfl, rfl, rfl, by decide, by decide, exMoB, exMoB, exFresh, exMerged⟩))
theorem awakeI_spec : Pure Tryz.prog 10 [] (AB true) := by
  have s0 := Example_spec
  have s1 := Pure.subA (inew_spec exTys exSmall [exP] exG false (fun p hp => by
      have : p = exP := by simpa using hp
      subst this
      exact ⟨by decide, by decide⟩) (by decide) ⟨by decide, by decide⟩) (args' := [tysA exTys, grsA [exP], .agg [ints [1], nilS], AB false]) ⟨Sub.refl _, Sub.refl _, Sub.agg (m := [ints [1], edsA []]) ⟨Sub.refl _, Sub.nil 3, trivial⟩, Sub.refl _, trivial⟩
  rw [exNew] at s1
  have s2 := exApply
  have ka : (([[]] : List (List Mo)).map cMos)[(0 : Int).toNat]? = some [mosA []] := rfl
  have kb : (([[([0, 0], [0])]] : List (List Mo)).map cMos)[(0 : Int).toNat]? = some [mosA [([0, 0], [0])]] := rfl
  have kc : (([[([0, 0], [0])]] : List (List Mo)).map cDelN)[(0 : Int).toNat]? = some [mosA [([0, 0], [0])], mosA []] := rfl
  generalize exTys.nodes = N at *
  generalize exTys.edges = E at *
  refine a_enter Tryz.func10 (by kernel_rfl) rfl Tryz.ntmps10 rfl (by simp) ?_
  repeat (first | refine gA pk ?_ | (show AL _ _ _ _ _ _ _; first | refine jP s0 ?_ | refine jP s1 ?_ | refine jP s2 ?_ | refine s_frzNow 0 rfl rfl rfl (s_build tok rfl rfl rfl rfl rfl rfl rfl rfl (by decide) (by decide) (fun v => AL.nil ⟨v, rfl, rfl, rfl⟩)) ?_ | refine jL tok (fun u => ?_) | refine jS tok 0 ?_ | refine jO tok 0 ?_ | refine jO tok 1 ?_ | refine jO tok 2 ?_ | refine jO tok 3 ?_ | refine jX tok ka ?_ | refine jX tok kb ?_ | refine jX tok kc ?_))
  refine finQ ?_
  exact ⟨rfl, rfl⟩
end Go.Proofs.YtddohheabpiljaaGreat
end
section
namespace Go.Proofs.YtddohheabpiljaaGreat
open Go.Sj Go.Sj.Typ
set_option maxRecDepth 8000
set_option maxHeartbeats 4000000
abbrev RAtt := ByteArray × Int × Int × List ByteArray × Unit
abbrev RNod := ByteArray × Int × Bool × List RAtt × Unit
abbrev REdg := ByteArray × Int × Int × Int × Int × Int × Int × Unit
abbrev RTys := List RNod × List REdg × Unit
def toAtt (x : RAtt) : Att := ⟨x.1, x.2.1, x.2.2.1, x.2.2.2.1⟩
def toNod (x : RNod) : Nod := ⟨x.1, x.2.1, x.2.2.1, x.2.2.2.1.map toAtt⟩
def toEdg (x : REdg) : Edg := ⟨x.1, x.2.1, x.2.2.1, x.2.2.2.1, x.2.2.2.2.1, x.2.2.2.2.2.1, x.2.2.2.2.2.2.1⟩
def toTys (x : RTys) : Tys := ⟨x.1.map toNod, x.2.1.map toEdg⟩
def gAtt (x : RAtt) : List AV := [.lit (.string x.1)] ++ ([.lit (.int .i64 x.2.1)] ++ ([.lit (.int .i64 x.2.2.1)] ++ ([.im 1 (x.2.2.2.1.map fun s => [.lit (.string s)])] ++ [])))
def gNod (x : RNod) : List AV := [.lit (.string x.1)] ++ ([.lit (.int .i64 x.2.1)] ++ ([.lit (.bool x.2.2.1)] ++ ([.im 4 (x.2.2.2.1.map gAtt)] ++ [])))
def gEdg (x : REdg) : List AV := [.lit (.string x.1)] ++ ([.lit (.int .i64 x.2.1)] ++ ([.lit (.int .i64 x.2.2.1)] ++ ([.lit (.int .i64 x.2.2.2.1)] ++ ([.lit (.int .i64 x.2.2.2.2.1)] ++ ([.lit (.int .i64 x.2.2.2.2.2.1)] ++ ([.lit (.int .i64 x.2.2.2.2.2.2.1)] ++ []))))))
def gTys (x : RTys) : List AV := [.im 4 (x.1.map gNod)] ++ ([.im 7 (x.2.1.map gEdg)] ++ [])
theorem gAtt_eq : gAtt = fun x => cAtt (toAtt x) := rfl
theorem gEdg_eq : gEdg = fun x => cEdg (toEdg x) := rfl
theorem gNod_eq : gNod = fun x => cNod (toNod x) := funext fun x => by
  show [AV.lit (.string x.1), AI x.2.1, AB x.2.2.1, .im 4 (x.2.2.2.1.map gAtt)] = [AV.lit (.string x.1), AI x.2.1, AB x.2.2.1, .im 4 ((x.2.2.2.1.map toAtt).map cAtt)]
  rw [gAtt_eq, List.map_map]; rfl
def okRN (okA : RAtt → Prop) (a : RNod) : Prop := a.1.size ≤ maxLen ∧ (Lit.int .i64 a.2.1).wf = true ∧ True ∧ ((∀ b ∈ a.2.2.2.1, okA b) ∧ a.2.2.2.1.length ≤ reachBytes) ∧ True
theorem tys_ok {x : RTys} {okA : RAtt → Prop} {p q : Prop} (h : ((∀ a ∈ x.1, okRN okA a) ∧ p) ∧ q) : OkT (toTys x) := fun n hn => by
  obtain ⟨a, ha, rfl⟩ := List.mem_map.1 hn
  have := (h.1.1 a ha).2.2.2.1.2
  simp only [toNod, List.length_map]
  unfold reachBytes at this
  omega
end Go.Proofs.YtddohheabpiljaaGreat
end
section
namespace Go.Proofs.YtddohheabpiljaaGreat
open Go.Sj Go.Sj.Typ Go.Sj.Sta Go.Sj.Inc
set_option maxRecDepth 8000
set_option maxHeartbeats 16000000
theorem gTys_eq (x : RTys) : gTys x = [nodsA (toTys x).nodes, edgsA (toTys x).edges] := by
  show [AV.im 4 (x.1.map gNod), AV.im 7 (x.2.1.map gEdg)] = [AV.im 4 ((x.1.map toNod).map cNod), AV.im 7 ((x.2.1.map toEdg).map cEdg)]
  rw [gNod_eq, gEdg_eq, List.map_map, List.map_map]; rfl
theorem gGrs_eq (x : List RGr) : x.map gGr = (x.map toGr).map cGr := by
  rw [List.map_map]
  exact List.map_congr_left fun y _ => gGr_eq y
theorem newR_ok {t : Tys} {ps : List Gr} {g : Gr} {inj : Bool} (hps : ∀ p ∈ ps, OkG p) (hl : ps.length ≤ 140737488355328) (hg : OkG g) (he : (newR t ps g inj).2 = 0) :
    newR t ps g inj = (⟨ps, g, inj, matsL t ps g inj⟩, 0) ∧ matsE t ps g inj = 0 := by
  unfold newR at he ⊢
  split at he
  · rename_i h; exact absurd he h
  · rename_i h
    rw [if_neg h]
    exact ⟨rfl, Decidable.not_not.1 h⟩
theorem newR_err {t : Tys} {ps : List Gr} {g : Gr} {inj : Bool} (he : (newR t ps g inj).2 ≠ 0) : (newR t ps g inj).1 = ⟨[], ⟨[], []⟩, false, []⟩ := by
  unfold newR at he ⊢
  split at he
  · rename_i h; rw [if_pos h]
  · exact absurd rfl he
theorem allR_gv {t : Tys} {p g : Gr} {inj : Bool} (h : (allR t p g inj).2 = 0) : GV p ∧ GV g := ⟨(validS_zero (allR_zero h)).2.1, (validS_zero (allR_zero h)).2.2.1⟩
theorem gSameN_spec (t : Tys) (ps : List Gr) (g : Gr) (inj : Bool) (hps : ∀ p ∈ ps, OkG p) (hl : ps.length ≤ 140737488355328) (hg : OkG g) : Pure Tryz.prog 14 [watA (newR t ps g inj).1, watA (newR t ps g inj).1] (AB true) := by
  by_cases he : (newR t ps g inj).2 = 0
  · obtain ⟨h1, h2⟩ := newR_ok hps hl hg he
    obtain ⟨hG, h5, hall⟩ := matsE_zero h2
    rw [h1]
    refine gSameW_spec _ (matsL_le t ps g inj) ?_ (fun p hp => ?_) (by show ps.length ≤ _; omega) ⟨?_, ?_⟩
    · show (matsL t ps g inj).length ≤ _
      unfold matsL
      rw [List.length_map]
      omega
    · have := (allR_gv (hall p hp)).1
      have h1 := this.nl
      have h2 := this.el
      exact ⟨by omega, by omega⟩
    · have := hG.nl
      show g.nodes.length ≤ _
      omega
    · have := hG.el
      show g.edges.length ≤ _
      omega
  · rw [newR_err he]
    exact gSameW_spec _ (fun l h => by cases h) (Nat.zero_le _) (fun p h => by cases h) (Nat.zero_le _) ⟨Nat.zero_le _, Nat.zero_le _⟩
end Go.Proofs.YtddohheabpiljaaGreat
end
section
namespace Go.Proofs.YtddohheabpiljaaGreat
open Go.Sj Go.Sj.Typ Go.Sj.Sta Go.Sj.Inc
set_option maxRecDepth 8000
set_option maxHeartbeats 16000000
theorem light17S_spec (t : Tys) (ht : OkT t) (p g : Gr) (hp : OkG p) (hg : OkG g) : Go.Sj.ACalls Tryz.prog 32 [tysA t, grA p, grA g] [] (fun y L => (∃ b, y = AB b ∧ (b = true → Small t ∧ g.nodes.length ≤ 45 ∧ g.edges.length ≤ 90)) ∧ L = []) := by
  have s1 := Few_spec t ht
  have s2 := gfew_spec p
  have s3 := gfew_spec g
  have s4 := fun (hs : Small t) => ggiven_spec t hs p g hp hg
  have lp := hp.1
  have lp2 := hp.2
  have lg := hg.1
  have lg2 := hg.2
  generalize decide (p.nodes.length ≤ 45 ∧ p.edges.length ≤ 90) = b2 at *
  obtain ⟨b3, hb3⟩ : ∃ b3, decide (g.nodes.length ≤ 45 ∧ g.edges.length ≤ 90) = b3 := ⟨_, rfl⟩
  rw [hb3] at s3
  have hb3e : b3 = true → g.nodes.length ≤ 45 ∧ g.edges.length ≤ 90 := fun h => of_decide_eq_true (by rw [hb3, h])
  clear hb3
  generalize validS t p g = e at *
  obtain ⟨pn, pe⟩ := p
  obtain ⟨gn, ge⟩ := g
  simp only at lp lp2 lg lg2 hb3e
  have l1 : (rowI pn).length = pn.length := by simp
  have l2 : (pe.map cEd).length = pe.length := by simp
  have l3 : (rowI gn).length = gn.length := by simp
  have l4 : (ge.map cEd).length = ge.length := by simp
  change Pure _ _ [.agg [ints pn, edsA pe]] _ at s2
  change Pure _ _ [.agg [ints gn, edsA ge]] _ at s3
  change ∀ _, Pure _ _ [tysA t, .agg [ints pn, edsA pe], .agg [ints gn, edsA ge]] _ at s4
  change Go.Sj.ACalls _ _ [tysA t, .agg [ints pn, edsA pe], .agg [ints gn, edsA ge]] _ _
  refine a_enter Tryz.func32 (by kernel_rfl) rfl Tryz.ntmps32 rfl (by simp) ?_
  refine a_seq ?_
  refine a_reg ?_
  repeat (first | refine gZ pk ?_ | (show AL _ _ _ _ _ _ _; first | refine jB (fun u => ?_)))
  refine a_frzBox 2 3 rfl rfl ?_
  refine a_frzBox 1 4 rfl rfl ?_
  refine a_frzBox 0 5 rfl rfl ?_
  repeat (first | refine gN pk ?_ | (show AL _ _ _ _ _ _ _; first | refine s_call (Lc := []) (Lr := []) rfl rfl rfl rfl rfl s1 (SubL.of_eq rfl) (List.Perm.refl _) ?_; rintro _ _ ⟨⟨b1, rfl, hb1⟩, rfl⟩))
  cases b1 with
  | false =>
    repeat (first | refine gA pk ?_)
    exact fin (x := .lit _) (.inr rfl) rfl (Sub.refl _) ⟨⟨_, rfl, fun h => (by cases h)⟩, rfl⟩ (OSub.none _)
  | true =>
    have hs := hb1 rfl
    replace s4 := s4 hs
    cases b2
    all_goals cases b3
    all_goals
      repeat' (first | refine gA pk ?_ | (show AL _ _ _ _ _ _ _; first | refine jP s2 ?_ | refine jP s3 ?_ | refine jP s4 ?_ | (refine s_cmp rfl rfl rfl rfl rfl rfl rfl (fun hb => ?_) (fun hb => ?_) <;> simp only [cmpP] at hb)) | fail)
      all_goals exact fin (x := .lit _) (.inr rfl) rfl (Sub.refl _) ⟨⟨_, rfl, fun h => by first | exact ⟨hs, hb3e rfl⟩ | exact absurd h (by decide)⟩, rfl⟩ (OSub.none _)
theorem light20S_spec (t : Tys) (ht : OkT t) (ps : List Gr) (g : Gr) (hps : ∀ p ∈ ps, OkG p) (hl : ps.length ≤ 140737488355328) (hg : OkG g) : Go.Sj.ACalls Tryz.prog 11 [tysA t, grsA ps, grA g] [] (fun y L => (∃ b, y = AB b ∧ (b = true → Small t ∧ ps.length ≤ 7 ∧ (∀ p ∈ ps, p.nodes.length + p.edges.length ≤ 5) ∧ g.nodes.length ≤ 45 ∧ g.edges.length ≤ 90)) ∧ L = []) := by
  have s0   := calls_subA (light17S_spec t ht ⟨[], []⟩ g ⟨by decide, by decide⟩ hg) (args' := [tysA t, .agg [nilS, nilS], grA g]) ⟨Sub.refl _, Sub.agg (m := [ints [], edsA []]) ⟨Sub.nil 1, Sub.nil 3, trivial⟩, Sub.refl _, trivial⟩
  have sp := fun (p : Gr) (hp : p ∈ ps) => light17S_spec t ht p g (hps p hp) hg
  have lps : (ps.map cGr).length = ps.length := by simp
  obtain ⟨gn, ge⟩ := g
  change Go.Sj.ACalls _ _ [tysA t, .agg [nilS, nilS], .agg [ints gn, edsA ge]] _ _ at s0
  change Go.Sj.ACalls _ _ [tysA t, grsA ps, .agg [ints gn, edsA ge]] _ _
  by_cases h7 : 7 < ps.length
  · refine a_enter Tryz.func11 (by kernel_rfl) rfl Tryz.ntmps11 rfl (by simp) ?_
    refine a_seq ?_
    refine a_reg ?_
    repeat (first | refine gZ pk ?_ | (show AL _ _ _ _ _ _ _; first | refine jB (fun u => ?_)))
    refine a_frzBox 1 3 rfl rfl ?_
    refine a_frzBox 0 5 rfl rfl ?_
    repeat (first | refine gA pk ?_)
    exact fin (x := .lit _) (.inr rfl) rfl (Sub.refl _) ⟨⟨_, rfl, fun h => (by cases h)⟩, rfl⟩ (OSub.none _)
  · refine a_enter Tryz.func11 (by kernel_rfl) rfl Tryz.ntmps11 rfl (by simp) ?_
    refine a_seq ?_
    refine a_reg ?_
    repeat (first | refine gZ pk ?_ | (show AL _ _ _ _ _ _ _; first | refine jB (fun u => ?_)))
    refine a_frzBox 1 3 rfl rfl ?_
    refine a_frzBox 0 5 rfl rfl ?_
    repeat (first | refine gN pk ?_ | (show AL _ _ _ _ _ _ _; first | refine s_call (Lc := []) (Lr := []) rfl rfl rfl rfl rfl s0 (SubL.of_eq rfl) (List.Perm.refl _) ?_; rintro _ _ ⟨⟨b1, rfl, hb1⟩, rfl⟩))
    cases b1 with
    | false =>
      repeat (first | refine gA pk ?_)
      exact fin (x := .lit _) (.inr rfl) rfl (Sub.refl _) ⟨⟨_, rfl, fun h => (by cases h)⟩, rfl⟩ (OSub.none _)
    | true =>
      have hs := hb1 rfl
      simp only at hs
      repeat (first | refine gA pk ?_)
      refine a_loopX (fun k : Nat => [(1, grsA ps), (3, tysP t), (5, .ip [ints gn, edsA ge]), (7, AI k)]) (fun _ => []) (fun k => k ≤ ps.length ∧ ∀ p ∈ ps.take k, p.nodes.length + p.edges.length ≤ 5) (fun k => ps.length - k) 0 ⟨Nat.zero_le _, fun p hp => by simp at hp⟩ ?_ (OSub.none _) ?_
      · exact subQ
      · rintro k ⟨hk, hfew⟩
        rcases Nat.lt_or_ge k ps.length with h | h
        · have h1 := List.getElem?_eq_getElem h
          have s1 := sp _ (List.getElem_mem h)
          have hpo := hps _ (List.getElem_mem h)
          generalize ps[k] = p at h1 s1 hpo
          have xk : (ps.map cGr)[(k : Int).toNat]? = some (cGr p) := map_get (f := cGr) h1
          have q1 := hpo.1
          have q2 := hpo.2
          obtain ⟨pn, pe⟩ := p
          simp only at q1 q2
          have l1 : (rowI pn).length = pn.length := by simp
          have l2 : (pe.map cEd).length = pe.length := by simp
          have xk : (ps.map cGr)[(k : Int).toNat]? = some [ints pn, edsA pe] := xk
          change Go.Sj.ACalls _ _ [tysA t, .agg [ints pn, edsA pe], .agg [ints gn, edsA ge]] _ _ at s1
          repeat (first | refine gN pk ?_)
          refine a_regG ((List.range 24).map fun i => if inL [6] i = true then .eff else if inL [0, 3, 4, 5, 11, 13, 14, 17, 19, 20] i = true then .read else .pure) [] [0, 1, 2, 3, 4, 5, 6, 7, 8, 9, 10, 11, 12, 13, 14, 15, 16, 17, 18, 19, 20, 21, 22, 23] .stop mixed rfl rfl (by decide +kernel) ?_
          repeat' (first | (with_reducible show AG _ _ _ _ _ _ _ _ _ _; first | exact ag_none | refine ag_stop ?_ | refine ag_nd ?_ ?_) | (show AMid _ _ _ _; first | refine amid_f ?_ | refine amid_g (by first | exact OSub.refl _ | exact .drop (OSub.refl _) | exact .drop (.drop (OSub.refl _))) ?_) | refine gY pk ?_ | (show AL _ _ _ _ _ _ _; first | refine jX tok xk ?_ | refine s_call (Lc := []) (Lr := []) rfl rfl rfl rfl rfl s1 (SubL.of_eq rfl) (List.Perm.refl _) ?_; rintro _ _ ⟨⟨b2, rfl, -⟩, rfl⟩) | fail)
          cases b2 with
          | false =>
            repeat' (first | (with_reducible show AG _ _ _ _ _ _ _ _ _ _; first | exact ag_none | refine ag_stop ?_ | refine ag_nd ?_ ?_) | (show AMid _ _ _ _; first | refine amid_f ?_ | refine amid_g (by first | exact OSub.refl _ | exact .drop (OSub.refl _) | exact .drop (.drop (OSub.refl _))) ?_) | refine gY pk ?_ | (show AL _ _ _ _ _ _ _; first | refine jX tok xk ?_) | fail)
            repeat (first | refine gA pk ?_)
            exact fin (x := .lit _) (.inr rfl) rfl (Sub.refl _) ⟨⟨_, rfl, fun h => (by cases h)⟩, rfl⟩ (OSub.none _)
          | true =>
            by_cases h5 : 5 < pn.length + pe.length
            · repeat' (first | (with_reducible show AG _ _ _ _ _ _ _ _ _ _; first | exact ag_none | refine ag_stop ?_ | refine ag_nd ?_ ?_) | (show AMid _ _ _ _; first | refine amid_f ?_ | refine amid_g (by first | exact OSub.refl _ | exact .drop (OSub.refl _) | exact .drop (.drop (OSub.refl _))) ?_) | refine gY pk ?_ | (show AL _ _ _ _ _ _ _; first | refine jX tok xk ?_) | fail)
              repeat (first | refine gA pk ?_)
              exact fin (x := .lit _) (.inr rfl) rfl (Sub.refl _) ⟨⟨_, rfl, fun h => (by cases h)⟩, rfl⟩ (OSub.none _)
            · repeat' (first | (with_reducible show AG _ _ _ _ _ _ _ _ _ _; first | exact ag_none | refine ag_stop ?_ | refine ag_nd ?_ ?_) | (show AMid _ _ _ _; first | refine amid_f ?_ | refine amid_g (by first | exact OSub.refl _ | exact .drop (OSub.refl _) | exact .drop (.drop (OSub.refl _))) ?_) | refine gY pk ?_ | (show AL _ _ _ _ _ _ _; first | refine jX tok xk ?_) | fail)
              repeat (first | refine gA pk ?_)
              exact ⟨k + 1, ⟨by omega, fun q hq => by
                rw [List.take_add_one, h1] at hq
                rcases List.mem_append.1 hq with hq | hq
                · exact hfew q hq
                · simp at hq
                  subst hq
                  show pn.length + pe.length ≤ 5
                  omega⟩, by omega, by exact subQ, OSub.none _⟩
        · repeat (first | refine gA pk ?_)
          exact fin (x := .lit _) (.inr rfl) rfl (Sub.refl _) ⟨⟨_, rfl, fun _ => ⟨hs.1, by omega, fun p hp => hfew p (by rw [List.take_of_length_le (by omega)]; exact hp), hs.2⟩⟩, rfl⟩ (OSub.none _)
theorem few06_spec (m : Mo) (h1 : m.1.length ≤ 140737488355328) (h2 : m.2.length ≤ 140737488355328) : Pure Tryz.prog 43 [.agg (cMo m), AI 12] (AB (decide (m.1.length + m.2.length ≤ 12))) := by
  obtain ⟨m1, m2⟩ := m
  simp only at h1 h2
  have l1 : (rowI m1).length = m1.length := by simp
  have l2 : (rowI m2).length = m2.length := by simp
  by_cases h : m1.length + m2.length ≤ 12
  · rw [show decide ((m1, m2).1.length + (m1, m2).2.length ≤ 12) = true from decide_eq_true h]
    change Pure _ _ [.agg [ints m1, ints m2], AI 12] _
    refine a_enter Tryz.func43 (by kernel_rfl) rfl Tryz.ntmps43 rfl (by simp) ?_; refine a_seq ?_; refine a_reg ?_; (repeat (first | refine gZ pk ?_ | (show AL _ _ _ _ _ _ _; first | refine jB (fun u => ?_)))); refine a_frzBox 0 2 rfl rfl ?_
    repeat (first | refine gA pk ?_)
    refine finQ ?_
    exact ⟨rfl, rfl⟩
  · rw [show decide ((m1, m2).1.length + (m1, m2).2.length ≤ 12) = false from decide_eq_false h]
    change Pure _ _ [.agg [ints m1, ints m2], AI 12] _
    refine a_enter Tryz.func43 (by kernel_rfl) rfl Tryz.ntmps43 rfl (by simp) ?_; refine a_seq ?_; refine a_reg ?_; (repeat (first | refine gZ pk ?_ | (show AL _ _ _ _ _ _ _; first | refine jB (fun u => ?_)))); refine a_frzBox 0 2 rfl rfl ?_
    repeat (first | refine gA pk ?_)
    refine finQ ?_
    exact ⟨rfl, rfl⟩
structure OkW (w : Wat) : Prop where
  ps : ∀ p ∈ w.ps, OkG p
  pl : w.ps.length ≤ 140737488355328
  g : OkG w.g
  ml : w.ms.length ≤ 140737488355328
  ms : ∀ l ∈ w.ms, l.length ≤ 140737488355328 ∧ ∀ m ∈ l, m.1.length ≤ 140737488355328 ∧ m.2.length ≤ 140737488355328
abbrev FewL (l : List Mo) : Prop := l.length ≤ 400 ∧ ∀ m ∈ l, m.1.length + m.2.length ≤ 12
structure FewW (t : Tys) (w : Wat) : Prop where
  sm : Small t
  pl : w.ps.length ≤ 7
  ps : ∀ p ∈ w.ps, p.nodes.length + p.edges.length ≤ 5
  gn : w.g.nodes.length ≤ 45
  ge : w.g.edges.length ≤ 90
  ml : w.ms.length ≤ 8
  ms : ∀ l ∈ w.ms, FewL l
theorem few20_spec (t : Tys) (ht : OkT t) (w : Wat) (hw : OkW w) : Go.Sj.ACalls Tryz.prog 16 [tysA t, watA w] [] (fun y L => (∃ b, y = AB b ∧ (b = true → FewW t w)) ∧ L = []) := by
  have s1 := light20S_spec t ht w.ps w.g hw.ps hw.pl hw.g
  have hmss := hw.ms
  have hml := hw.ml
  obtain ⟨ps, g, inj, ms⟩ := w
  obtain ⟨gn, ge⟩ := g
  simp only at hmss hml s1
  change Go.Sj.ACalls _ _ [tysA t, grsA ps, .agg [ints gn, edsA ge]] _ _ at s1
  have lms : (ms.map cMos).length = ms.length := by simp
  refine a_enter Tryz.func16 (by kernel_rfl) rfl Tryz.ntmps16 rfl (by simp) ?_
  refine a_seq ?_
  refine a_reg ?_
  repeat (first | refine gZ pk ?_ | (show AL _ _ _ _ _ _ _; first | refine jB (fun u => ?_)))
  refine a_frzBox 1 2 rfl rfl ?_
  refine a_frzBox 0 3 rfl rfl ?_
  repeat (first | refine gN pk ?_ | (show AL _ _ _ _ _ _ _; first | refine s_call (Lc := []) (Lr := []) rfl rfl rfl rfl rfl s1 (SubL.of_eq rfl) (List.Perm.refl _) ?_; rintro _ _ ⟨⟨b1, rfl, hb1⟩, rfl⟩))
  cases b1 with
  | false =>
    repeat (first | refine gA pk ?_)
    exact fin (x := .lit _) (.inr rfl) rfl (Sub.refl _) ⟨⟨_, rfl, fun h => (by cases h)⟩, rfl⟩ (OSub.none _)
  | true =>
  obtain ⟨q1, q2, q3, q4, q5⟩ := hb1 rfl
  by_cases h8 : 8 < ms.length
  · repeat (first | refine gA pk ?_)
    exact fin (x := .lit _) (.inr rfl) rfl (Sub.refl _) ⟨⟨_, rfl, fun h => (by cases h)⟩, rfl⟩ (OSub.none _)
  repeat (first | refine gA pk ?_)
  refine a_loop2 (fun (n : Nat) (i : Nat) => [(3, .ip [grsA ps, ints gn, edsA ge, AB inj, mssA ms]), (5, AI n), (6, AI i)]) (fun _ _ => []) (fun n i => i ≤ ms.length ∧ n ≤ 400 ∧ ∀ l ∈ ms.take i, FewL l) (fun n i => ms.length - i) 0 0 ⟨Nat.zero_le _, Nat.zero_le _, fun p hp => by simp at hp⟩ ?_ (OSub.none _) ?_
  · exact subQ
  rintro n i ⟨k1, k2, k3⟩
  rcases Nat.lt_or_ge i ms.length with h | h
  · have h1 := List.getElem?_eq_getElem h
    have hmo := hmss _ (List.getElem_mem h)
    generalize ms[i] = l at h1 hmo
    obtain ⟨hl1, hl2⟩ := hmo
    have xk : (ms.map cMos)[(i : Int).toNat]? = some [mosA l] := map_get (f := cMos) h1
    have ll : (l.map cMo).length = l.length := by simp
    by_cases h400 : 400 < n + l.length
    · repeat (first | refine gA pk ?_ | (show AL _ _ _ _ _ _ _; first | refine jX tok xk ?_))
      exact fin (x := .lit _) (.inr rfl) rfl (Sub.refl _) ⟨⟨_, rfl, fun h => (by cases h)⟩, rfl⟩ (OSub.none _)
    · repeat (first | refine gA pk ?_ | (show AL _ _ _ _ _ _ _; first | refine jX tok xk ?_))
      rw [ll]
      refine a_loopX (fun k : Nat => [(3, .ip [grsA ps, ints gn, edsA ge, AB inj, mssA ms]), (5, AI (n + l.length)), (6, AI i), (7, AI k)]) (fun _ => []) (fun k => k ≤ l.length ∧ ∀ m ∈ l.take k, m.1.length + m.2.length ≤ 12) (fun k => l.length - k) 0 ⟨Nat.zero_le _, fun p hp => by simp at hp⟩ ?_ (OSub.none _) ?_
      · exact subQ
      rintro k ⟨j1, j2⟩
      rcases Nat.lt_or_ge k l.length with hk | hk
      · have h2 := List.getElem?_eq_getElem hk
        have hm2 := hl2 _ (List.getElem_mem hk)
        generalize l[k] = m at h2 hm2
        have s2 := few06_spec m hm2.1 hm2.2
        have yk : (l.map cMo)[(k : Int).toNat]? = some (cMo m) := map_get (f := cMo) h2
        by_cases h12 : m.1.length + m.2.length ≤ 12
        · rw [decide_eq_true h12] at s2
          repeat (first | refine gA pk ?_ | (show AL _ _ _ _ _ _ _; first | refine jX tok xk ?_ | refine jX tok yk ?_ | refine jP s2 ?_))
          refine ⟨k + 1, ⟨by omega, fun q hq => ?_⟩, by omega, by exact subQ, OSub.none _⟩
          rw [List.take_add_one, h2] at hq
          rcases List.mem_append.1 hq with hq | hq
          · exact j2 q hq
          · simp at hq
            subst hq
            exact h12
        · rw [decide_eq_false h12] at s2
          repeat (first | refine gA pk ?_ | (show AL _ _ _ _ _ _ _; first | refine jX tok xk ?_ | refine jX tok yk ?_ | refine jP s2 ?_))
          exact fin (x := .lit _) (.inr rfl) rfl (Sub.refl _) ⟨⟨_, rfl, fun h => (by cases h)⟩, rfl⟩ (OSub.none _)
      · obtain rfl : k = l.length := by omega
        rw [List.take_length] at j2
        repeat (first | refine gA pk ?_ | (show AL _ _ _ _ _ _ _; first | refine jX tok xk ?_))
        refine ⟨n + l.length, i + 1, ⟨by omega, by omega, fun q hq => ?_⟩, by omega, by exact subQ, OSub.none _⟩
        rw [List.take_add_one, h1] at hq
        rcases List.mem_append.1 hq with hq | hq
        · exact k3 q hq
        · simp at hq
          subst hq
          exact ⟨by omega, j2⟩
  · obtain rfl : i = ms.length := by omega
    rw [List.take_length] at k3
    repeat (first | refine gA pk ?_)
    exact fin (x := .lit _) (.inr rfl) rfl (Sub.refl _) ⟨⟨_, rfl, fun _ => ⟨q1, q2, q3, q4, q5, by show ms.length ≤ 8; omega, k3⟩⟩, rfl⟩ (OSub.none _)
end Go.Proofs.YtddohheabpiljaaGreat
end
