/- Parts of a proof. -/
import Derived.Test.YtddohheabpiljaaGreatS04
import Derived.Test.YtddohheabpiljaaGreatS47
set_option linter.unusedVariables false
set_option linter.unusedSimpArgs false
section
namespace Go.Proofs.YtddohheabpiljaaGreat
open Go.Sj Go.Sj.Typ Go.Sj.Sta Go.Sj.Inc
set_option maxRecDepth 8000
set_option maxHeartbeats 16000000
theorem allR_facts {t : Tys} {ps : List Gr} {g : Gr} {inj : Bool} (h : matsE t ps g inj = 0) : ∀ p ∈ ps, GV p ∧ (allR t p g inj).1 = matL (seaA t p g inj) ∧ (matL (seaA t p g inj)).length ≤ 5000 := fun p hp => by
  have h2 := (matsE_zero h).2.2 p hp
  exact ⟨(validS_zero (allR_zero h2)).2.1, (allR_mat h2).1, (allR_mat h2).2⟩
theorem gGraph_spec (t : Tys) (g : Gr) (hg : GV g) (e : Edt) (he : edtE t g e = 0) : Pure Tryz.prog 24 [grA g, .agg [AI e.kind, AI e.idx, AI e.ty, AI e.fr, AI e.to]] (grA (ediG g e)) := by
  obtain ⟨og, og1, og2⟩ := gv_small hg
  have hn := hg.nl
  have hb : ∀ x ∈ g.edges, (-1000000 ≤ x.fr ∧ x.fr ≤ 1000000) ∧ -1000000 ≤ x.to ∧ x.to ≤ 1000000 := fun x hx => by
    have := hg.edges x hx
    omega
  obtain ⟨k, i, ty, fr, to⟩ := e
  rcases edit_kind he with ⟨hk, a, b⟩ | ⟨hk, a, b, c, d⟩ | ⟨hk, a, b⟩ | ⟨hk, a⟩
  · simp only at hk; subst hk
    exact gGraph1_spec g og1 og2 hb i ty fr to
  · simp only at hk; subst hk
    exact gGraph2_spec g og1 og2 hb i ty fr to
  · simp only at hk a; subst hk
    obtain ⟨d, rfl⟩ : ∃ d : Nat, i = d := ⟨i.toNat, by omega⟩
    exact gGraph3_spec g og1 og2 hb d ty fr to
  · simp only at hk a; subst hk
    obtain ⟨d, rfl⟩ : ∃ d : Nat, i = d := ⟨i.toNat, by omega⟩
    exact gGraph4_spec g og1 og2 hb d ty fr to
end Go.Proofs.YtddohheabpiljaaGreat
end
section
namespace Go.Proofs.YtddohheabpiljaaGreat
open Go.Sj Go.Sj.Typ
set_option maxRecDepth 8000
set_option maxHeartbeats 4000000
def exTys : Tys := ⟨[⟨⟨#[65, 99, 99, 111, 117, 110, 116]⟩, -1, true, [⟨⟨#[98, 97, 108, 97, 110, 99, 101]⟩, -1000, 1000, []⟩]⟩, ⟨⟨#[67, 97, 115, 104]⟩, 0, false, []⟩,
  ⟨⟨#[76, 111, 97, 110]⟩, 0, false, [⟨⟨#[115, 116, 97, 116, 101]⟩, 0, 1, [⟨#[111, 112, 101, 110]⟩, ⟨#[99, 108, 111, 115, 101, 100]⟩]⟩]⟩, ⟨⟨#[80, 101, 114, 115, 111, 110]⟩, -1, false, []⟩],
  [⟨⟨#[111, 119, 110, 115]⟩, 3, 0, 0, -1, 1, 1⟩, ⟨⟨#[112, 97, 121, 115]⟩, 1, 1, 0, -1, 0, -1⟩]⟩
theorem exSmall : Small exTys := ⟨by decide, by decide, by decide, by decide⟩
def exRaw : AV := .agg [.im 4 [[AS ⟨#[65, 99, 99, 111, 117, 110, 116]⟩, AI (-1), AB true, .im 4 [[AS ⟨#[98, 97, 108, 97, 110, 99, 101]⟩, AI (-1000), AI 1000, .lit (.slice none 0 0)]]],
  [AS ⟨#[67, 97, 115, 104]⟩, AI 0, AB false, .lit (.slice none 0 0)],
  [AS ⟨#[76, 111, 97, 110]⟩, AI 0, AB false, .im 4 [[AS ⟨#[115, 116, 97, 116, 101]⟩, AI 0, AI 1, .im 1 [[AS ⟨#[111, 112, 101, 110]⟩], [AS ⟨#[99, 108, 111, 115, 101, 100]⟩]]]]],
  [AS ⟨#[80, 101, 114, 115, 111, 110]⟩, AI (-1), AB false, .lit (.slice none 0 0)]],
  .im 7 [[AS ⟨#[111, 119, 110, 115]⟩, AI 3, AI 0, AI 0, AI (-1), AI 1, AI 1], [AS ⟨#[112, 97, 121, 115]⟩, AI 1, AI 1, AI 0, AI (-1), AI 0, AI (-1)]]]
theorem exSub : Sub exRaw (tysA exTys) :=
  Sub.agg ⟨Sub.im ⟨⟨Sub.refl _, Sub.refl _, Sub.refl _, Sub.im ⟨⟨Sub.refl _, Sub.refl _, Sub.refl _, Sub.nil 1, trivial⟩, trivial⟩, trivial⟩,
    ⟨Sub.refl _, Sub.refl _, Sub.refl _, Sub.nil 4, trivial⟩, ⟨Sub.refl _, Sub.refl _, Sub.refl _, Sub.refl _, trivial⟩, ⟨Sub.refl _, Sub.refl _, Sub.refl _, Sub.nil 4, trivial⟩, trivial⟩, Sub.refl _, trivial⟩
theorem Example_spec : Pure Tryz.prog 31 [] (tysA exTys) := by
  refine a_enterC Tryz.func31 (by kernel_rfl) rfl Tryz.ntmps31 rfl (tok _ _ rfl) (by simp) ?_
  repeat (first | refine gV pk ?_ | (show AL _ _ _ _ _ _ _; first | refine jL tok (fun u => ?_) | refine s_frzNow 0 rfl rfl rfl (s_build tok rfl rfl rfl rfl rfl rfl rfl rfl (by decide) (by decide) (fun v => AL.nil ⟨v, rfl, rfl, rfl⟩)) ?_ | refine jS tok 0 ?_))
  refine a_frzBox 0 0 rfl rfl ?_
  refine a_ret ?_
  exact ⟨.inr rfl, _, exRaw, _, _, rfl, rfl, Turn.of exSub (OSub.refl _), rfl, rfl⟩
end Go.Proofs.YtddohheabpiljaaGreat
end
section
namespace Go.Proofs.YtddohheabpiljaaGreat
open Go.Sj Go.Sj.Typ Go.Sj.Sta Go.Sj.Inc
set_option maxRecDepth 8000
set_option maxHeartbeats 16000000
def exP : Gr := ⟨[1, 1], [⟨1, 0, 1⟩]⟩
def exG : Gr := ⟨[1], []⟩
def exH : Gr := ⟨[1], [⟨1, 0, 0⟩]⟩
theorem exNew0 : matsE exTys [exP] exG false = 0 := by decide +kernel
theorem exNew1 : matsL exTys [exP] exG false = [[]] := by decide +kernel
theorem exFre1 : (freI exTys exP exH true false 0) = ([([0, 0], [0])], 0) := by decide +kernel
theorem exEdit : editE exG ⟨2, 0, 1, 0, 0⟩ 4 2 = 0 := by decide +kernel
theorem exPV : GV exP := gvalid_zero.1 (by decide +kernel)
theorem exHV : GV exH := gvalid_zero.1 (by decide +kernel)
abbrev exW : Wat := ⟨[exP], exG, false, [[]]⟩
abbrev exV : Wat := ⟨[exP], exH, false, [[([0, 0], [0])]]⟩
theorem exNew : newR exTys [exP] exG false = (exW, 0) := by
  unfold newR
  rw [exNew0, exNew1]
  rfl
theorem exVal : wvalE exTys exW = 0 := by
  unfold wvalE
  rw [exNew0, exNew1]
  rfl
theorem exFreC : freC exTys exP exH true false = [([0, 0], [0])] := by
  show (List.range 1).flatMap (fun i => (freI exTys exP exH true false i).1) = _
  show (freI exTys exP exH true false 0).1 ++ [] = _
  rw [exFre1]
  rfl
theorem ext_le (t : Tys) (p g : Gr) (a b : List Int) (inj : Bool) : (extR t p g a b inj).1.length ≤ 5000 := by
  unfold extR capR
  repeat' split
  all_goals first | exact Nat.zero_le _ | (simp only; omega)
theorem exFresh : Pure Tryz.prog 66 [tysA exTys, grA exP, grA exH, AB true, AB false] (.tup [mosA [([0, 0], [0])], AI 0]) :=
  fresh_spec exTys exSmall exP exH exPV exHV true false (fun i hi => by
    have : i = 0 := by
      have : i < 1 := hi
      omega
    subst this
    rw [exFre1]) (by rw [exFreC]; decide) (fun i => ext_le _ _ _ _ _ _) [([0, 0], [0])] [([0, 0], [0])] (by rw [exFreC]; exact fun v => sort1_spec v _ _ (by decide)) (fun v => (compact1_spec v _ _ (by decide)).mono fun y M h => ⟨v, h.1, h.2⟩)
theorem exMerged : Gives Tryz.prog 67 [mosA [], mosA [([0, 0], [0])]] 95 2 (([([0, 0], [0])] : List Mo).map cMo) :=
  merged_spec [] [([0, 0], [0])] [([0, 0], [0])] (by decide) (by decide) (fun v => sort1_spec v _ _ (by decide))
theorem exMoB : ∀ x ∈ ([([0, 0], [0])] : List Mo), MoB x := fun x hx => by
  have : x = ([0, 0], [0]) := by simpa using hx
  subst this
  exact ⟨by decide, by decide⟩
theorem exWOk : WatOk exW := ⟨fun p hp => by
  have : p = exP := by simpa using hp
  subst this
  exact ⟨by decide, by decide⟩, by decide, ⟨by decide, by decide⟩, fun l hl => by
  have : l = [] := by simpa using hl
  subst this
  exact ⟨by decide, by simp⟩, by decide⟩
theorem exEd : Pure Tryz.prog 54 [grA exG, .agg [AI 2, AI 0, AI 1, AI 0, AI 0], AI (exTys.nodes.map cNod).length, AI (exTys.edges.map cEdg).length] (AI 0) := by
  have h := iedit_spec exG ⟨by decide, by decide⟩ (by decide) ⟨2, 0, 1, 0, 0⟩ ((exTys.nodes.map cNod).length : Nat) ((exTys.edges.map cEdg).length : Nat)
  have h0 : editE exG ⟨2, 0, 1, 0, 0⟩ ((exTys.nodes.map cNod).length : Nat) ((exTys.edges.map cEdg).length : Nat) = 0 := exEdit
  rw [h0] at h
  exact h
theorem exApply : Pure Tryz.prog 17 [tysA exTys, watA exW, .agg [AI 2, AI 0, AI 1, AI 0, AI 0]] (.tup [watA exV, .im 2 (([[([0, 0], [0])]] : List (List Mo)).map cDelN), AI 0]) :=
  iApply_spec exTys exW exV 2 0 1 0 0 _ (by have h := ivalid_spec exTys exSmall exW exWOk; rw [exVal] at h; exact h)
    (iapplyA_spec exTys exSmall exW 2 0 1 0 0 true (.inr ⟨rfl, rfl⟩) exH [[([0, 0], [0])]] [[([0, 0], [0])]] (by decide) (fun p hp => by
      have : p = exP := by simpa using hp
      subst this
      exact ⟨by decide, by decide⟩) rfl rfl rfl exEd (ieditedE_spec exG (by decide) (by decide) 0 1 0 0) (fun j p hp => by
      have hj : j = 0 := by
        have h1 := (List.getElem?_eq_some_iff.1 hp).1
        have h2 : j < 1 := h1
        omega
      subst hj
      have hp' : p = exP := by
        have h3 : some exP = some p := hp
        cases h3
        rfl
      subst hp'
      exact ⟨[([0, 0], [0])], [], [([0, 0], [0])], rfl, rfl, rfl, by decide, by decide, exMoB, exMoB, exFresh, exMerged⟩))
theorem awakeI_spec : Pure Tryz.prog 10 [] (AB true) := by
  have s0 := Example_spec
  have s1 := Pure.subA (inew_spec exTys exSmall [exP] exG false (fun p hp => by
      have : p = exP := by simpa using hp
      subst this
      exact ⟨by decide, by decide⟩) (by decide) ⟨by decide, by decide⟩) (args' := [tysA exTys, grsA [exP], .agg [ints [1], nilS], AB false]) ⟨Sub.refl _, Sub.refl _, Sub.agg (m := [ints [1], edsA []]) ⟨Sub.refl _, Sub.nil 3, trivial⟩, Sub.refl _, trivial⟩
  rw [exNew] at s1
  have s2 := exApply
  have ka : (([[]] : List (List Mo)).map cMos)[(0 : Int).toNat]? = some [mosA []] := rfl
  have kb : (([[([0, 0], [0])]] : List (List Mo)).map cMos)[(0 : Int).toNat]? = some [mosA [([0, 0], [0])]] := rfl
  have kc : (([[([0, 0], [0])]] : List (List Mo)).map cDelN)[(0 : Int).toNat]? = some [mosA [([0, 0], [0])], mosA []] := rfl
  generalize exTys.nodes = N at *
  generalize exTys.edges = E at *
  refine a_enter Tryz.func10 (by kernel_rfl) rfl Tryz.ntmps10 rfl (by simp) ?_
  repeat (first | refine gA pk ?_ | (show AL _ _ _ _ _ _ _; first | refine jP s0 ?_ | refine jP s1 ?_ | refine jP s2 ?_ | refine s_frzNow 0 rfl rfl rfl (s_build tok rfl rfl rfl rfl rfl rfl rfl rfl (by decide) (by decide) (fun v => AL.nil ⟨v, rfl, rfl, rfl⟩)) ?_ | refine jL tok (fun u => ?_) | refine jS tok 0 ?_ | refine jO tok 0 ?_ | refine jO tok 1 ?_ | refine jO tok 2 ?_ | refine jO tok 3 ?_ | refine jX tok ka ?_ | refine jX tok kb ?_ | refine jX tok kc ?_))
  refine finQ ?_
  exact ⟨rfl, rfl⟩
end Go.Proofs.YtddohheabpiljaaGreat
end
section
namespace Go.Proofs.YtddohheabpiljaaGreat
open Go.Sj Go.Sj.Typ Go.Sj.Sta Go.Sj.Inc
set_option maxRecDepth 8000
set_option maxHeartbeats 16000000
theorem applyB_valid {t : Tys} {w : Wat} {e : Edt} (h : (applyB t w e).2.2 = 0) : wvalE t (applyB t w e).1 = 0 := by
  unfold applyB at h ⊢
  split at h
  · rename_i h1; exact absurd h h1
  · rename_i h1
    rw [if_neg h1]
    split at h
    · rename_i h2; exact absurd h h2
    · rename_i h2
      rw [if_neg h2]
      unfold wvalE
      rw [if_neg h2, if_pos rfl]
theorem watOk_valid {t : Tys} {w : Wat} (h : wvalE t w = 0) : WatOk w ∧ GV w.g ∧ w.ps.length ≤ 5 ∧ (∀ p ∈ w.ps, GV p) ∧ w.ms.length = w.ps.length ∧ ∀ l ∈ w.ms, l.length ≤ 5000 := by
  obtain ⟨h1, h2⟩ := wval_zero h
  obtain ⟨hg, h5, hall⟩ := matsE_zero h1
  have hf := allR_facts h1
  have hml : w.ms.length = w.ps.length := by rw [h2]; unfold matsL; rw [List.length_map]
  have hms : ∀ l ∈ w.ms, l.length ≤ 5000 ∧ ∀ m ∈ l, MoB m := fun l hl => by
    rw [h2] at hl
    unfold matsL at hl
    obtain ⟨p, hp, rfl⟩ := List.mem_map.1 hl
    obtain ⟨q1, q2, q3⟩ := hf p hp
    rw [q2]
    exact ⟨q3, fun m hm => mat_mob q1 hm⟩
  exact ⟨⟨fun p hp => (gv_small (hf p hp).1).1, by omega, (gv_small hg).1, fun l hl => ⟨by have := (hms l hl).1; omega, (hms l hl).2⟩, by omega⟩, hg, h5, fun p hp => (hf p hp).1, hml, fun l hl => (hms l hl).1⟩
abbrev watC (w : Wat) : List AV := [grsA w.ps, ints w.g.nodes, edsA w.g.edges, AB w.inj, mssA w.ms]
end Go.Proofs.YtddohheabpiljaaGreat
end
section
namespace Go.Proofs.YtddohheabpiljaaGreat
open Go.Sj Go.Sj.Typ Go.Sj.Sta Go.Sj.Inc
set_option maxRecDepth 8000
set_option maxHeartbeats 16000000
theorem same_valid {t : Tys} {w : Wat} (h : wvalE t w = 0) : Pure Tryz.prog 14 [watA w, watA w] (AB true) := by
  obtain ⟨ok, okg, ok5, okp, okm, okl⟩ := watOk_valid h
  have hn := okg.nl
  have he := okg.el
  exact gSameW_spec w ok.ms ok.ml (fun p hp => by
    have h1 := (okp p hp).nl
    have h2 := (okp p hp).el
    omega) (by omega) ⟨by omega, by omega⟩
end Go.Proofs.YtddohheabpiljaaGreat
end
section
namespace Go.Sj.Can
open Go.Sj Go.Sj.Sta Go.Sj.Typ
set_option maxRecDepth 8000
structure Dr5 where
  nodes : List Int
  edges : List (Int × Int × Int)
abbrev RDr5 := List Int × List (List Int) × Unit
def toDr5 (x : RDr5) : Dr5 := ⟨x.1, x.2.1.map toC3⟩
abbrev dr5L (d : Dr5) : List AV := [bytesA d.nodes, .im 3 (d.edges.map c83)]
abbrev dr5A (d : Dr5) : AV := .agg (dr5L d)
def gDr5 (x : RDr5) : List AV := [.im 1 (x.1.map fun n => [.lit (.int .u8 n)])] ++ ([.im 3 (x.2.1.map g8s)] ++ [])
structure OkD5 (d : Dr5) : Prop where
  nodes : ∀ n ∈ d.nodes, 0 ≤ n ∧ n ≤ 255
  edges : ∀ c ∈ d.edges, In3 c
  nl : d.nodes.length ≤ 140737488355328
  gl : d.edges.length ≤ 140737488355328
abbrev okRD5 (x : RDr5) : Prop := ((∀ m ∈ x.1, (Lit.int .u8 m).wf = true) ∧ x.1.length ≤ reachBytes) ∧ ((∀ a ∈ x.2.1, a.length = 3 ∧ ∀ m ∈ a, (Lit.int .u8 m).wf = true) ∧ x.2.1.length ≤ reachBytes) ∧ True
theorem dr5_ok {x : RDr5} (hx : okRD5 x) : OkD5 (toDr5 x) := by
  have r3 := hx.1.2
  have r4 := hx.2.1.2
  unfold reachBytes at r3 r4
  refine ⟨fun n hn => wf_n8 (hx.1.1 n hn), fun c hc => ?_, ?_, ?_⟩
  · obtain ⟨a, ha, rfl⟩ := List.mem_map.1 hc
    exact toC3_ok (hx.2.1.1 a ha)
  · show x.1.length ≤ _
    omega
  · show (x.2.1.map toC3).length ≤ _
    rw [List.length_map]; omega
section
variable {g : Gr} {p q : List Int} (h : GV g) (hp : Prm p g.nodes.length) (hq : Prm q g.edges.length)
include h hp hq
end
end Go.Sj.Can
end
section
namespace Go.Proofs.YtddohheabpiljaaGreat
open Go.Sj Go.Sj.Typ Go.Sj.Sta Go.Sj.Inc Go.Sj.Can
set_option maxRecDepth 8000
set_option maxHeartbeats 16000000
structure TyG (t : Tys) : Prop where
  sm : Small t
  pr : PR t.nodes t.nodes.length
  ed : ∀ e ∈ t.edges, 0 ≤ e.fr ∧ 0 ≤ e.to
  vl : (validR t).2 = 0
  ne : 1 ≤ t.nodes.length
theorem among_spec (t : Tys) (ht : TyG t) (ns : List Int) (es : List Ed) (hn : ns.length ≤ 8) (hns : ∀ x ∈ ns, 0 ≤ x ∧ x < t.nodes.length) (k : Int) (hk : 0 ≤ k) (vn ve : Value) :
    Go.Sj.ACalls Tryz.prog 69 [tysA t, .agg [.lit vn, .lit ve], AI k] [(vn, .row 3 1 (rowI ns)), (ve, .row 85 3 (es.map cEd))]
      (fun y L => ∃ (r : List Int) (w : Value), y = .lit w ∧ r.length ≤ ns.length ∧ L = [(w, .row 3 1 (rowI r)), (vn, .row 3 1 (rowI ns)), (ve, .row 85 3 (es.map cEd))]) := by
  have ll : (rowI ns).length = ns.length := by simp
  have s1 := fun (a : Int) (h0 : 0 ≤ a) (ha : a < t.nodes.length) => Below1_spec t t.nodes.length (Nat.le_refl _) ht.pr k hk (a.toNat + 1) a (by omega) (by omega) ha
  obtain ⟨tn, te⟩ := t
  simp only at s1 hns
  change ∀ a : Int, 0 ≤ a → a < tn.length → Pure _ _ [.agg [nodsA tn, edgsA te], AI a, AI k] _ at s1
  change Go.Sj.ACalls _ _ [.agg [nodsA tn, edgsA te], _, _] _ _
  refine a_enter Tryz.func69 (by kernel_rfl) rfl Tryz.ntmps69 rfl (by simp) ?_
  refine a_seq ?_
  refine a_reg ?_
  repeat (first | refine gZ pk ?_ | (show AL _ _ _ _ _ _ _; first | refine jB (fun u => ?_)))
  refine a_frzBox 1 3 rfl rfl ?_
  refine a_frzBox 0 4 rfl rfl ?_
  repeat (first | refine gA pk ?_)
  refine a_loopG3 (fun (i : Nat) (r : List Int) (v : Value) => [(2, AI k), (3, .ip [nodsA tn, edgsA te]), (4, .ip [.lit vn, .lit ve]), (7, .lit v), (8, AI i)]) (fun i r v => [(v, .row 3 1 (rowI r)), (vn, .row 3 1 (rowI ns)), (ve, .row 85 3 (es.map cEd))]) (fun i r _ => i ≤ ns.length ∧ r.length ≤ i) (fun i _ _ => ns.length - i) 0 [] (.slice none 0 0) ⟨Nat.zero_le _, Nat.le_refl _⟩ (.sub (by exact subQ) (.free (OSub.refl _))) ?_
  rintro i r v ⟨hi, hr⟩
  have lr : (rowI r).length = r.length := by simp
  rcases Nat.lt_or_ge i ns.length with h | h
  · have h1 := List.getElem?_eq_getElem h
    have hx := hns _ (List.getElem_mem h)
    generalize ns[i] = x at h1 hx
    have s2 := s1 x hx.1 hx.2
    have gx : ns[((i : Nat) : Int).toNat]? = some x := by rw [Int.toNat_natCast]; exact h1
    generalize decide (k ∈ up tn x) = b at s2
    have hset : rowI (r ++ [(i : Int)]) = rowI r ++ [[AI i]] := by simp [cI]
    repeat (first | refine gN pk ?_ | (show AL _ _ _ _ _ _ _; first | refine s_ownLen tok 1 rfl rfl rfl rfl (by decide) rfl rfl rfl ?_))
    refine a_regG ((List.range 8).map fun i => if inL [7] i = true then .eff else if inL [0, 2, 4, 5] i = true then .read else .pure) [] [0, 1, 2, 3, 4, 5, 6, 7] .stop mixed rfl rfl (by decide +kernel) ?_
    cases b
    · repeat' (first | (with_reducible show AG _ _ _ _ _ _ _ _ _ _; first | exact ag_none | refine ag_stop ?_ | refine ag_nd ?_ ?_) | (show AMid _ _ _ _; first | refine amid_f ?_ | refine amid_g (by first | exact OSub.refl _ | exact .drop (OSub.refl _) | exact .drop (.drop (OSub.refl _))) ?_) | refine gY pk ?_ | (show AL _ _ _ _ _ _ _; first | refine s_ownIndex tok 1 rfl rfl rfl rfl (by decide) rfl rfl rfl rfl rfl rfl (by omega) (by omega) ?_ | refine s_loadI tok 1 rfl rfl rfl rfl (by decide) rfl rfl rfl rfl gx ?_ | refine jP s2 ?_) | fail)
      repeat (first | refine gA pk ?_)
      exact ⟨i + 1, r, v, ⟨by omega, by omega⟩, by omega, .sub (by exact subQ) (OSub.refl _)⟩
    · repeat' (first | (with_reducible show AG _ _ _ _ _ _ _ _ _ _; first | exact ag_none | refine ag_stop ?_ | refine ag_nd ?_ ?_) | (show AMid _ _ _ _; first | refine amid_f ?_ | refine amid_g (by first | exact OSub.refl _ | exact .drop (OSub.refl _) | exact .drop (.drop (OSub.refl _))) ?_) | refine gY pk ?_ | (show AL _ _ _ _ _ _ _; first | refine s_ownIndex tok 1 rfl rfl rfl rfl (by decide) rfl rfl rfl rfl rfl rfl (by omega) (by omega) ?_ | refine s_loadI tok 1 rfl rfl rfl rfl (by decide) rfl rfl rfl rfl gx ?_ | refine jP s2 ?_) | fail)
      repeat (first | refine gA pk ?_ | (show AL _ _ _ _ _ _ _; first | refine s_build1 tok rfl rfl rfl rfl rfl rfl rfl rfl (fun lv => ?_) | refine s_append1K tok 0 rfl rfl rfl rfl rfl rfl (by decide) rfl rfl rfl rfl (by omega) (by omega) (fun w hw => ?_)))
      exact ⟨i + 1, r ++ [(i : Int)], w, ⟨by omega, by simp; omega⟩, by omega, .sub (by exact subQ) (by rw [hset]; exact OSub.refl _)⟩
  · obtain rfl : i = ns.length := by omega
    repeat (first | refine gA pk ?_ | (show AL _ _ _ _ _ _ _; first | refine s_ownLen tok 1 rfl rfl rfl rfl (by decide) rfl rfl rfl ?_))
    exact fin (x := .lit _) (.inr rfl) rfl (Sub.refl _) ⟨r, v, rfl, hr, rfl⟩ (OSub.refl _)
theorem made17_spec (t : Tys) (ht : TyG t) (d : Dr5) (hd : OkD5 d) (abs : Bool) :
    Go.Sj.ACalls Tryz.prog 49 [tysA t, dr5A d, AB abs] [] (fun y L => (∃ g : Gr, y = grA g ∧ (g.nodes.length ≤ 8 ∧ g.nodes.length ≤ d.nodes.length) ∧ g.edges.length ≤ 10 ∧ g.edges.length ≤ d.edges.length) ∧ L = []) := by
  have sam := fun ns es h1 h2 k h3 vn ve => among_spec t ht ns es h1 h2 k h3 vn ve
  have ht1 := ht.sm.nodes
  have ht2 := ht.sm.edges
  have hed := ht.ed
  obtain ⟨tn, te⟩ := t
  obtain ⟨dn, de⟩ := d
  obtain ⟨hd1, hd2, hd3, hd4⟩ := hd
  simp only at sam ht1 ht2 hed hd1 hd2 hd3 hd4
  have ltn : (tn.map cNod).length = tn.length := by simp
  have lte : (te.map cEdg).length = te.length := by simp
  have ldn : (dn.map c8).length = dn.length := by simp
  have lde : (de.map c83).length = de.length := by simp
  have hr1 : ∀ (l : List Int), ∀ x ∈ rowI l, x.length = 1 := fun l x hx => by
    obtain ⟨y, _, rfl⟩ := List.mem_map.1 hx
    rfl
  have hr3 : ∀ (l : List Ed), ∀ x ∈ l.map cEd, x.length = 3 := fun l x hx => by
    obtain ⟨y, _, rfl⟩ := List.mem_map.1 hx
    rfl
  change Go.Sj.ACalls _ _ [.agg [nodsA tn, edgsA te], .agg [bytesA dn, .im 3 (de.map c83)], AB abs] _ _
  refine a_enterC Tryz.func49 (by kernel_rfl) rfl Tryz.ntmps49 rfl (tok _ _ rfl) (by simp) ?_
  refine a_seq ?_
  refine a_reg ?_
  repeat (first | refine gZ pk ?_ | (show AL _ _ _ _ _ _ _; first | refine jB (fun u => ?_) | refine jL tok (fun U6 => ?_)))
  refine a_frzBox 2 3 rfl rfl ?_
  refine a_frzBox 1 4 rfl rfl ?_
  repeat (first | refine gA pk ?_)
  refine a_loopG3 (fun (i : Nat) (K : List Int) (v : Value) => [(2, AB abs), (3, .ip [nodsA tn, edgsA te]), (4, .ip [bytesA dn, .im 3 (de.map c83)]), (6, .pt U6 0 0 0), (7, .lit v), (8, AI i)]) (fun i K v => [(v, .row 3 1 (rowI K)), (U6, .box [nilS, nilS])]) (fun i K _ => i ≤ tn.length ∧ K.length ≤ i ∧ ∀ x ∈ K, 0 ≤ x ∧ x < tn.length) (fun i _ _ => tn.length - i) 0 [] (.slice none 0 0) ⟨Nat.zero_le _, Nat.le_refl _, fun x hx => by cases hx⟩ (.sub (by exact subQ) (.free (OSub.refl _))) ?_
  rintro i K v ⟨hi, hK, hKr⟩
  have lK : (rowI K).length = K.length := by simp
  rcases Nat.lt_or_ge i tn.length with h | h
  · have h1 := List.getElem?_eq_getElem h
    generalize tn[i] = nd at h1
    obtain ⟨n1, n2, n3, n4⟩ := nd
    have xk : (tn.map cNod)[(i : Int).toNat]? = some [AS n1, AI n2, AB n3, attrsA n4] := map_get (f := cNod) h1
    have hset : rowI (K ++ [(i : Int)]) = rowI K ++ [[AI i]] := by simp [cI]
    have hK2 : ∀ x ∈ K ++ [(i : Int)], 0 ≤ x ∧ x < tn.length := fun x hx => by
      rcases List.mem_append.1 hx with hx | hx
      · exact hKr x hx
      · simp at hx
        omega
    cases abs <;> cases n3
    all_goals
      repeat (first | refine gA pk ?_ | (show AL _ _ _ _ _ _ _; first | refine jX tok xk ?_ | refine s_build1 tok rfl rfl rfl rfl rfl rfl rfl rfl (fun lv => ?_) | refine s_append1K tok 0 rfl rfl rfl rfl rfl rfl (by decide) rfl rfl rfl rfl (by omega) (by omega) (fun w hw => ?_)))
      first
        | exact ⟨i + 1, K ++ [(i : Int)], w, ⟨by omega, by simp; omega, hK2⟩, by omega, .sub (by exact subQ) (by rw [hset]; exact OSub.refl _)⟩
        | exact ⟨i + 1, K, v, ⟨by omega, by omega, hKr⟩, by omega, .sub (by exact subQ) (OSub.refl _)⟩
  obtain rfl : i = tn.length := by omega
  have hKl : K.length ≤ 20 := by omega
  clear hK
  refine a_frz 0 7 rfl rfl ?_
  repeat (first | refine gZ pk ?_)
  refine a_reg ?_
  repeat (first | refine gZ pk ?_)
  refine a_reg ?_
  repeat (first | refine gY pk ?_ | (show AL _ _ _ _ _ _ _; first | refine jL tok (fun ug => ?_)))
  refine a_mid (fun st L => ∃ (G : List Int) (v : Value), (G.length ≤ 8 ∧ G.length ≤ dn.length ∧ ∀ x ∈ G, 0 ≤ x ∧ x < tn.length) ∧ GoTo 157 st L (lk [(3, .ip [nodsA tn, edgsA te]), (4, .ip [bytesA dn, .im 3 (de.map c83)]), (6, .pt U6 0 0 0), (9, .pt ug 0 0 0)]) [(ug, .box [.lit v, nilS]), (v, .row 3 1 (rowI G)), (U6, .box [nilS, nilS])]) ?_ (fun st L h => ?_)
  · repeat (first | refine gA pk ?_)
    refine a_loopG3 (fun (i : Nat) (G : List Int) (v : Value) => [(3, .ip [nodsA tn, edgsA te]), (4, .ip [bytesA dn, .im 3 (de.map c83)]), (6, .pt U6 0 0 0), (7, ints K), (9, .pt ug 0 0 0), (10, AI i)]) (fun i G v => [(ug, .box [.lit v, nilS]), (v, .row 3 1 (rowI G)), (U6, .box [nilS, nilS])]) (fun i G _ => i ≤ 8 ∧ i ≤ dn.length ∧ G.length = i ∧ ∀ x ∈ G, 0 ≤ x ∧ x < tn.length) (fun i _ _ => 8 - i) 0 [] (.slice none 0 0) ⟨by omega, Nat.zero_le _, rfl, fun x hx => by cases hx⟩ (.sub (by exact subQ) (.keep (.free (OSub.refl _)))) ?_
    rintro i G v ⟨hi8, hid, hG, hGr⟩
    have lG : (rowI G).length = G.length := by simp
    by_cases hgo : i < dn.length ∧ i < 8 ∧ 0 < K.length
    · obtain ⟨g1, g2, g3⟩ := hgo
      have h1 := List.getElem?_eq_getElem g1
      have hx := hd1 _ (List.getElem_mem g1)
      generalize dn[i] = x at h1 hx
      have xk : (dn.map c8)[(i : Int).toNat]? = some [A8 x] := map_get (f := c8) h1
      have hm0 := Int.emod_nonneg x (b := (K.length : Int)) (by omega)
      have hm1 := Int.emod_lt_of_pos x (b := (K.length : Int)) (by omega)
      have h2 := List.getElem?_eq_getElem (l := K) (i := (x % (K.length : Int)).toNat) (by omega)
      have hy := hKr _ (List.getElem_mem (l := K) (n := (x % (K.length : Int)).toNat) (by omega))
      generalize K[(x % (K.length : Int)).toNat] = y at h2 hy
      have yk : (rowI K)[(x % ((rowI K).length : Int)).toNat]? = some [AI y] := by rw [lK]; exact map_get (f := cI) h2
      rw [← lK] at hm0 hm1
      have hset : rowI (G ++ [y]) = rowI G ++ [[AI y]] := by simp [cI]
      have hG2 : ∀ z ∈ G ++ [y], 0 ≤ z ∧ z < tn.length := fun z hz => by
        rcases List.mem_append.1 hz with hz | hz
        · exact hGr z hz
        · simp at hz
          subst hz
          exact hy
      repeat (first | refine gN pk ?_ | (show AL _ _ _ _ _ _ _; first | refine jX tok xk ?_))
      refine a_regG ((List.range 18).map fun i => if inL [14, 15, 17] i = true then .eff else if inL [1, 4, 6, 7, 10, 12, 13] i = true then .read else .pure) [14] [0, 1, 2, 3, 4, 5, 6, 7, 8, 9, 10, 11, 12, 13] (.nd 14 [15, 16, 17] .stop .stop) mixed rfl rfl (by decide +kernel) ?_
      repeat' (first | (with_reducible show AG _ _ _ _ _ _ _ _ _ _; first | exact ag_none | refine ag_stop ?_ | refine ag_nd ?_ ?_) | (show AMid _ _ _ _; first | refine amid_f ?_ | refine amid_g (by first | exact OSub.refl _ | exact .drop (OSub.refl _) | exact .drop (.drop (OSub.refl _))) ?_) | refine gY pk ?_ | (show AL _ _ _ _ _ _ _; first | refine jO tok 0 ?_ | refine jX tok xk ?_ | refine s_conv tok rfl rfl rfl rfl rfl rfl rfl (IntWalk.i64_in _ (by omega)) ?_ | refine s_rem rfl rfl rfl rfl rfl rfl (by omega) (by omega) ?_ | refine s_index tok rfl rfl rfl rfl rfl rfl rfl rfl rfl hm0 yk ?_ | refine s_build1 tok rfl rfl rfl rfl rfl rfl rfl rfl (fun lv => ?_) | refine s_append1K tok 1 rfl rfl rfl rfl rfl rfl (by decide) rfl rfl rfl rfl (by omega) (by omega) (fun w hw => ?_) | refine s_storeB tok 0 rfl rfl rfl rfl rfl rfl rfl hw rfl (Nat.le_of_ble_eq_true rfl) rfl ?_) | fail)
      all_goals
        repeat (first | refine gA pk ?_)
        exact ⟨i + 1, G ++ [y], w, ⟨by omega, by omega, by simp; omega, hG2⟩, by omega, .sub (by exact subQ) (by rw [hset]; exact OSub.refl _)⟩
    have hex : dn.length ≤ i ∨ (i < dn.length ∧ 8 ≤ i) ∨ (i < dn.length ∧ i < 8 ∧ K.length = 0) := by omega
    rcases hex with hx | ⟨hx1, hx2⟩ | ⟨hx1, hx2, hx3⟩
    all_goals
      repeat (first | refine gA pk ?_)
      exact ⟨G, v, ⟨by omega, by omega, hGr⟩, .sub (by exact subQ) (OSub.refl _)⟩
  obtain ⟨G, v, ⟨hG8, hGd, hGr⟩, h⟩ := h
  refine a_goto h ?_
  clear h
  have lG : (rowI G).length = G.length := by simp
  refine a_mid (fun st L => ∃ (E : List Ed) (ve : Value), (E.length ≤ 10 ∧ E.length ≤ de.length) ∧ GoTo 157 st L (lk [(6, .pt U6 0 0 0), (9, .pt ug 0 0 0)]) [(v, .row 3 1 (rowI G)), (ve, .row 85 3 (E.map cEd)), (ug, .box [.lit v, .lit ve]), (U6, .box [nilS, nilS])]) ?_ (fun st L h => ?_)
  rotate_left
  · obtain ⟨E, ve, ⟨hE1, hE2⟩, h⟩ := h
    refine a_goto h ?_
    clear h
    refine a_goto (GoTo.freeze 0 rfl (FZS.refl _) [(ve, OB.row 85 3 (E.map cEd)), (ug, OB.box [ints G, .lit ve]), (U6, OB.box [nilS, nilS])] (fzo_row (hr3 _) (fzo_box ⟨FZ.here, FZ.refl _, trivial⟩ (fzo_box (FZL.refl _) trivial)))) ?_
    refine a_goto (GoTo.freeze 0 rfl (FZS.refl _) [(ug, OB.box [ints G, edsA E]), (U6, OB.box [nilS, nilS])] (fzo_box ⟨FZ.refl _, FZ.here, trivial⟩ (fzo_box (FZL.refl _) trivial))) ?_
    refine a_frzBox 0 9 rfl rfl ?_
    repeat (first | refine gV pk ?_ | (show AL _ _ _ _ _ _ _; first | refine jS tok 0 ?_))
    refine a_frzBox 0 6 rfl rfl ?_
    refine a_ret ?_
    exact ⟨.inr rfl, _, _, _, _, rfl, rfl, Turn.of (Sub.of_eq rfl) (OSub.none _), ⟨⟨G, E⟩, rfl, ⟨hG8, hGd⟩, hE1, hE2⟩, rfl⟩
  · repeat (first | refine gA pk ?_)
    refine a_loopG3 (fun (i : Nat) (E : List Ed) (ve : Value) => [(3, .ip [nodsA tn, edgsA te]), (4, .ip [bytesA dn, .im 3 (de.map c83)]), (6, .pt U6 0 0 0), (9, .pt ug 0 0 0), (11, AI i)]) (fun i E ve => [(v, .row 3 1 (rowI G)), (ve, .row 85 3 (E.map cEd)), (ug, .box [.lit v, .lit ve]), (U6, .box [nilS, nilS])]) (fun i E _ => i ≤ 10 ∧ i ≤ de.length ∧ E.length ≤ i) (fun i _ _ => 10 - i) 0 [] (.slice none 0 0) ⟨by omega, Nat.zero_le _, Nat.le_refl _⟩ ((GoTo.perm (List.Perm.swap _ _ _)).trans (.sub (by exact subQ) (.keep (.free (OSub.refl _))))) ?_
    rintro j E ve ⟨hj10, hjd, hE⟩
    have lE : (E.map cEd).length = E.length := by simp
    by_cases hgo : j < de.length ∧ j < 10 ∧ 0 < te.length
    rotate_left
    · have hex : de.length ≤ j ∨ (j < de.length ∧ 10 ≤ j) ∨ (j < de.length ∧ j < 10 ∧ te.length = 0) := by omega
      rcases hex with hx | ⟨hx1, hx2⟩ | ⟨hx1, hx2, hx3⟩
      all_goals
        repeat (first | refine gA pk ?_)
        exact ⟨E, ve, ⟨by omega, by omega⟩, .sub (by exact subQ) (OSub.refl _)⟩
    obtain ⟨g1, g2, g3⟩ := hgo
    have h1 := List.getElem?_eq_getElem g1
    have hx := hd2 _ (List.getElem_mem g1)
    generalize de[j] = c at h1 hx
    obtain ⟨c1, c2, c3⟩ := c
    obtain ⟨hc1, hc2, hc3⟩ := hx
    simp only at hc1 hc2 hc3
    have xk : (de.map c83)[(j : Int).toNat]? = some [A8 c1, A8 c2, A8 c3] := map_get (f := c83) h1
    have hm0 := Int.emod_nonneg c1 (b := (te.length : Int)) (by omega)
    have hm1 := Int.emod_lt_of_pos c1 (b := (te.length : Int)) (by omega)
    have h2 := List.getElem?_eq_getElem (l := te) (i := (c1 % (te.length : Int)).toNat) (by omega)
    have hy := hed _ (List.getElem_mem (l := te) (n := (c1 % (te.length : Int)).toNat) (by omega))
    generalize te[(c1 % (te.length : Int)).toNat] = ty at h2 hy
    obtain ⟨y1, yf, yt, y4, y5, y6, y7⟩ := ty
    simp only at hy
    have yk : (te.map cEdg)[(c1 % ((te.map cEdg).length : Int)).toNat]? = some [AS y1, AI yf, AI yt, AI y4, AI y5, AI y6, AI y7] := by rw [lte]; exact map_get (f := cEdg) h2
    rw [← lte] at hm0 hm1
    have sf := sam G E hG8 hGr yf hy.1 v ve
    have st := sam G E hG8 hGr yt hy.2 v ve
    repeat (first | refine gN pk ?_)
    refine a_regG ((List.range 12).map fun i => if inL [1, 3, 4, 5, 8, 9] i = true then .read else .pure) [] [0, 1, 2, 3, 4, 5, 6, 7, 8, 9, 10, 11] .stop mixed rfl rfl (by decide +kernel) ?_
    repeat' (first | (with_reducible show AG _ _ _ _ _ _ _ _ _ _; first | exact ag_none | refine ag_stop ?_ | refine ag_nd ?_ ?_) | (show AMid _ _ _ _; first | refine amid_f ?_ | refine amid_g (by first | exact OSub.refl _ | exact .drop (OSub.refl _) | exact .drop (.drop (OSub.refl _))) ?_) | refine gY pk ?_ | (show AL _ _ _ _ _ _ _; first | refine jX tok xk ?_ | refine s_arrIp tok rfl rfl rfl rfl rfl rfl rfl rfl (by decide) (by decide) ?_ | refine s_conv tok rfl rfl rfl rfl rfl rfl rfl (IntWalk.i64_in _ (by omega)) ?_ | refine s_rem rfl rfl rfl rfl rfl rfl (by omega) (by omega) ?_) | fail)
    refine a_mid (fun st L => ∃ (r1 r2 : List Int) (w1 w2 : Value), (r1.length ≤ 8 ∧ r2.length ≤ 8) ∧ GoTo 157 st L (lk [(3, .ip [nodsA tn, edgsA te]), (4, .ip [bytesA dn, .im 3 (de.map c83)]), (6, .pt U6 0 0 0), (9, .pt ug 0 0 0), (11, AI j), (12, AI (c1 % ((te.map cEdg).length : Int))), (13, .lit w1), (14, .lit w2)]) [(w2, .row 3 1 (rowI r2)), (v, .row 3 1 (rowI G)), (ve, .row 85 3 (E.map cEd)), (w1, .row 3 1 (rowI r1)), (ug, .box [.lit v, .lit ve]), (U6, .box [nilS, nilS])]) ?_ (fun st L h => ?_)
    · refine a_regG ((List.range 20).map fun i => if inL [8, 17] i = true then .eff else if inL [0, 1, 3, 5, 7, 9, 10, 12, 14, 16] i = true then .read else .pure) [8] [0, 1, 2, 3, 4, 5, 6, 7, 9, 10, 11, 12, 13, 14, 15, 16] (.nd 8 [17, 18, 19] .stop .stop) mixed rfl rfl (by decide +kernel) ?_
      repeat' (first | (with_reducible show AG _ _ _ _ _ _ _ _ _ _; first | exact ag_none | refine ag_stop ?_ | refine ag_nd ?_ ?_) | (show AMid _ _ _ _; first | refine amid_f ?_ | refine amid_g (by first | exact OSub.refl _ | exact .drop (OSub.refl _) | exact .drop (.drop (OSub.refl _))) ?_) | refine gY pk ?_ | (show AL _ _ _ _ _ _ _; first | refine jO tok 2 ?_ | refine jO tok 3 ?_ | refine s_index tok rfl rfl rfl rfl rfl rfl rfl rfl rfl hm0 yk ?_ | refine s_call (Lc := [(v, .row 3 1 (rowI G)), (ve, .row 85 3 (E.map cEd))]) (Lr := [(ug, .box [.lit v, .lit ve]), (U6, .box [nilS, nilS])]) rfl rfl rfl rfl rfl sf (SubL.of_eq rfl) (List.Perm.refl _) ?_; rintro _ _ ⟨r1, w1, rfl, q1, rfl⟩ | refine s_call (Lc := [(v, .row 3 1 (rowI G)), (ve, .row 85 3 (E.map cEd))]) (Lr := [(w1, .row 3 1 (rowI r1)), (ug, .box [.lit v, .lit ve]), (U6, .box [nilS, nilS])]) rfl rfl rfl rfl rfl st (SubL.of_eq rfl) (List.perm_middle (l₁ := [_, _]) (l₂ := [_, _])).symm ?_; rintro _ _ ⟨r2, w2, rfl, q2, rfl⟩) | fail)
      exact ⟨r1, r2, w1, w2, ⟨by omega, by omega⟩, .sub (by exact subQ) (OSub.refl _)⟩
    obtain ⟨r1, r2, w1, w2, ⟨q1, q2⟩, h⟩ := h
    refine a_goto h ?_
    clear h sf st
    have lr1 : (rowI r1).length = r1.length := by simp
    have lr2 : (rowI r2).length = r2.length := by simp
    by_cases hboth : 0 < r1.length ∧ 0 < r2.length
    rotate_left
    · have hex : r1.length = 0 ∨ (0 < r1.length ∧ r2.length = 0) := by omega
      rcases hex with hx | ⟨hx1, hx2⟩
      all_goals
        repeat (first | refine gA pk ?_ | (show AL _ _ _ _ _ _ _; first | refine s_ownLen tok 3 rfl rfl rfl rfl (by decide) rfl rfl rfl ?_ | refine s_ownLen tok 0 rfl rfl rfl rfl (by decide) rfl rfl rfl ?_))
        exact ⟨j + 1, E, ve, ⟨by omega, by omega, by omega⟩, by omega, GoTo.sub (by exact subQ) (.drop (.keep (.keep (.drop (OSub.refl _)))))⟩
    obtain ⟨b1, b2⟩ := hboth
    have p0 := Int.emod_nonneg c2 (b := ((rowI r1).length : Int)) (by omega)
    have p1 := Int.emod_lt_of_pos c2 (b := ((rowI r1).length : Int)) (by omega)
    have p2 := Int.emod_nonneg c3 (b := ((rowI r2).length : Int)) (by omega)
    have p3 := Int.emod_lt_of_pos c3 (b := ((rowI r2).length : Int)) (by omega)
    have x1 := List.getElem?_eq_getElem (l := r1) (i := (c2 % ((rowI r1).length : Int)).toNat) (by omega)
    have x2 := List.getElem?_eq_getElem (l := r2) (i := (c3 % ((rowI r2).length : Int)).toNat) (by omega)
    generalize r1[(c2 % ((rowI r1).length : Int)).toNat] = z1 at x1
    generalize r2[(c3 % ((rowI r2).length : Int)).toNat] = z2 at x2
    have hset : (E ++ [(⟨c1 % ((te.map cEdg).length : Int), z1, z2⟩ : Ed)]).map cEd = E.map cEd ++ [[AI (c1 % ((te.map cEdg).length : Int)), AI z1, AI z2]] := by simp [cEd]
    repeat (first | refine gN pk ?_ | (show AL _ _ _ _ _ _ _; first | refine s_ownLen tok 3 rfl rfl rfl rfl (by decide) rfl rfl rfl ?_ | refine s_ownLen tok 0 rfl rfl rfl rfl (by decide) rfl rfl rfl ?_))
    refine a_regG ((List.range 34).map fun i => if inL [30, 31, 33] i = true then .eff else if inL [1, 5, 7, 8, 9, 12, 14, 15, 18, 20, 21, 22, 25, 27, 28] i = true then .read else .pure) [30] [0, 1, 2, 3, 4, 5, 6, 7, 8, 9, 10, 11, 12, 13, 14, 15, 16, 17, 18, 19, 20, 21, 22, 23, 24, 25, 26, 27, 28, 29] (.nd 30 [31, 32, 33] .stop .stop) mixed rfl rfl (by decide +kernel) ?_
    repeat' (first | (with_reducible show AG _ _ _ _ _ _ _ _ _ _; first | exact ag_none | refine ag_stop ?_ | refine ag_nd ?_ ?_) | (show AMid _ _ _ _; first | refine amid_f ?_ | refine amid_g (by first | exact OSub.refl _ | exact .drop (OSub.refl _) | exact .drop (.drop (OSub.refl _))) ?_) | refine gY pk ?_ | (show AL _ _ _ _ _ _ _; first | refine jO tok 4 ?_ | refine jX tok xk ?_ | refine s_ownLen tok 3 rfl rfl rfl rfl (by decide) rfl rfl rfl ?_ | refine s_ownLen tok 0 rfl rfl rfl rfl (by decide) rfl rfl rfl ?_ | refine s_arrIp tok rfl rfl rfl rfl rfl rfl rfl rfl (by decide) (by decide) ?_ | refine s_conv tok rfl rfl rfl rfl rfl rfl rfl (IntWalk.i64_in _ (by omega)) ?_ | refine s_rem rfl rfl rfl rfl rfl rfl (by omega) (by omega) ?_ | refine s_ownIndex tok 3 rfl rfl rfl rfl (by decide) rfl rfl rfl rfl rfl rfl p0 p1 ?_ | refine s_loadI tok 3 rfl rfl rfl rfl (by decide) rfl rfl rfl rfl x1 ?_ | refine s_ownIndex tok 0 rfl rfl rfl rfl (by decide) rfl rfl rfl rfl rfl rfl p2 p3 ?_ | refine s_loadI tok 0 rfl rfl rfl rfl (by decide) rfl rfl rfl rfl x2 ?_ | refine s_build1A tok rfl rfl rfl rfl rfl rfl rfl rfl (by decide) (fun lv => ?_) | refine s_append1K tok 2 rfl rfl rfl rfl rfl rfl (by decide) rfl rfl rfl rfl (by omega) (by omega) (fun w hw => ?_) | refine s_storeB tok 4 rfl rfl rfl rfl rfl rfl rfl hw rfl (Nat.le_of_ble_eq_true rfl) rfl ?_) | fail)
    repeat (first | refine gA pk ?_)
    exact ⟨j + 1, E ++ [(⟨c1 % ((te.map cEdg).length : Int), z1, z2⟩ : Ed)], w, ⟨by omega, by omega, by simp; omega⟩, by omega, GoTo.sub (by exact subQ) (by rw [hset]; exact .drop (.keep (.keep (.drop (OSub.refl _)))))⟩
end Go.Proofs.YtddohheabpiljaaGreat
end
