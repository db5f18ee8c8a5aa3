/-
  Parts of the proof of the law IncrementalOpposite (texts W65): steps, plain mathematics, contracts of functions. Each theorem states its own conditions.
-/
import Derived.Test.YtddohheabpiljaaGreatB04
import Derived.Test.YtddohheabpiljaaGreatB07
import Derived.Test.YtddohheabpiljaaGreatB09
import Derived.Test.YtddohheabpiljaaGreatB10
import Derived.Test.YtddohheabpiljaaGreatB11
import Derived.Test.YtddohheabpiljaaGreatB12
import Derived.Test.YtddohheabpiljaaGreatB39
import Derived.Test.YtddohheabpiljaaGreatB50
section
/-
  The law IncrementalOpposite: both texts, the walk. No condition.
-/
namespace Go.Proofs.YtddohheabpiljaaGreat
open Go.Sj Go.Sj.Typ Go.Sj.Sta Go.Sj.Inc
set_option maxRecDepth 8000
set_option linter.unusedVariables false
set_option linter.unusedSimpArgs false
set_option maxHeartbeats 16000000

abbrev edt0 : Edt := ⟨0, 0, 0, 0, 0⟩
/-- What Opposite returns. -/
def oppE (g : Gr) (e : Edt) : Edt × Int :=
  if gvalid g ≠ 0 then (edt0, gvalid g)
  else if editE g e 100 100 ≠ 0 then (edt0, editE g e 100 100)
  else if e.kind = 1 then (⟨3, g.nodes.length, 0, 0, 0⟩, 0)
  else if e.kind = 2 then (⟨4, g.edges.length, 0, 0, 0⟩, 0)
  else if e.kind = 3 then (if e.idx = (g.nodes.length : Int) - 1 then (⟨1, 0, g.nodes[e.idx.toNat]?.getD 0, 0, 0⟩, 0) else (edt0, 8))
  else (if e.idx = (g.edges.length : Int) - 1 then
      (match g.edges[e.idx.toNat]? with
       | some x => (⟨2, 0, x.ty, x.fr, x.to⟩, 0)
       | none => (edt0, 0)) else (edt0, 8))
theorem editE_kind {g : Gr} {e : Edt} {a b : Int} (h : editE g e a b = 0) : (e.kind = 1 ∨ e.kind = 2 ∨ e.kind = 3 ∨ e.kind = 4) ∧ (e.kind = 3 → 0 ≤ e.idx ∧ e.idx < g.nodes.length) ∧ (e.kind = 4 → 0 ≤ e.idx ∧ e.idx < g.edges.length) := by
  unfold editE at h
  by_cases h1 : e.kind = 1
  · exact ⟨by omega, fun h => by omega, fun h => by omega⟩
  · rw [if_neg h1] at h
    by_cases h2 : e.kind = 2
    · exact ⟨by omega, fun h => by omega, fun h => by omega⟩
    · rw [if_neg h2] at h
      by_cases h3 : e.kind = 3
      · rw [if_pos h3] at h
        refine ⟨by omega, fun _ => ?_, fun h => by omega⟩
        by_cases h4 : 0 ≤ e.idx ∧ e.idx < g.nodes.length
        · exact h4
        · rw [if_neg h4] at h; cases h
      · rw [if_neg h3] at h
        by_cases h5 : e.kind = 4
        · rw [if_pos h5] at h
          refine ⟨by omega, fun h => by omega, fun _ => ?_⟩
          by_cases h4 : 0 ≤ e.idx ∧ e.idx < g.edges.length
          · exact h4
          · rw [if_neg h4] at h; cases h
        · rw [if_neg h5] at h; cases h
theorem iopp_spec (g : Gr) (hg : OkG g) (hgl : g.nodes.length ≤ 1000000) (hel : g.edges.length ≤ 1000000) (e : Edt) : Pure Tryz.prog 28 [grA g, .agg (cEt e)] (.tup [.agg (cEt (oppE g e).1), AI (oppE g e).2]) := by
  have s1 := gvalid_spec g hg
  have s2 := iedit_spec g hg hel e 100 100
  obtain ⟨r, hr⟩ : ∃ r, oppE g e = r := ⟨_, rfl⟩
  rw [hr]
  unfold oppE at hr
  have hk := fun h => editE_kind (g := g) (e := e) (a := 100) (b := 100) h
  have ll : (rowI g.nodes).length = g.nodes.length := by simp
  have le : (g.edges.map cEd).length = g.edges.length := by simp
  generalize gvalid g = vv at *
  generalize editE g e 100 100 = ee at *
  obtain ⟨gn, ge⟩ := g
  obtain ⟨k, i, ty, fr, to⟩ := e
  simp only at hr hk hgl hel ll le
  change Pure _ _ [.agg [ints gn, edsA ge], .agg [AI k, AI i, AI ty, AI fr, AI to], AI 100, AI 100] _ at s2
  change Pure _ _ [.agg [ints gn, edsA ge], .agg [AI k, AI i, AI ty, AI fr, AI to]] _
  refine a_enterM (rs := [.cell 4 47, .tmp 5]) tok Tryz.func28 (by kernel_rfl) rfl Tryz.ntmps28 rfl (by decide) (by simp) ?_
  refine a_seq ?_
  refine a_reg ?_
  repeat (first | refine gZ pk ?_ | (show AL _ _ _ _ _ _ _; first | refine jB (fun u => ?_) | refine jL tok (fun U4 => ?_)))
  refine a_frzBox 2 2 rfl rfl ?_
  refine a_frzBox 1 3 rfl rfl ?_
  by_cases hv : vv = 0
  rotate_left
  · rw [if_pos hv] at hr
    subst hr
    repeat (first | refine gV pk ?_ | (show AL _ _ _ _ _ _ _; first | refine jP s1 ?_ | refine jS tok 0 ?_))
    refine a_frzBox 0 4 rfl rfl ?_
    refine a_ret ?_
    exact ⟨.inr rfl, _, _, [], rfl, Turn.of (Sub.refl _) (OSub.none _), rfl, rfl⟩
  subst hv
  rw [if_neg (by decide)] at hr
  by_cases he : ee = 0
  rotate_left
  · rw [if_pos he] at hr
    subst hr
    repeat (first | refine gV pk ?_ | (show AL _ _ _ _ _ _ _; first | refine jP s1 ?_ | refine jP s2 ?_ | refine jS tok 0 ?_))
    refine a_frzBox 0 4 rfl rfl ?_
    refine a_ret ?_
    exact ⟨.inr rfl, _, _, [], rfl, Turn.of (Sub.refl _) (OSub.none _), rfl, rfl⟩
  subst he
  rw [if_neg (by decide)] at hr
  obtain ⟨hk1, hk3, hk4⟩ := hk rfl
  by_cases h1 : k = 1
  · subst h1
    rw [if_pos rfl] at hr
    subst hr
    repeat (first | refine gV pk ?_ | (show AL _ _ _ _ _ _ _; first | refine jP s1 ?_ | refine jP s2 ?_ | refine jS tok 0 ?_))
    refine a_frzBox 0 4 rfl rfl ?_
    refine a_ret ?_
    rw [ll]
    exact ⟨.inr rfl, _, _, [], rfl, Turn.of (Sub.refl _) (OSub.none _), rfl, rfl⟩
  rw [if_neg h1] at hr
  by_cases h2 : k = 2
  · subst h2
    rw [if_pos rfl] at hr
    subst hr
    repeat (first | refine gV pk ?_ | (show AL _ _ _ _ _ _ _; first | refine jP s1 ?_ | refine jP s2 ?_ | refine jS tok 0 ?_))
    refine a_frzBox 0 4 rfl rfl ?_
    refine a_ret ?_
    rw [le]
    exact ⟨.inr rfl, _, _, [], rfl, Turn.of (Sub.refl _) (OSub.none _), rfl, rfl⟩
  rw [if_neg h2] at hr
  by_cases h3 : k = 3
  · subst h3
    rw [if_pos rfl] at hr
    replace hk3 := hk3 rfl
    by_cases h : i = (gn.length : Int) - 1
    · rw [if_pos h] at hr
      have hx := List.getElem?_eq_getElem (l := gn) (i := i.toNat) (by omega)
      generalize gn[i.toNat] = x at hx
      rw [hx, Option.getD_some] at hr
      have xk : (rowI gn)[i.toNat]? = some [AI x] := map_get (f := cI) hx
      subst hr
      repeat (first | refine gV pk ?_ | (show AL _ _ _ _ _ _ _; first | refine jP s1 ?_ | refine jP s2 ?_ | refine jS tok 0 ?_ | refine jX tok xk ?_))
      refine a_frzBox 0 4 rfl rfl ?_
      refine a_ret ?_
      exact ⟨.inr rfl, _, _, [], rfl, Turn.of (Sub.refl _) (OSub.none _), rfl, rfl⟩
    · rw [if_neg h] at hr
      subst hr
      repeat (first | refine gV pk ?_ | (show AL _ _ _ _ _ _ _; first | refine jP s1 ?_ | refine jP s2 ?_ | refine jS tok 0 ?_))
      refine a_frzBox 0 4 rfl rfl ?_
      refine a_ret ?_
      exact ⟨.inr rfl, _, _, [], rfl, Turn.of (Sub.refl _) (OSub.none _), rfl, rfl⟩
  rw [if_neg h3] at hr
  obtain rfl : k = 4 := by omega
  replace hk4 := hk4 rfl
  by_cases h : i = (ge.length : Int) - 1
  · rw [if_pos h] at hr
    have hx := List.getElem?_eq_getElem (l := ge) (i := i.toNat) (by omega)
    generalize ge[i.toNat] = x at hx
    obtain ⟨x1, x2, x3⟩ := x
    rw [hx] at hr
    simp only at hr
    have xk : (ge.map cEd)[i.toNat]? = some [AI x1, AI x2, AI x3] := map_get (f := cEd) hx
    subst hr
    repeat (first | refine gV pk ?_ | (show AL _ _ _ _ _ _ _; first | refine jP s1 ?_ | refine jP s2 ?_ | refine jX tok xk ?_ | refine jL tok (fun U8 => ?_) | refine jO tok 0 ?_ | refine jS tok 0 ?_ | refine jS tok 1 ?_))
    refine a_frzBox 1 4 rfl rfl ?_
    refine a_ret ?_
    exact ⟨.inr rfl, _, _, [], rfl, Turn.of (Sub.refl _) (OSub.none _), rfl, rfl⟩
  · rw [if_neg h] at hr
    subst hr
    repeat (first | refine gV pk ?_ | (show AL _ _ _ _ _ _ _; first | refine jP s1 ?_ | refine jP s2 ?_ | refine jS tok 0 ?_))
    refine a_frzBox 0 4 rfl rfl ?_
    refine a_ret ?_
    exact ⟨.inr rfl, _, _, [], rfl, Turn.of (Sub.refl _) (OSub.none _), rfl, rfl⟩
theorem gopp_spec (g : Gr) (hg : OkG g) (hgl : g.nodes.length ≤ 1000000) (hel : g.edges.length ≤ 1000000) (e : Edt) : Pure Tryz.prog 30 [grA g, .agg (cEt e)] (.tup [.agg (cEt (oppE g e).1), AI (oppE g e).2]) := by
  have s1 := refgvalid_spec g hg
  have s2 := gedit_spec g hg hel e 100 100
  obtain ⟨r, hr⟩ : ∃ r, oppE g e = r := ⟨_, rfl⟩
  rw [hr]
  unfold oppE at hr
  have hk := fun h => editE_kind (g := g) (e := e) (a := 100) (b := 100) h
  have ll : (rowI g.nodes).length = g.nodes.length := by simp
  have le : (g.edges.map cEd).length = g.edges.length := by simp
  generalize gvalid g = vv at *
  generalize editE g e 100 100 = ee at *
  obtain ⟨gn, ge⟩ := g
  obtain ⟨k, i, ty, fr, to⟩ := e
  simp only at hr hk hgl hel ll le
  change Pure _ _ [.agg [ints gn, edsA ge], .agg [AI k, AI i, AI ty, AI fr, AI to], AI 100, AI 100] _ at s2
  change Pure _ _ [.agg [ints gn, edsA ge], .agg [AI k, AI i, AI ty, AI fr, AI to]] _
  refine a_enterM (rs := [.cell 4 47, .tmp 5]) tok Tryz.func30 (by kernel_rfl) rfl Tryz.ntmps30 rfl (by decide) (by simp) ?_
  refine a_seq ?_
  refine a_reg ?_
  repeat (first | refine gZ pk ?_ | (show AL _ _ _ _ _ _ _; first | refine jB (fun u => ?_) | refine jL tok (fun U4 => ?_)))
  refine a_frzBox 2 2 rfl rfl ?_
  refine a_frzBox 1 3 rfl rfl ?_
  by_cases hv : vv = 0
  rotate_left
  · rw [if_pos hv] at hr
    subst hr
    repeat (first | refine gV pk ?_ | (show AL _ _ _ _ _ _ _; first | refine jP s1 ?_ | refine jS tok 0 ?_))
    refine a_frzBox 0 4 rfl rfl ?_
    refine a_ret ?_
    exact ⟨.inr rfl, _, _, [], rfl, Turn.of (Sub.refl _) (OSub.none _), rfl, rfl⟩
  subst hv
  rw [if_neg (by decide)] at hr
  by_cases he : ee = 0
  rotate_left
  · rw [if_pos he] at hr
    subst hr
    repeat (first | refine gV pk ?_ | (show AL _ _ _ _ _ _ _; first | refine jP s1 ?_ | refine jP s2 ?_ | refine jS tok 0 ?_))
    refine a_frzBox 0 4 rfl rfl ?_
    refine a_ret ?_
    exact ⟨.inr rfl, _, _, [], rfl, Turn.of (Sub.refl _) (OSub.none _), rfl, rfl⟩
  subst he
  rw [if_neg (by decide)] at hr
  obtain ⟨hk1, hk3, hk4⟩ := hk rfl
  by_cases h1 : k = 1
  · subst h1
    rw [if_pos rfl] at hr
    subst hr
    repeat (first | refine gV pk ?_ | (show AL _ _ _ _ _ _ _; first | refine jP s1 ?_ | refine jP s2 ?_ | refine jS tok 0 ?_))
    refine a_frzBox 0 4 rfl rfl ?_
    refine a_ret ?_
    rw [ll]
    exact ⟨.inr rfl, _, _, [], rfl, Turn.of (Sub.refl _) (OSub.none _), rfl, rfl⟩
  rw [if_neg h1] at hr
  by_cases h2 : k = 2
  · subst h2
    rw [if_pos rfl] at hr
    subst hr
    repeat (first | refine gV pk ?_ | (show AL _ _ _ _ _ _ _; first | refine jP s1 ?_ | refine jP s2 ?_ | refine jS tok 0 ?_))
    refine a_frzBox 0 4 rfl rfl ?_
    refine a_ret ?_
    rw [le]
    exact ⟨.inr rfl, _, _, [], rfl, Turn.of (Sub.refl _) (OSub.none _), rfl, rfl⟩
  rw [if_neg h2] at hr
  by_cases h3 : k = 3
  · subst h3
    rw [if_pos rfl] at hr
    replace hk3 := hk3 rfl
    by_cases h : i = (gn.length : Int) - 1
    · rw [if_pos h] at hr
      have hx := List.getElem?_eq_getElem (l := gn) (i := i.toNat) (by omega)
      generalize gn[i.toNat] = x at hx
      rw [hx, Option.getD_some] at hr
      have xk : (rowI gn)[i.toNat]? = some [AI x] := map_get (f := cI) hx
      subst hr
      repeat (first | refine gV pk ?_ | (show AL _ _ _ _ _ _ _; first | refine jP s1 ?_ | refine jP s2 ?_ | refine jS tok 0 ?_ | refine jX tok xk ?_))
      refine a_frzBox 0 4 rfl rfl ?_
      refine a_ret ?_
      exact ⟨.inr rfl, _, _, [], rfl, Turn.of (Sub.refl _) (OSub.none _), rfl, rfl⟩
    · rw [if_neg h] at hr
      subst hr
      repeat (first | refine gV pk ?_ | (show AL _ _ _ _ _ _ _; first | refine jP s1 ?_ | refine jP s2 ?_ | refine jS tok 0 ?_))
      refine a_frzBox 0 4 rfl rfl ?_
      refine a_ret ?_
      exact ⟨.inr rfl, _, _, [], rfl, Turn.of (Sub.refl _) (OSub.none _), rfl, rfl⟩
  rw [if_neg h3] at hr
  obtain rfl : k = 4 := by omega
  replace hk4 := hk4 rfl
  by_cases h : i = (ge.length : Int) - 1
  · rw [if_pos h] at hr
    have hx := List.getElem?_eq_getElem (l := ge) (i := i.toNat) (by omega)
    generalize ge[i.toNat] = x at hx
    obtain ⟨x1, x2, x3⟩ := x
    rw [hx] at hr
    simp only at hr
    have xk : (ge.map cEd)[i.toNat]? = some [AI x1, AI x2, AI x3] := map_get (f := cEd) hx
    subst hr
    repeat (first | refine gV pk ?_ | (show AL _ _ _ _ _ _ _; first | refine jP s1 ?_ | refine jP s2 ?_ | refine jX tok xk ?_ | refine jL tok (fun U8 => ?_) | refine jO tok 0 ?_ | refine jS tok 0 ?_ | refine jS tok 1 ?_))
    refine a_frzBox 1 4 rfl rfl ?_
    refine a_ret ?_
    exact ⟨.inr rfl, _, _, [], rfl, Turn.of (Sub.refl _) (OSub.none _), rfl, rfl⟩
  · rw [if_neg h] at hr
    subst hr
    repeat (first | refine gV pk ?_ | (show AL _ _ _ _ _ _ _; first | refine jP s1 ?_ | refine jP s2 ?_ | refine jS tok 0 ?_))
    refine a_frzBox 0 4 rfl rfl ?_
    refine a_ret ?_
    exact ⟨.inr rfl, _, _, [], rfl, Turn.of (Sub.refl _) (OSub.none _), rfl, rfl⟩
theorem se_edt : SE Tryz.prog 47 5 := se_of Tryz.underlying47 (by kernel_rfl) (by kernel_rfl) rfl (by kernel_rfl)
theorem IncrementalOpposite_spec (g : Gr) (hg : OkG g) (e : Edt) : Pure Tryz.prog 8 [grA g, .agg (cEt e)] (AB true) := by
  have sa := awakeI_spec
  have sf := gfew_spec g
  by_cases hf : g.nodes.length ≤ 45 ∧ g.edges.length ≤ 90
  · rw [decide_eq_true hf] at sf
    have sc := gCopied_spec g (by omega) (by omega)
    have si := iopp_spec g hg (by omega) (by omega) e
    have sr := gopp_spec g hg (by omega) (by omega) e
    generalize oppE g e = r at *
    obtain ⟨⟨r1, r2, r3, r4, r5⟩, rc⟩ := r
    obtain ⟨gn, ge⟩ := g
    obtain ⟨k, i, ty, fr, to⟩ := e
    change Pure _ _ [.agg [ints gn, edsA ge], .agg [AI k, AI i, AI ty, AI fr, AI to]] _
    change Pure _ _ [.agg [ints gn, edsA ge]] _ at sf
    change Pure _ _ [.agg [ints gn, edsA ge]] (.agg [ints gn, edsA ge]) at sc
    change Pure _ _ [.agg [ints gn, edsA ge], .agg [AI k, AI i, AI ty, AI fr, AI to]] (.tup [.agg [AI r1, AI r2, AI r3, AI r4, AI r5], AI rc]) at si sr
    refine a_enter Tryz.func8 (by kernel_rfl) rfl Tryz.ntmps8 rfl (by simp) ?_
    refine a_seq ?_
    refine a_reg ?_
    repeat (first | refine gZ pk ?_ | (show AL _ _ _ _ _ _ _; first | refine jB (fun u => ?_)))
    refine a_frzBox 1 2 rfl rfl ?_
    refine a_frzBox 0 3 rfl rfl ?_
    repeat (first | refine gN pk ?_ | (show AL _ _ _ _ _ _ _; first | refine jP sa ?_ | refine jP sf ?_))
    refine a_regG ((List.range 10).map fun i => if inL [1, 3, 7, 8] i = true then .eff else if inL [0, 2] i = true then .read else .pure) [1, 7] [0, 2] (.nd 1 [] (.nd 3 [4, 5, 6] (.nd 7 [8, 9] .stop .stop) (.nd 7 [3, 4, 5, 6, 8, 9] .stop .stop)) (.nd 7 [] (.nd 1 [3, 4, 5, 6, 8, 9] .stop .stop) .stop)) mixed rfl rfl (by decide +kernel) ?_
    repeat' (first | (with_reducible show AG _ _ _ _ _ _ _ _ _ _; first | exact ag_none | refine ag_stop ?_ | refine ag_nd ?_ ?_) | (show AMid _ _ _ _; first | refine amid_f ?_ | refine amid_g (by first | exact OSub.refl _ | exact .drop (OSub.refl _) | exact .drop (.drop (OSub.refl _))) ?_) | refine gY pk ?_ | (show AL _ _ _ _ _ _ _; first | refine jP sc ?_ | refine jP si ?_ | refine jP sr ?_ | refine jL tok (fun ux => ?_) | refine jS tok 0 ?_ | refine jO tok 0 ?_) | fail)
    all_goals
      repeat (first | refine gA pk ?_ | (show AL _ _ _ _ _ _ _; first | refine jP sr ?_ | refine jL tok (fun ux => ?_) | refine jS tok 0 ?_ | refine jO tok 0 ?_ | refine jO tok 1 ?_ | refine s_seq (b := true) (xs := [r1, r2, r3, r4, r5]) (ys := [r1, r2, r3, r4, r5]) se_edt rfl rfl rfl rfl rfl rfl rfl rfl (decide_eq_true rfl) ?_))
      refine finQ ?_
      exact ⟨rfl, rfl⟩
  · rw [decide_eq_false hf] at sf
    obtain ⟨gn, ge⟩ := g
    obtain ⟨k, i, ty, fr, to⟩ := e
    change Pure _ _ [.agg [ints gn, edsA ge], .agg [AI k, AI i, AI ty, AI fr, AI to]] _
    change Pure _ _ [.agg [ints gn, edsA ge]] _ at sf
    refine a_enter Tryz.func8 (by kernel_rfl) rfl Tryz.ntmps8 rfl (by simp) ?_
    refine a_seq ?_
    refine a_reg ?_
    repeat (first | refine gZ pk ?_ | (show AL _ _ _ _ _ _ _; first | refine jB (fun u => ?_)))
    refine a_frzBox 1 2 rfl rfl ?_
    refine a_frzBox 0 3 rfl rfl ?_
    repeat (first | refine gA pk ?_ | (show AL _ _ _ _ _ _ _; first | refine jP sa ?_ | refine jP sf ?_))
    refine finQ ?_
    exact ⟨rfl, rfl⟩
end Go.Proofs.YtddohheabpiljaaGreat

end
