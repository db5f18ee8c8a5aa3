/-
  Parts of the proof of the law IncrementalOpposite (texts W51): steps, plain mathematics, contracts of functions. Each theorem states its own conditions.
-/
import Derived.Test.YtddohheabpiljaaGreatB09
import Derived.Test.YtddohheabpiljaaGreatB36
section
/-
  Watches: copies, equal graphs, New (program and reference). Conditions: small type graphs.
-/
namespace Go.Proofs.YtddohheabpiljaaGreat
open Go.Sj Go.Sj.Typ Go.Sj.Sta Go.Sj.Inc
set_option maxRecDepth 8000
set_option linter.unusedVariables false
set_option linter.unusedSimpArgs false
set_option maxHeartbeats 16000000

theorem gCopied_spec (g : Gr) (h1 : g.nodes.length ≤ 1000) (h2 : g.edges.length ≤ 1000) : Pure Tryz.prog 29 [grA g] (grA g) := by
  have ln : (rowI g.nodes).length = g.nodes.length := by simp
  have le : (g.edges.map cEd).length = g.edges.length := by simp
  refine a_enterC Tryz.func29 (by kernel_rfl) rfl Tryz.ntmps29 rfl (tok _ _ rfl) (by simp) ?_
  refine a_seq ?_
  refine a_reg ?_
  repeat (first | refine gZ pk ?_ | (show AL _ _ _ _ _ _ _; first | refine jB (fun u => ?_) | refine jL tok (fun u2 => ?_)))
  refine a_frzBox 1 1 rfl rfl ?_
  refine AWp.mono (Q := fun e st L => e = .normal ∧ GoTo 12 st L (lk [(2, .pt u2 0 0 0)]) [(u2, .box [ints g.nodes, edsA g.edges])]) ?_ (fun e st L h => ?_)
  · refine a_regXP [1, 2, 5, 6] (.nd [0] (.nd [3, 4, 7, 8, 9] .stop (.nd [4, 3, 7, 8, 9] .stop .stop)) (.nd [4, 0, 3, 7, 8, 9] .stop .stop)) mixed rfl rfl (by decide +kernel) ?_
    repeat' (first | (with_reducible show AX _ _ _ _ _ _ _ _ _; first | exact ax_none | refine ax_stop ?_ | refine ax_nd ?_ ?_) | refine gY pk ?_ | (show AL _ _ _ _ _ _ _; first | refine s_build tok (parts := []) rfl rfl rfl rfl rfl rfl rfl rfl (by decide) (by decide) (fun v => ?_) | refine s_appendImF tok 0 rfl rfl rfl rfl rfl rfl (by decide) rfl rfl rfl rfl (rowI_cell _) (by simp only [ln, le, List.length_nil]; omega) (by simp only [ln, le, List.length_nil]; omega) ?_ | refine s_appendImF tok 0 rfl rfl rfl rfl rfl rfl (by decide) rfl rfl rfl rfl (cEd_cell _) (by simp only [ln, le, List.length_nil]; omega) (by simp only [ln, le, List.length_nil]; omega) ?_ | refine s_appendImF tok 1 rfl rfl rfl rfl rfl rfl (by decide) rfl rfl rfl rfl (rowI_cell _) (by simp only [ln, le, List.length_nil]; omega) (by simp only [ln, le, List.length_nil]; omega) ?_ | refine s_appendImF tok 1 rfl rfl rfl rfl rfl rfl (by decide) rfl rfl rfl rfl (cEd_cell _) (by simp only [ln, le, List.length_nil]; omega) (by simp only [ln, le, List.length_nil]; omega) ?_ | refine jS tok 0 ?_ | refine jS tok 1 ?_) | fail)
    all_goals exact ⟨rfl, GoTo.sub (by exact subQ) (OSub.refl _)⟩
  · obtain ⟨rfl, h⟩ := h
    refine a_goto h ?_
    refine a_frzBox 0 2 rfl rfl ?_
    repeat (first | refine gA pk ?_)
    exact ⟨.inr rfl, _, _, _, _, rfl, rfl, Turn.of (Sub.of_eq rfl) (OSub.refl _), rfl, rfl⟩
theorem icopied_spec (g : Gr) (h1 : g.nodes.length ≤ 1000) (h2 : g.edges.length ≤ 1000) : Pure Tryz.prog 35 [grA g] (grA g) := by
  have s1 := (CloneN_spec g.nodes (by omega)).pure
  have s2 := (CloneG_spec g.edges (by omega)).pure
  refine a_enterC Tryz.func35 (by kernel_rfl) rfl Tryz.ntmps35 rfl (tok _ _ rfl) (by simp) ?_
  refine a_seq ?_
  refine a_reg ?_
  repeat (first | refine gZ pk ?_ | (show AL _ _ _ _ _ _ _; first | refine jB (fun ug => ?_) | refine jL tok (fun U2 => ?_)))
  refine a_frzBox 1 1 rfl rfl ?_
  refine a_regG ((List.range 8).map fun i => if inL [2, 5, 7] i = true then .eff else .pure) [] [0, 1, 3, 4, 2, 5, 6, 7] .stop mixed rfl rfl (by decide +kernel) ?_
  repeat' (first | (with_reducible show AG _ _ _ _ _ _ _ _ _ _; first | exact ag_none | refine ag_stop ?_ | refine ag_nd ?_ ?_) | (show AMid _ _ _ _; first | refine amid_f ?_ | refine amid_g (by first | exact OSub.refl _ | exact .drop (OSub.refl _) | exact .drop (.drop (OSub.refl _))) ?_) | refine gY pk ?_ | (show AL _ _ _ _ _ _ _; first | refine jP s1 ?_ | refine jP s2 ?_ | refine jS tok 0 ?_) | fail)
  refine a_frzBox 0 2 rfl rfl ?_
  repeat (first | refine gA pk ?_)
  exact ⟨.inr rfl, _, _, _, _, rfl, rfl, Turn.of (Sub.of_eq rfl) (OSub.none _), rfl, rfl⟩
theorem ipatterns_spec (ps : List Gr) (hps : ∀ p ∈ ps, p.nodes.length ≤ 1000 ∧ p.edges.length ≤ 1000) (hl : ps.length ≤ 1000) : Pure Tryz.prog 34 [grsA ps] (grsA ps) := by
  have lps : (ps.map cGr).length = ps.length := by simp
  refine a_enter Tryz.func34 (by kernel_rfl) rfl Tryz.ntmps34 rfl (by simp) ?_
  repeat (first | refine gA pk ?_)
  rw [lps]
  refine a_loopG2 (fun (i : Nat) (vo : Value) => [(3, .lit vo), (6, grsA ps), (7, AI ps.length), (8, AI i)]) (fun i vo => [(vo, .row 30 2 ((ps.take i).map cGr))]) (fun i _ => i ≤ ps.length) (fun i _ => ps.length - i) 0 (.slice none 0 0) (Nat.zero_le _) (.sub (by exact subQ) (.free (OSub.none _))) ?_
  intro i vo hi
  have hlp : ((ps.take i).map cGr).length = i := by rw [List.length_map, List.length_take]; omega
  rcases Nat.lt_or_ge i ps.length with h | h
  · have hp := List.getElem?_eq_getElem h
    have hpl := hps _ (List.getElem_mem h)
    generalize ps[i] = p at hp hpl
    have s1 := icopied_spec p hpl.1 hpl.2
    have xk : (ps.map cGr)[(i : Int).toNat]? = some (cGr p) := map_get (f := cGr) hp
    have hset : (ps.take (i + 1)).map cGr = (ps.take i).map cGr ++ [cGr p] := by rw [List.take_add_one, hp]; simp
    obtain ⟨pn, pe⟩ := p
    change Pure _ _ [.agg [ints pn, edsA pe]] (.agg [ints pn, edsA pe]) at s1
    repeat (first | refine gA pk ?_ | (show AL _ _ _ _ _ _ _; first | refine jX tok xk ?_ | refine jL tok (fun ux => ?_) | refine jS tok 0 ?_ | refine jO tok 0 ?_ | refine jP s1 ?_ | refine s_build1A tok rfl rfl rfl rfl rfl rfl rfl rfl (by decide) (fun lv => ?_) | refine s_append1K tok 1 rfl rfl rfl rfl rfl rfl (by decide) rfl rfl rfl rfl (by omega) (by omega) (fun w hw => ?_)))
    exact ⟨i + 1, w, by omega, by omega, .sub (by exact subQ) (by rw [hset]; exact .drop (OSub.refl _))⟩
  · obtain rfl : i = ps.length := by omega
    rw [List.take_length]
    refine a_frz 0 3 rfl rfl ?_
    repeat (first | refine gA pk ?_)
    refine finQ ?_
    exact ⟨rfl, rfl⟩
abbrev watA (w : Wat) : AV := .agg [grsA w.ps, ints w.g.nodes, edsA w.g.edges, AB w.inj, mssA w.ms]
theorem inew_spec (t : Tys) (ht : Small t) (ps : List Gr) (g : Gr) (inj : Bool) (hps : ∀ p ∈ ps, OkG p) (hl : ps.length ≤ 140737488355328) (hg : OkG g) :
    Pure Tryz.prog 12 [tysA t, grsA ps, grA g, AB inj] (.tup [watA (newR t ps g inj).1, AI (newR t ps g inj).2]) := by
  have s1 := imats_spec t ht ps g inj hps hl hg
  unfold newR
  unfold matsR at s1
  by_cases he : matsE t ps g inj = 0
  · rw [if_neg (Decidable.not_not.2 he)] at s1 ⊢
    obtain ⟨hG, h5, hall⟩ := matsE_zero he
    have hgn := hG.nl
    have hge := hG.el
    have s2 := ipatterns_spec ps (fun p hp => by
      have := (validS_zero (allR_zero (hall p hp))).2.1
      have h1 := this.nl
      have h2 := this.el
      exact ⟨by omega, by omega⟩) (by omega)
    have s3 := icopied_spec g (by omega) (by omega)
    generalize matsL t ps g inj = L at *
    refine a_enterM (rs := [.cell 8 37, .tmp 9]) tok Tryz.func12 (by kernel_rfl) rfl Tryz.ntmps12 rfl (by decide) (by simp) ?_
    refine a_seq ?_
    refine a_reg ?_
    repeat (first | refine gZ pk ?_ | (show AL _ _ _ _ _ _ _; first | refine jB (fun u => ?_) | refine jL tok (fun U8 => ?_)))
    refine a_frzBox 2 4 rfl rfl ?_
    refine a_frzBox 1 6 rfl rfl ?_
    repeat (first | refine gN pk ?_ | (show AL _ _ _ _ _ _ _; first | refine jP s1 ?_))
    refine a_regG ((List.range 9).map fun i => if inL [1, 3, 7] i = true then .eff else .pure) [] [0, 2, 4, 5, 1, 3, 6, 7, 8] .stop mixed rfl rfl (by decide +kernel) ?_
    repeat' (first | (with_reducible show AG _ _ _ _ _ _ _ _ _ _; first | exact ag_none | refine ag_stop ?_ | refine ag_nd ?_ ?_) | (show AMid _ _ _ _; first | refine amid_f ?_ | refine amid_g (by first | exact OSub.refl _ | exact .drop (OSub.refl _) | exact .drop (.drop (OSub.refl _))) ?_) | refine gY pk ?_ | (show AL _ _ _ _ _ _ _; first | refine jP s2 ?_ | refine jP s3 ?_ | refine jS tok 0 ?_) | fail)
    refine a_frzBox 0 8 rfl rfl ?_
    refine a_ret ?_
    exact ⟨.inr rfl, _, _, [], rfl, Turn.of (Sub.refl _) (OSub.none _), rfl, rfl⟩
  · rw [if_pos he] at s1 ⊢
    generalize matsE t ps g inj = e at *
    refine a_enterM (rs := [.cell 8 37, .tmp 9]) tok Tryz.func12 (by kernel_rfl) rfl Tryz.ntmps12 rfl (by decide) (by simp) ?_
    refine a_seq ?_
    refine a_reg ?_
    repeat (first | refine gZ pk ?_ | (show AL _ _ _ _ _ _ _; first | refine jB (fun u => ?_) | refine jL tok (fun U8 => ?_)))
    refine a_frzBox 2 4 rfl rfl ?_
    refine a_frzBox 1 6 rfl rfl ?_
    repeat (first | refine gV pk ?_ | (show AL _ _ _ _ _ _ _; first | refine jP s1 ?_ | refine jS tok 0 ?_))
    refine a_frzBox 0 8 rfl rfl ?_
    refine a_ret ?_
    exact ⟨.inr rfl, _, _, [], rfl, Turn.of (Sub.tup (l := [.agg [nilS, nilS, nilS, AB false, nilS], AI e]) (m := [watA ⟨[], ⟨[], []⟩, false, []⟩, AI e]) ⟨Sub.agg (m := [grsA [], ints [], edsA [], AB false, mssA []]) ⟨Sub.nil 2, Sub.nil 1, Sub.nil 3, Sub.refl _, Sub.nil 1, trivial⟩, Sub.refl _, trivial⟩) (OSub.none _), rfl, rfl⟩
end Go.Proofs.YtddohheabpiljaaGreat

end
