/-
  The law on further elements: the walk.
-/
import Derived.Test.YtcacbdohlfljfaaGreatSjQ8
import Derived.Test.YtcacbdohlfljfaaGreatV3
import Derived.Test.YtcacbdohlfljfaaGreatV1
import Derived.Test.YtcacbdohlfljfaaGreatZ17
import Derived.Test.YtcacbdohlfljfaaGreatV2
import Derived.Test.YtcacbdohlfljfaaGreatSjQN
namespace Go.Proofs.YtcacbdohlfljfaaGreat
open Go.Sj Go.Sj.Typ Go.Sj.Sta
set_option linter.unusedVariables false
set_option linter.unusedSimpArgs false
set_option maxHeartbeats 16000000

theorem modR {x : Int} {n : Nat} (hn : 1 ≤ n) : 0 ≤ x % (n : Int) ∧ x % (n : Int) < n := ⟨Int.emod_nonneg _ (by omega), Int.emod_lt_of_pos _ (by omega)⟩
theorem ofR_tv {t : Tys} {g : Gr} (h : TV t g) : ofR t g = (ofS g, 0) := by
  unfold ofR
  rw [if_neg (Decidable.not_not.2 (typedE_zero.2 h))]
theorem ofS_len {t : Tys} {g : Gr} (h : TV t g) : (ofS g).nodes.length ≤ 1000 ∧ (ofS g).edges.length ≤ 1000 := by
  have := ofR_len t g
  rw [ofR_tv h] at this
  exact this
/-- What the law asks about a further edge. -/
theorem StatisticAdds_spec (d : Drf) (hd : OkD d) (x : List Int) (hx : Okn 3 x) : Pure Tryz.prog 9 [drfA d, .agg (x.map fun m => .lit (.int .u8 m))] (AB true) := by
  obtain ⟨x0, x1, x2, rfl, o0, o1, o2⟩ := okn3 hx
  have hw := awakeS_spec
  have s1 := made18_spec d hd
  have hT := dG_tv d
  have hp := dT_pos d
  have hpe := dT_edges d
  have hsm := dT_small d
  have hgl := dG_len d
  obtain ⟨d1, d2, d3, d4⟩ := d
  generalize dG ⟨d1, d2, d3, d4⟩ = g at *
  generalize dT ⟨d1, d2, d3, d4⟩ = t at *
  have ltn : (t.nodes.map cNod).length = t.nodes.length := by simp
  have lte : (t.edges.map cEdg).length = t.edges.length := by simp
  have k1 := modR (x := x0) hp.1
  rw [← ltn] at k1
  generalize hk : x0 % ((t.nodes.map cNod).length : Int) = k at *
  rw [ltn] at k1
  have s2 := Of_spec t hsm g ⟨by omega, by omega⟩
  rw [ofR_tv hT] at s2
  have s3 := AddNode_spec g ⟨by omega, by omega⟩ (gvalid_zero.2 hT.graph) (by omega) k (by omega)
  have s4 := Node18_spec t hsm (ofS g) (ofS_len hT) k 1
  rw [nodeR_of hT k1 (by omega)] at s4
  have hT2 := addNd_tv hT k1 (by omega)
  have hl2 : (addNd g k).nodes.length = g.nodes.length + 1 ∧ (addNd g k).edges.length = g.edges.length := by simp [addNd]
  have s5 := Of_spec t hsm (addNd g k) ⟨by omega, by omega⟩
  rw [ofR_tv hT2] at s5
  have hS2 := ofS_len hT2
  generalize ofS g = S at *
  generalize addNd g k = G2 at *
  have s6 := refSame_spec (ofS G2) (ofS G2) (okS_of hS2) (okS_of hS2)
  rw [same_self] at s6
  by_cases hte : t.edges.length = 0
  · generalize ofS G2 = S2 at *
    generalize hgn : (g.nodes.length : Int) = gn at *
    refine a_enter Tryz.func9 (by kernel_rfl) rfl Tryz.ntmps9 rfl (by simp) ?_
    refine a_seq ?_
    refine a_reg ?_
    repeat (first | refine gZ pk ?_ | (show AL _ _ _ _ _ _ _; first | refine jB (fun u => ?_)))
    refine a_frzBox 1 2 rfl rfl ?_
    refine a_frzBox 0 3 rfl rfl ?_
    repeat (first | refine gN pk ?_ | (show AL _ _ _ _ _ _ _; first | refine jP hw ?_ | refine jP s1 ?_ | refine s_arrIp tok rfl rfl rfl rfl rfl rfl rfl rfl (by decide) (by decide) ?_ | refine s_conv tok rfl rfl rfl rfl rfl rfl rfl (IntWalk.i64_in _ (by omega)) ?_ | (refine s_rem rfl rfl rfl rfl rfl rfl (by omega) (by omega) ?_; rw [hk]) | refine jP s2 ?_ | refine jP s3 ?_ | refine jP s4 ?_ | refine jP s5 ?_ | refine jP s6 ?_ | refine jL tok (fun u => ?_) | refine jS tok 0 ?_ | refine jS tok 1 ?_ | refine jO tok 0 ?_ | refine jO tok 1 ?_ | refine jO tok 2 ?_ | refine jO tok 3 ?_ | refine jO tok 4 ?_ | refine jO tok 5 ?_))
    refine finQ ?_
    exact ⟨rfl, rfl⟩
  · have ln2 : (rowI G2.nodes).length = G2.nodes.length := by simp
    have y0 := modR (x := x0) (n := t.edges.length) (by omega)
    have y1 := modR (x := x1) (n := G2.nodes.length) (by omega)
    have y2 := modR (x := x2) (n := G2.nodes.length) (by omega)
    rw [← lte] at y0
    rw [← ln2] at y1 y2
    generalize hz0 : x0 % ((t.edges.map cEdg).length : Int) = z0 at *
    generalize hz1 : x1 % ((rowI G2.nodes).length : Int) = z1 at *
    generalize hz2 : x2 % ((rowI G2.nodes).length : Int) = z2 at *
    rw [lte] at y0
    rw [ln2] at y1 y2
    obtain ⟨e1, e2⟩ := edgeR_of hT2 (e := ⟨z0, z1, z2⟩) y0 y1 y2 (by omega)
    have g1 := nodeAt_get y1.1 y1.2
    have g2 := nodeAt_get y2.1 y2.2
    have p1 : (rowI G2.nodes)[z1.toNat]? = some [AI (nodeAt G2 z1)] := map_get (f := cI) g1
    have p2 : (rowI G2.nodes)[z2.toNat]? = some [AI (nodeAt G2 z2)] := map_get (f := cI) g2
    have s7 := AddEdge_spec G2 ⟨by omega, by omega⟩ (gvalid_zero.2 hT2.graph) (by omega) z0 z1 z2 ⟨by omega, y1, y2⟩
    have s8 := Edge18_spec t hsm (ofS G2) hS2 z0 (nodeAt G2 z1) (nodeAt G2 z2) 1
    have hl3 : (addEd G2 ⟨z0, z1, z2⟩).nodes.length = G2.nodes.length ∧ (addEd G2 ⟨z0, z1, z2⟩).edges.length = G2.edges.length + 1 := by simp [addEd]
    have s9 := Of_spec t hsm (addEd G2 ⟨z0, z1, z2⟩) ⟨by omega, by omega⟩
    have hl4 := ofR_len t (addEd G2 ⟨z0, z1, z2⟩)
    have hq : ∃ S3 e3, (e3 = 0 ∨ e3 = 13) ∧ edgeR t (ofS G2) z0 (nodeAt G2 z1) (nodeAt G2 z2) 1 = (S3, e3) ∧ ofR t (addEd G2 ⟨z0, z1, z2⟩) = (S3, e3) := by
      rcases e2 with e2 | e2
      · exact ⟨_, 0, .inl rfl, e2.1, e2.2⟩
      · exact ⟨_, 13, .inr rfl, e2.1, e2.2⟩
    obtain ⟨S3, e3, he3, q1, q2⟩ := hq
    rw [q1] at s8
    rw [q2] at s9 hl4
    have s10 := refSame_spec S3 S3 (okS_of hl4) (okS_of hl4)
    rw [same_self] at s10
    generalize addEd G2 ⟨z0, z1, z2⟩ = G3 at *
    generalize nodeAt G2 z1 = n1 at *
    generalize nodeAt G2 z2 = n2 at *
    generalize ofS G2 = S2 at *
    generalize hgn : (g.nodes.length : Int) = gn at *
    generalize hgm : (G2.edges.length : Int) = gm at *
    clear e1 e2 q1 q2 g1 g2
    refine a_enter Tryz.func9 (by kernel_rfl) rfl Tryz.ntmps9 rfl (by simp) ?_
    refine a_seq ?_
    refine a_reg ?_
    repeat (first | refine gZ pk ?_ | (show AL _ _ _ _ _ _ _; first | refine jB (fun u => ?_)))
    refine a_frzBox 1 2 rfl rfl ?_
    refine a_frzBox 0 3 rfl rfl ?_
    repeat (first | refine gN pk ?_ | (show AL _ _ _ _ _ _ _; first | refine jP hw ?_ | refine jP s1 ?_ | refine s_arrIp tok rfl rfl rfl rfl rfl rfl rfl rfl (by decide) (by decide) ?_ | refine s_conv tok rfl rfl rfl rfl rfl rfl rfl (IntWalk.i64_in _ (by omega)) ?_ | (refine s_rem rfl rfl rfl rfl rfl rfl (by omega) (by omega) ?_; rw [hk]) | refine jP s2 ?_ | refine jP s3 ?_ | refine jP s4 ?_ | refine jP s5 ?_ | refine jP s6 ?_ | refine jL tok (fun u => ?_) | refine jS tok 0 ?_ | refine jS tok 1 ?_ | refine jO tok 0 ?_ | refine jO tok 1 ?_ | refine jO tok 2 ?_ | refine jO tok 3 ?_ | refine jO tok 4 ?_ | refine jO tok 5 ?_))
    refine a_frzBox 5 5 rfl rfl ?_
    refine a_frzBox 2 10 rfl rfl ?_
    refine a_frzBox 1 13 rfl rfl ?_
    refine a_regP mixed (by decide +kernel) ?_
    repeat (first | refine gN pk ?_ | (show AL _ _ _ _ _ _ _; first | refine s_arrIp tok rfl rfl rfl rfl rfl rfl rfl rfl (by decide) (by decide) ?_ | refine s_conv tok rfl rfl rfl rfl rfl rfl rfl (IntWalk.i64_in _ (by omega)) ?_ | (refine s_rem rfl rfl rfl rfl rfl rfl (by omega) (by omega) ?_; first | rw [hz0] | rw [hz1] | rw [hz2]) | refine jL tok (fun u => ?_) | refine jS tok 0 ?_ | refine jO tok 0 ?_ | refine jP s7 ?_))
    refine a_frzBox 1 17 rfl rfl ?_
    refine a_frzBox 0 18 rfl rfl ?_
    refine a_regG ((List.range 23).map fun i => if inL [16, 20, 21] i = true then .eff else .pure) [] [0, 1, 2, 3, 4, 5, 6, 7, 8, 9, 10, 11, 12, 13, 14, 15] (.nd 16 [17, 18, 19, 20, 21, 22] .stop (.nd 20 [16, 17, 18, 19, 21, 22] .stop .stop)) mixed rfl rfl (by decide +kernel) ?_
    repeat' (first | (with_reducible show AG _ _ _ _ _ _ _ _ _ _; first | exact ag_none | refine ag_stop ?_ | refine ag_nd ?_ ?_) | (show AMid _ _ _ _; first | refine amid_f ?_ | refine amid_g (by first | exact OSub.refl _ | exact .drop (OSub.refl _) | exact .drop (.drop (OSub.refl _))) ?_) | refine gY pk ?_ | (show AL _ _ _ _ _ _ _; first | refine jX tok p1 ?_ | refine jX tok p2 ?_ | refine jP s8 ?_ | refine jL tok (fun u => ?_) | refine jS tok 0 ?_) | fail)
    all_goals
      rcases he3 with rfl | rfl
      all_goals
        repeat (first | refine gA pk ?_ | (show AL _ _ _ _ _ _ _; first | refine jP s9 ?_ | refine jP s10 ?_ | refine jL tok (fun u => ?_) | refine jS tok 0 ?_ | refine jS tok 1 ?_ | refine jO tok 0 ?_ | refine jO tok 1 ?_))
        refine finQ ?_
        exact ⟨rfl, rfl⟩
end Go.Proofs.YtcacbdohlfljfaaGreat
