/-
  The law on graphs in another order: the walk.
-/
import Derived.Test.YtcacbdohlfljfaaGreatSjQ8
import Derived.Test.YtcacbdohlfljfaaGreatV3
import Derived.Test.YtcacbdohlfljfaaGreatV2
import Derived.Test.YtcacbdohlfljfaaGreatSjQN
import Derived.Test.YtcacbdohlfljfaaGreatV4
namespace Go.Proofs.YtcacbdohlfljfaaGreat
open Go.Sj Go.Sj.Typ Go.Sj.Sta
set_option linter.unusedVariables false
set_option linter.unusedSimpArgs false
set_option maxHeartbeats 16000000

theorem ofR_tv {t : Tys} {g : Gr} (h : TV t g) : ofR t g = (ofS g, 0) := by
  unfold ofR
  rw [if_neg (Decidable.not_not.2 (typedE_zero.2 h))]
theorem ofS_len {t : Tys} {g : Gr} (h : TV t g) : (ofS g).nodes.length ≤ 1000 ∧ (ofS g).edges.length ≤ 1000 := by
  have := ofR_len t g
  rw [ofR_tv h] at this
  exact this
theorem StatisticOrder_spec (d : Drf) (hd : OkD d) (o : List Int) (ho : (∀ m ∈ o, 0 ≤ m ∧ m ≤ 255) ∧ o.length ≤ 140737488355328) : Pure Tryz.prog 8 [drfA d, bytesA o] (AB true) := by
  have hw := awakeS_spec
  have s1 := made18_spec d hd
  have hT := dG_tv d
  have hsm := dT_small d
  have hgl := dG_len d
  have lo : (o.map c8).length = o.length := by simp
  obtain ⟨d1, d2, d3, d4⟩ := d
  generalize dG ⟨d1, d2, d3, d4⟩ = g at *
  generalize dT ⟨d1, d2, d3, d4⟩ = t at *
  have s2 := Shuffle_spec g.nodes.length (by omega) o ho
  have s3 := Shuffle_spec g.edges.length (by omega) o ho
  have hp := shf_prm g.nodes.length o
  have hq := shf_prm g.edges.length o
  generalize shf g.nodes.length o = p at *
  generalize shf g.edges.length o = q at *
  have s4 := Reorder_spec g hT.graph p q hp hq
  have hT2 := reG_tv hT hp hq
  have hof := reG_of hT hp hq
  have hl2 : (reG g p q).nodes.length = g.nodes.length ∧ (reG g p q).edges.length = g.edges.length := ⟨by rw [(reG_nodes hT hp hq).length_eq], by rw [(reG_edges hT hp hq).length_eq, List.length_map]⟩
  generalize reG g p q = G2 at *
  have s5 := Of_spec t hsm g ⟨by omega, by omega⟩
  rw [ofR_tv hT] at s5
  have s6 := Of_spec t hsm G2 ⟨by omega, by omega⟩
  rw [ofR_tv hT2, hof] at s6
  have hS := ofS_len hT
  have s7 := refSame_spec (ofS g) (ofS g) (okS_of hS) (okS_of hS)
  rw [same_self] at s7
  generalize ofS g = S at *
  have ln : (rowI g.nodes).length = g.nodes.length := by simp
  have le : (g.edges.map cEd).length = g.edges.length := by simp
  rw [← ln] at s2
  rw [← le] at s3
  clear hT2 hof hT
  obtain ⟨ns, es⟩ := g
  refine a_enter Tryz.func8 (by kernel_rfl) rfl Tryz.ntmps8 rfl (by simp) ?_
  refine a_seq ?_
  refine a_reg ?_
  repeat (first | refine gZ pk ?_ | (show AL _ _ _ _ _ _ _; first | refine jB (fun u => ?_)))
  refine a_frzBox 0 2 rfl rfl ?_
  by_cases h40 : o.length ≤ 40
  · repeat (first | refine gN pk ?_ | (show AL _ _ _ _ _ _ _; first | refine jP hw ?_ | refine jP s1 ?_ | refine jL tok (fun u => ?_) | refine jS tok 0 ?_ | refine jS tok 1 ?_))
    refine a_frzBox 1 5 rfl rfl ?_
    refine a_frzBox 0 6 rfl rfl ?_
    refine a_regG ((List.range 19).map fun i => if inL [5, 10, 12, 16, 17] i = true then .eff else .pure) [] [0, 1, 2, 3, 4, 6, 7, 8, 9] (.nd 5 [] (.nd 10 [11] (.nd 12 [13, 14, 15, 16, 17, 18] .stop (.nd 16 [12, 13, 14, 15, 17, 18] .stop .stop)) (.nd 16 [10, 11, 12, 13, 14, 15, 17, 18] .stop .stop)) (.nd 16 [5, 10, 11, 12, 13, 14, 15, 17, 18] .stop .stop)) mixed rfl rfl (by decide +kernel) ?_
    repeat' (first | (with_reducible show AG _ _ _ _ _ _ _ _ _ _; first | exact ag_none | refine ag_stop ?_ | refine ag_nd ?_ ?_) | (show AMid _ _ _ _; first | refine amid_f ?_ | refine amid_g (by first | exact OSub.refl _ | exact .drop (OSub.refl _) | exact .drop (.drop (OSub.refl _))) ?_) | refine gY pk ?_ | (show AL _ _ _ _ _ _ _; first | refine jP s2 ?_ | refine jP s3 ?_ | refine jP s4 ?_ | refine jL tok (fun u => ?_) | refine jS tok 0 ?_) | fail)
    all_goals
      repeat (first | refine gA pk ?_ | (show AL _ _ _ _ _ _ _; first | refine jP s5 ?_ | refine jP s6 ?_ | refine jP s7 ?_ | refine jL tok (fun u => ?_) | refine jS tok 0 ?_ | refine jO tok 0 ?_ | refine jO tok 1 ?_ | refine jO tok 2 ?_))
      refine finQ ?_
      exact ⟨rfl, rfl⟩
  · repeat (first | refine gA pk ?_ | (show AL _ _ _ _ _ _ _; first | refine jP hw ?_))
    refine finQ ?_
    exact ⟨rfl, rfl⟩
end Go.Proofs.YtcacbdohlfljfaaGreat
