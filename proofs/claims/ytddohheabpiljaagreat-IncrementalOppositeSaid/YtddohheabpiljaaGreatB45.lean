/-
  Parts of the proof of the law IncrementalOpposite (texts L32, W57, W58): steps, plain mathematics, contracts of functions. Each theorem states its own conditions.
-/
import Derived.Test.YtddohheabpiljaaGreatB07
import Derived.Test.YtddohheabpiljaaGreatB09
import Derived.Test.YtddohheabpiljaaGreatB30
import Derived.Test.YtddohheabpiljaaGreatB43
import Derived.Test.YtddohheabpiljaaGreatB44
section
/-
  The values of rows that a callee gives are slices. No condition; nothing here names a program.
-/
namespace Go.Sj
set_option maxRecDepth 8000
set_option linter.unusedVariables false
set_option linter.unusedSimpArgs false
def rowsSl (M : Own) : Prop := ∀ p ∈ M, match p.2 with | .row _ _ es => ∃ a c, p.1 = .slice a es.length c | _ => True
theorem ACalls.slices {P : Program} {f : FuncId} {args : List AV} {L : Own} {R : AV → Own → Prop} (h : ACalls P f args L R) : ACalls P f args L fun x M => R x M ∧ rowsSl M :=
  ⟨h.ok, fun σ F w vs a b => (h.out σ F w vs a b).mono fun e w' ⟨v, hv, τ, x, M, h1, h2, h3, h4⟩ => ⟨v, hv, τ, x, M, h1, h2, h3, h4, fun p hp => by
    have := h2.own p hp
    obtain ⟨u, ob⟩ := p
    cases ob with
    | row E sz es =>
      obtain ⟨a, c, hv, _⟩ := own_row_val this
      exact ⟨a, c, hv⟩
    | _ => trivial⟩⟩
end Go.Sj

end
section
/-
  Watches: partial matches without images (program).
-/
namespace Go.Proofs.YtddohheabpiljaaGreat
open Go.Sj Go.Sj.Typ Go.Sj.Sta Go.Sj.Inc
set_option maxRecDepth 8000
set_option linter.unusedVariables false
set_option linter.unusedSimpArgs false
set_option maxHeartbeats 16000000

theorem iopenO_spec (p : Gr) (hp : GV p) : ACalls Tryz.prog 96 [grA p] [] (fun y L => ∃ va vb, va.oneCell' = true ∧ vb.oneCell' = true ∧ y = .agg [.lit va, .lit vb] ∧ L = [(va, .row 3 1 (rowI (noneL p.nodes.length))), (vb, .row 3 1 (rowI (noneL p.edges.length)))]) := by
  have hnl := hp.nl
  have hel := hp.el
  have ln : (rowI p.nodes).length = p.nodes.length := by simp
  have le : (p.edges.map cEd).length = p.edges.length := by simp
  have s1 : Gives Tryz.prog 111 [ints [-1], AI (rowI p.nodes).length] 3 1 (rowI (noneL p.nodes.length)) := by rw [ln]; exact Repeat_spec (-1) p.nodes.length (by omega)
  have s2 : Gives Tryz.prog 111 [ints [-1], AI (p.edges.map cEd).length] 3 1 (rowI (noneL p.edges.length)) := by rw [le]; exact Repeat_spec (-1) p.edges.length (by omega)
  refine a_enterC Tryz.func96 (by kernel_rfl) rfl Tryz.ntmps96 rfl (tok _ _ rfl) (by simp) ?_
  refine a_seq ?_
  refine a_reg ?_
  repeat (first | refine gZ pk ?_ | (show AL _ _ _ _ _ _ _; first | refine jB (fun up => ?_) | refine jL tok (fun U2 => ?_)))
  refine a_frzBox 1 1 rfl rfl ?_
  refine AWp.mono (Q := fun e st L => e = .normal ∧ ∃ va vb, va.oneCell' = true ∧ vb.oneCell' = true ∧ GoTo 14 st L (lk [(2, .pt U2 0 0 0)]) [(U2, OB.box [.lit va, .lit vb]), (va, OB.row 3 1 (rowI (noneL p.nodes.length))), (vb, OB.row 3 1 (rowI (noneL p.edges.length)))]) ?_ (fun e st L h => ?_)
  · refine a_regG ((List.range 12).map fun i => if inL [0, 4, 5, 9, 11] i = true then .eff else .pure) [] [1, 2, 3, 6, 7, 8] (.nd 0 [] (.nd 4 [5, 9, 10, 11] .stop (.nd 5 [4, 9, 10, 11] .stop .stop)) (.nd 5 [0, 4, 9, 10, 11] .stop .stop)) mixed rfl rfl (by decide +kernel) ?_
    repeat' (first | (with_reducible show AG _ _ _ _ _ _ _ _ _ _; first | exact ag_none | refine ag_stop ?_ | refine ag_nd ?_ ?_) | (show AMid _ _ _ _; first | refine amid_f ?_ | refine amid_g (by first | exact OSub.refl _ | exact .drop (OSub.refl _) | exact .drop (.drop (OSub.refl _))) ?_) | refine gY pk ?_ | (show AL _ _ _ _ _ _ _; first | refine s_frzNow 0 rfl rfl rfl (s_build tok rfl rfl rfl rfl rfl rfl rfl rfl (by decide) (by decide) (fun v => AL.nil ⟨v, rfl, rfl, rfl⟩)) ?_ | refine s_call (Lc := []) rfl rfl rfl rfl rfl (ACalls.slices s1) (SubL.of_eq rfl) (List.Perm.refl _) ?_; rintro _ _ ⟨⟨va, rfl, rfl⟩, hva⟩; obtain ⟨a1, c1, rfl⟩ := hva _ (List.mem_singleton.2 rfl) | refine s_call (Lc := []) rfl rfl rfl rfl rfl (ACalls.slices s2) (SubL.of_eq rfl) (List.Perm.refl _) ?_; rintro _ _ ⟨⟨vb, rfl, rfl⟩, hvb⟩; obtain ⟨a2, c2, rfl⟩ := hvb _ (List.mem_singleton.2 rfl) | refine jS tok 2 ?_) | fail)
    all_goals
      first | exact ⟨rfl, _, _, rfl, rfl, (GoTo.sub (by exact subQ) (OSub.refl _)).trans (GoTo.perm (perm3 _ _ _).2.2.1)⟩ | exact ⟨rfl, _, _, rfl, rfl, (GoTo.sub (by exact subQ) (OSub.refl _)).trans (GoTo.perm (perm3 _ _ _).2.2.2.2.1)⟩
  · obtain ⟨rfl, va, vb, hva, hvb, h⟩ := h
    refine a_goto h ?_
    refine a_frzBox 0 2 rfl rfl ?_
    repeat (first | refine gA pk ?_)
    exact ⟨.inr rfl, _, _, _, _, rfl, rfl, Turn.of (Sub.of_eq rfl) (OSub.refl _), va, vb, hva, hvb, rfl, rfl⟩
end Go.Proofs.YtddohheabpiljaaGreat

end
section
/-
  Watches: short lists that are sorted (program).
-/
namespace Go.Proofs.YtddohheabpiljaaGreat
open Go.Sj Go.Sj.Typ Go.Sj.Sta Go.Sj.Inc
set_option maxRecDepth 8000
set_option linter.unusedVariables false
set_option linter.unusedSimpArgs false
set_option maxHeartbeats 16000000

theorem len64_spec (n : Nat) (hn : n ≤ 255) : ACalls Tryz.prog 141 [.lit (.int .u64 n)] [] (fun y L => (∃ k : Int, y = AI k) ∧ L = []) := by
  refine a_enter Tryz.func141 (by kernel_rfl) rfl Tryz.ntmps141 rfl (by simp) ?_
  repeat (first | refine gN pk ?_ | (show AL _ _ _ _ _ _ _; first | refine s_conv tok rfl rfl rfl rfl rfl rfl rfl (IntWalk.u8_in _ (by omega)) ?_ | refine s_strIx tok rfl rfl rfl rfl rfl rfl rfl (by omega) (Int.lt_of_lt_of_le (b := 256) (by omega) (by decide +kernel)) ?_))
  have hz := byt_rng
  generalize hbz : byt _ _ = z
  have hz1 : 0 ≤ z ∧ z ≤ 255 := by rw [← hbz]; exact hz _ _
  repeat (first | refine gA pk ?_ | (show AL _ _ _ _ _ _ _; first | refine s_conv tok rfl rfl rfl rfl rfl rfl rfl (IntWalk.i64_in _ (by omega)) ?_))
  exact fin (x := .lit _) (.inr rfl) rfl (Sub.refl _) ⟨⟨_, rfl⟩, rfl⟩ (OSub.none _)
theorem len_spec (n : Nat) (hn : n ≤ 255) : ACalls Tryz.prog 114 [.lit (.int .u64 n)] [] (fun y L => (∃ k : Int, y = AI k) ∧ L = []) := by
  have s1 := len64_spec n hn
  refine a_enter Tryz.func114 (by kernel_rfl) rfl Tryz.ntmps114 rfl (by simp) ?_
  repeat (first | refine gA pk ?_ | (show AL _ _ _ _ _ _ _; first | refine s_call (Lc := []) (Lr := []) rfl rfl rfl rfl rfl s1 (SubL.of_eq rfl) (List.Perm.refl _) ?_; rintro _ _ ⟨⟨k, rfl⟩, rfl⟩))
  exact fin (x := .lit _) (.inr rfl) rfl (Sub.refl _) ⟨⟨_, rfl⟩, rfl⟩ (OSub.none _)
theorem isort1_spec (v : Value) (F : AV) (l : List Mo) (hl : l.length ≤ 1) : ACalls Tryz.prog 132 [.lit v, AI 0, AI l.length, F] [(v, .row 95 2 (l.map cMo))] (fun y M => y = .tup [] ∧ M = [(v, .row 95 2 (l.map cMo))]) := by
  refine a_enter Tryz.func132 (by kernel_rfl) rfl Tryz.ntmps132 rfl (by simp) ?_
  repeat (first | refine gA pk ?_)
  refine a_loopX (fun k : Nat => [(2, AI l.length), (8, AI 1)]) (fun _ => [(v, .row 95 2 (l.map cMo))]) (fun k => k = 0) (fun k => k) 0 rfl ?_ (OSub.refl _) ?_
  · exact subQ
  · rintro k rfl
    repeat (first | refine gA pk ?_)
    exact fin (x := .tup []) (.inl rfl) rfl (Sub.refl _) ⟨rfl, rfl⟩ (OSub.refl _)
theorem pdq1_spec (v : Value) (F : AV) (k : Int) (l : List Mo) (hl : l.length ≤ 1) : ACalls Tryz.prog 113 [.lit v, AI 0, AI l.length, AI k, F] [(v, .row 95 2 (l.map cMo))] (fun y M => y = .tup [] ∧ M = [(v, .row 95 2 (l.map cMo))]) := by
  have s1 := isort1_spec v F l hl
  refine a_enter Tryz.func113 (by kernel_rfl) rfl Tryz.ntmps113 rfl (by simp) ?_
  repeat (first | refine gA pk ?_)
  refine a_loopX (fun q : Nat => [(0, .lit v), (1, AI 0), (2, AI l.length), (4, F)]) (fun _ => [(v, .row 95 2 (l.map cMo))]) (fun q => q = 0) (fun q => q) 0 rfl ?_ (OSub.refl _) ?_
  · exact subQ
  · rintro q rfl
    repeat (first | refine gA pk ?_ | (show AL _ _ _ _ _ _ _; first | refine s_pe (x := F) tok rfl rfl rfl rfl ?_ | refine s_call (Lc := [(v, .row 95 2 (l.map cMo))]) (Lr := []) rfl rfl rfl rfl rfl s1 (SubL.of_eq rfl) (List.Perm.refl _) ?_; rintro _ _ ⟨rfl, rfl⟩))
    exact fin (x := .tup []) (.inr rfl) rfl (Sub.refl _) ⟨rfl, rfl⟩ (OSub.refl _)
theorem sort1_spec (v : Value) (F : AV) (l : List Mo) (hl : l.length ≤ 1) : ACalls Tryz.prog 98 [.lit v, F] [(v, .row 95 2 (l.map cMo))] (fun y M => y = .tup [] ∧ M = [(v, .row 95 2 (l.map cMo))]) := by
  have ll : (l.map cMo).length = l.length := by simp
  have s1 := len_spec l.length (by omega)
  have s2 := fun k => pdq1_spec v F k l hl
  rw [← ll] at s1 s2
  refine a_enter Tryz.func98 (by kernel_rfl) rfl Tryz.ntmps98 rfl (by simp) ?_
  repeat (first | refine gA pk ?_ | (show AL _ _ _ _ _ _ _; first | refine s_ownLen tok 0 rfl rfl rfl rfl (by decide) rfl rfl rfl ?_ | refine s_pe (x := F) tok rfl rfl rfl rfl ?_ | refine s_conv tok rfl rfl rfl rfl rfl rfl rfl (IntWalk.u64_in _ (by omega)) ?_ | refine s_call (Lc := []) (Lr := [(v, .row 95 2 (l.map cMo))]) rfl rfl rfl rfl rfl s1 (SubL.of_eq rfl) (List.Perm.refl _) ?_; rintro _ _ ⟨⟨k, rfl⟩, rfl⟩ | refine s_call (Lc := [(v, .row 95 2 (l.map cMo))]) (Lr := []) rfl rfl rfl rfl rfl (s2 k) (SubL.of_eq rfl) (List.Perm.refl _) ?_; rintro _ _ ⟨rfl, rfl⟩))
  exact fin (x := .tup []) (.inl rfl) rfl (Sub.refl _) ⟨rfl, rfl⟩ (OSub.refl _)
theorem compact1_spec (v : Value) (F : AV) (l : List Mo) (hl : l.length ≤ 1) : ACalls Tryz.prog 99 [.lit v, F] [(v, .row 95 2 (l.map cMo))] (fun y M => y = .lit v ∧ M = [(v, .row 95 2 (l.map cMo))]) := by
  have ll : (l.map cMo).length = l.length := by simp
  refine a_enter Tryz.func99 (by kernel_rfl) rfl Tryz.ntmps99 rfl (by simp) ?_
  repeat (first | refine gA pk ?_ | (show AL _ _ _ _ _ _ _; first | refine s_ownLen tok 0 rfl rfl rfl rfl (by decide) rfl rfl rfl ?_))
  exact fin (x := .lit _) (.inr rfl) rfl (Sub.refl _) ⟨rfl, rfl⟩ (OSub.refl _)
end Go.Proofs.YtddohheabpiljaaGreat

end
