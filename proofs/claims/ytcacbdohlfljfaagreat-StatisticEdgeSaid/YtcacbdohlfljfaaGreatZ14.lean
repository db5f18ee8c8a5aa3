/-
  The laws on Of, Valid and the sums: the walks.
-/
import Derived.Test.YtcacbdohlfljfaaGreatSjQ8
import Derived.Test.YtcacbdohlfljfaaGreatZ13
import Derived.Test.YtcacbdohlfljfaaGreatZ11r
import Derived.Test.YtcacbdohlfljfaaGreatY20
import Derived.Test.YtcacbdohlfljfaaGreatY21
import Derived.Test.YtcacbdohlfljfaaGreatSjQN
import Derived.Test.YtcacbdohlfljfaaGreatSjQT
namespace Go.Proofs.YtcacbdohlfljfaaGreat
open Go.Sj Go.Sj.Typ Go.Sj.Sta
set_option linter.unusedVariables false
set_option linter.unusedSimpArgs false
set_option maxHeartbeats 8000000

theorem ofR_len (t : Tys) (g : Gr) : (ofR t g).1.nodes.length ≤ 1000 ∧ (ofR t g).1.edges.length ≤ 1000 := by
  unfold ofR
  by_cases h : typedE t g = 0
  · have hG := (typedE_zero.1 h).graph
    have h1 := hG.nl
    have h2 := hG.el
    have h3 := ofN_len g g.nodes
    have h4 := ofE_len g g.edges
    rw [if_neg (Decidable.not_not.2 h)]
    show (ofN g g.nodes).length ≤ 1000 ∧ (ofE g g.edges).length ≤ 1000
    omega
  · rw [if_pos h]
    exact ⟨Nat.zero_le _, Nat.zero_le _⟩
theorem ofR_good (t : Tys) (g : Gr) (h : (ofR t g).2 = 0) : sValid t (ofR t g).1 = 0 := by
  unfold ofR at h ⊢
  by_cases h' : typedE t g = 0
  · rw [if_neg (Decidable.not_not.2 h')]
    exact sValid_zero.2 (ofS_valid (typedE_zero.1 h'))
  · rw [if_pos h'] at h
    exact absurd h h'
theorem same_self (s : Sta) : sameB s s = true := by simp [sameB]
theorem okS_of {s : Sta} (h : s.nodes.length ≤ 1000 ∧ s.edges.length ≤ 1000) : OkS s := ⟨by omega, by omega⟩
theorem StatisticOf_spec (t : Tys) (ht : OkT t) (g : Gr) (hg : OkG g) : Pure Tryz.prog 3 [tysA t, grA g] (AB true) := by
  have hf := Few_spec t ht
  have hw := awakeS_spec
  have hgf := gfew_spec g
  generalize decide (g.nodes.length ≤ 45 ∧ g.edges.length ≤ 90) = c at hgf
  refine a_enter Tryz.func3 (by kernel_rfl) rfl Tryz.ntmps3 rfl (by simp) ?_
  refine a_seq ?_
  refine a_reg ?_
  repeat (first | refine gZ pk ?_ | (show AL _ _ _ _ _ _ _; first | refine jB (fun u => ?_)))
  refine a_frzBox 0 3 rfl rfl ?_
  refine a_frzBox 0 2 rfl rfl ?_
  repeat (first | refine gA pk ?_ | (show AL _ _ _ _ _ _ _; first | refine jP hw ?_))
  (refine s_call (Lc := []) rfl rfl rfl rfl rfl (hf) (SubL.of_eq rfl) (List.Perm.refl _) ?_; rintro _ _ ⟨⟨b, rfl, hs⟩, rfl⟩)
  cases b with
  | false =>
    repeat (first | refine gA pk ?_ | (show AL _ _ _ _ _ _ _; first | refine jP hw ?_))
    refine finQ ?_
    exact ⟨rfl, rfl⟩
  | true =>
    cases c with
    | false =>
      repeat (first | refine gA pk ?_ | (show AL _ _ _ _ _ _ _; first | refine jP hgf ?_ | refine jP hw ?_))
      refine finQ ?_
      exact ⟨rfl, rfl⟩
    | true =>
      have hsm := hs rfl
      have hl := ofR_len t g
      have hv := ofR_good t g
      have s1 := Of_spec t hsm g hg
      have s2 := refOf_spec t hsm g hg
      obtain ⟨R, hR⟩ : ∃ R, ofR t g = R := ⟨_, rfl⟩
      rw [hR] at s1 s2 hl hv
      obtain ⟨S, e⟩ := R
      simp only at hl hv s1 s2
      have s3 := refSame_spec S S (okS_of hl) (okS_of hl)
      rw [same_self] at s3
      have s4 := sValid_spec t hsm S hl
      by_cases he : e = 0
      · rw [hv he] at s4
        repeat (first | refine gA pk ?_ | (show AL _ _ _ _ _ _ _; first | refine jP hgf ?_ | refine jP s1 ?_ | refine jP s2 ?_ | refine jP s3 ?_ | refine jP s4 ?_ | refine jL tok (fun u => ?_) | refine jS tok 0 ?_ | refine jO tok 0 ?_ | refine jO tok 1 ?_))
        refine finQ ?_
        exact ⟨rfl, rfl⟩
      · repeat (first | refine gA pk ?_ | (show AL _ _ _ _ _ _ _; first | refine jP hgf ?_ | refine jP s1 ?_ | refine jP s2 ?_ | refine jP s3 ?_ | refine jL tok (fun u => ?_) | refine jS tok 0 ?_ | refine jO tok 0 ?_ | refine jO tok 1 ?_))
        refine finQ ?_
        exact ⟨rfl, rfl⟩
theorem StatisticValid_spec (t : Tys) (ht : OkT t) (s : Sta) (hs1 : OkS s) (x : Sta) (hx1 : OkS x) : Pure Tryz.prog 5 [tysA t, staA s, staA x] (AB true) := by
  have hf := Few_spec t ht
  have hw := awakeS_spec
  have f1 := sfew_spec s
  have f2 := sfew_spec x
  refine a_enter Tryz.func5 (by kernel_rfl) rfl Tryz.ntmps5 rfl (by simp) ?_
  refine a_seq ?_
  refine a_reg ?_
  repeat (first | refine gZ pk ?_ | (show AL _ _ _ _ _ _ _; first | refine jB (fun u => ?_)))
  refine a_frzBox 0 5 rfl rfl ?_
  refine a_frzBox 0 4 rfl rfl ?_
  refine a_frzBox 0 3 rfl rfl ?_
  repeat (first | refine gA pk ?_ | (show AL _ _ _ _ _ _ _; first | refine jP hw ?_))
  (refine s_call (Lc := []) rfl rfl rfl rfl rfl (hf) (SubL.of_eq rfl) (List.Perm.refl _) ?_; rintro _ _ ⟨⟨b, rfl, hs⟩, rfl⟩)
  cases b with
  | false =>
    repeat (first | refine gA pk ?_ | (show AL _ _ _ _ _ _ _; first | refine jP hw ?_))
    refine finQ ?_
    exact ⟨rfl, rfl⟩
  | true =>
    by_cases h1 : s.nodes.length ≤ 45 ∧ s.edges.length ≤ 85
    · rw [decide_eq_true h1] at f1
      by_cases h2 : x.nodes.length ≤ 45 ∧ x.edges.length ≤ 85
      · rw [decide_eq_true h2] at f2
        have hsm := hs rfl
        have s1 := refCopied_spec s (by omega) (by omega)
        have s2 := sValid_spec t hsm s ⟨by omega, by omega⟩
        have s3 := refsValid_spec t hsm s ⟨by omega, by omega⟩
        have s4 := Same_spec s x hs1 hx1
        have s5 := refSame_spec s x hs1 hx1
        have s6 := Same_spec s s hs1 hs1
        rw [same_self] at s6
        generalize sameB s x = c at *
        generalize sValid t s = e at *
        cases c
        all_goals
          repeat (first | (show AWp _ _ _ _ _ _; first | refine a_seq ?_ | refine a_reg ?_ | refine a_regO [0, 1, 4, 5, 2, 3, 6, 7, 8, 9, 10, 12, 13, 11, 14, 15, 16, 17, 18, 19, 20, 21, 22, 23] mixed rfl rfl (by decide +kernel) ?_ | refine a_condT rfl ?_ | refine a_condF rfl ?_ | refine a_skip ?_ | refine a_exit ?_ | refine a_block ?_) | refine gY pk ?_ | (show AL _ _ _ _ _ _ _; first | refine jP f1 ?_ | refine jP f2 ?_ | refine jP s1 ?_ | refine jP s2 ?_ | refine jP s3 ?_ | refine jP s4 ?_ | refine jP s5 ?_ | refine jP s6 ?_ | refine s_boolEq tok rfl rfl rfl rfl rfl rfl rfl ?_))
          repeat (first | refine gA pk ?_)
          refine finQ ?_
          exact ⟨rfl, rfl⟩
      · rw [decide_eq_false h2] at f2
        repeat (first | refine gA pk ?_ | (show AL _ _ _ _ _ _ _; first | refine jP f1 ?_ | refine jP f2 ?_ | refine jP hw ?_))
        refine finQ ?_
        exact ⟨rfl, rfl⟩
    · rw [decide_eq_false h1] at f1
      repeat (first | refine gA pk ?_ | (show AL _ _ _ _ _ _ _; first | refine jP f1 ?_ | refine jP hw ?_))
      refine finQ ?_
      exact ⟨rfl, rfl⟩
theorem StatisticCounts_spec (t : Tys) (ht : OkT t) (s : Sta) (hs1 : OkS s) (a b c d : Int) : Pure Tryz.prog 4 [tysA t, staA s, .agg [AI a, AI b, AI c, AI d]] (AB true) := by
  have hf := Few_spec t ht
  have hw := awakeS_spec
  have f1 := sfew_spec s
  refine a_enter Tryz.func4 (by kernel_rfl) rfl Tryz.ntmps4 rfl (by simp) ?_
  refine a_seq ?_
  refine a_reg ?_
  repeat (first | refine gZ pk ?_ | (show AL _ _ _ _ _ _ _; first | refine jB (fun u => ?_)))
  refine a_frzBox 0 5 rfl rfl ?_
  refine a_frzBox 0 4 rfl rfl ?_
  refine a_frzBox 0 3 rfl rfl ?_
  repeat (first | refine gA pk ?_ | (show AL _ _ _ _ _ _ _; first | refine jP hw ?_))
  (refine s_call (Lc := []) rfl rfl rfl rfl rfl (hf) (SubL.of_eq rfl) (List.Perm.refl _) ?_; rintro _ _ ⟨⟨q, rfl, hs⟩, rfl⟩)
  cases q with
  | false =>
    repeat (first | refine gA pk ?_ | (show AL _ _ _ _ _ _ _; first | refine jP hw ?_))
    refine finQ ?_
    exact ⟨rfl, rfl⟩
  | true =>
    by_cases h1 : s.nodes.length ≤ 45 ∧ s.edges.length ≤ 85
    · rw [decide_eq_true h1] at f1
      have hsm := hs rfl
      have s1 := refCopied_spec s (by omega) (by omega)
      have s2 := Nodes_spec t hsm s ⟨by omega, by omega⟩ b
      have s3 := refNodes_spec t hsm s ⟨by omega, by omega⟩ b
      have s4 := Edges_spec t hsm s ⟨by omega, by omega⟩ a b c
      have s5 := refEdges_spec t hsm s ⟨by omega, by omega⟩ a b c
      generalize nodesR t s b = x at *
      generalize edgesR t s a b c = y at *
      obtain ⟨x1, x2⟩ := x
      obtain ⟨y1, y2⟩ := y
      repeat (first | refine gN pk ?_ | (show AL _ _ _ _ _ _ _; first | refine jP f1 ?_))
      refine a_regO [0, 1, 3, 4, 2, 5, 6, 7, 8, 9, 10] mixed rfl rfl (by decide +kernel) ?_
      repeat (first | refine gY pk ?_ | (show AL _ _ _ _ _ _ _; first | refine jP s1 ?_ | refine jP s2 ?_ | refine jP s3 ?_ | refine jP s4 ?_ | refine jP s5 ?_))
      repeat (first | refine gN pk ?_ | (show AL _ _ _ _ _ _ _; first | refine jP s1 ?_ | refine jP s2 ?_ | refine jP s3 ?_ | refine jP s4 ?_ | refine jP s5 ?_))
      refine a_regO [0, 1, 3, 4, 5, 6, 7, 8, 2, 9, 10, 11, 12, 13, 14] mixed rfl rfl (by decide +kernel) ?_
      repeat (first | refine gY pk ?_ | (show AL _ _ _ _ _ _ _; first | refine jP s1 ?_ | refine jP s2 ?_ | refine jP s3 ?_ | refine jP s4 ?_ | refine jP s5 ?_))
      repeat (first | refine gA pk ?_ | (show AL _ _ _ _ _ _ _; first | refine jP s1 ?_ | refine jP s2 ?_ | refine jP s3 ?_ | refine jP s4 ?_ | refine jP s5 ?_))
      refine finQ ?_
      exact ⟨rfl, rfl⟩
    · rw [decide_eq_false h1] at f1
      repeat (first | refine gA pk ?_ | (show AL _ _ _ _ _ _ _; first | refine jP f1 ?_ | refine jP hw ?_))
      refine finQ ?_
      exact ⟨rfl, rfl⟩
end Go.Proofs.YtcacbdohlfljfaaGreat
