/- Parts of a proof. -/
import Derived.Test.YtimfponihbfimaaGreatP04
import Derived.Test.YtimfponihbfimaaGreatP49
import Derived.Test.YtimfponihbfimaaGreatP51
set_option linter.unusedVariables false
set_option linter.unusedSimpArgs false
section
namespace Go.Proofs.YtimfponihbfimaaGreat
open Go.Sj Go.Sj.Typ Go.Sj.Sta Go.Sj.Inc Go.Sj.Pln
set_option maxRecDepth 8000
set_option maxHeartbeats 16000000
theorem gcostR_spec (t : Tys) (ht : Small t) (s : Sta) (hs : s.nodes.length ≤ 1000 ∧ s.edges.length ≤ 1000) (p : Gr) (hp : OkG p) (l : List Opn) (hl : l.length ≤ 1000) :
    Pure Tryz.prog 26 [tysA t, staA s, grA p, opsA l] (.tup [AI (costR t s p l).1, AI (costR t s p l).2]) := by
  have s1 := ggivenS_spec t ht s hs p hp
  unfold costR
  by_cases h1 : pricE t s p = 0
  rotate_left
  · rw [if_pos h1]
    generalize pricE t s p = c at *
    obtain ⟨tn, te⟩ := t
    obtain ⟨sn, se⟩ := s
    obtain ⟨pn, pe⟩ := p
    refine zen Tryz.func26 (by kernel_rfl) rfl Tryz.ntmps26 rfl (by simp) ?_
    refine a_seq ?_
    refine a_reg ?_
    repeat (first | refine gZ pk ?_ | (show AL _ _ _ _ _ _ _; first | refine jB (fun u => ?_)))
    refine zfb 2 4 rfl rfl ?_
    refine zfb 1 5 rfl rfl ?_
    refine zfb 0 6 rfl rfl ?_
    repeat (first | refine gA pk ?_ | (show AL _ _ _ _ _ _ _; first | refine jP s1 ?_))
    refine finQ ?_
    exact ⟨rfl, rfl⟩
  rw [if_neg (Decidable.not_not.2 h1)]
  rw [h1] at s1
  have hP := pricE_zero.1 h1
  have s2 := gright_plan_spec p hP.gr l hl
  by_cases h2 : planE p (kn0 p) l = 0
  rotate_left
  · rw [if_pos h2]
    generalize planE p (kn0 p) l = c at *
    obtain ⟨tn, te⟩ := t
    obtain ⟨sn, se⟩ := s
    obtain ⟨pn, pe⟩ := p
    refine zen Tryz.func26 (by kernel_rfl) rfl Tryz.ntmps26 rfl (by simp) ?_
    refine a_seq ?_
    refine a_reg ?_
    repeat (first | refine gZ pk ?_ | (show AL _ _ _ _ _ _ _; first | refine jB (fun u => ?_)))
    refine zfb 2 4 rfl rfl ?_
    refine zfb 1 5 rfl rfl ?_
    refine zfb 0 6 rfl rfl ?_
    repeat (first | refine gA pk ?_ | (show AL _ _ _ _ _ _ _; first | refine jP s1 ?_ | refine jP s2 ?_))
    refine finQ ?_
    exact ⟨rfl, rfl⟩
  rw [if_neg (Decidable.not_not.2 h2)]
  rw [h2] at s2
  have s3 := gcost_spec t ht s hs p hP l hl (plan_pre h2)
  generalize costL t s p l = c at *
  obtain ⟨tn, te⟩ := t
  obtain ⟨sn, se⟩ := s
  obtain ⟨pn, pe⟩ := p
  refine zen Tryz.func26 (by kernel_rfl) rfl Tryz.ntmps26 rfl (by simp) ?_
  refine a_seq ?_
  refine a_reg ?_
  repeat (first | refine gZ pk ?_ | (show AL _ _ _ _ _ _ _; first | refine jB (fun u => ?_)))
  refine zfb 2 4 rfl rfl ?_
  refine zfb 1 5 rfl rfl ?_
  refine zfb 0 6 rfl rfl ?_
  repeat (first | refine gA pk ?_ | (show AL _ _ _ _ _ _ _; first | refine jP s1 ?_ | refine jP s2 ?_ | refine jP s3 ?_))
  refine finQ ?_
  exact ⟨rfl, rfl⟩
end Go.Proofs.YtimfponihbfimaaGreat
end
section
namespace Go.Proofs.YtimfponihbfimaaGreat
open Go.Sj Go.Sj.Typ Go.Sj.Sta Go.Sj.Inc Go.Sj.Pln
set_option maxRecDepth 8000
set_option maxHeartbeats 16000000
def SmP (t : Tys) (s : Sta) (p : Gr) (l : List Opn) : Prop := Small t ∧ (s.nodes.length ≤ 1000 ∧ s.edges.length ≤ 1000) ∧ (p.nodes.length ≤ 1000 ∧ p.edges.length ≤ 1000) ∧ l.length ≤ 150
theorem small_spec (t : Tys) (ht : OkT t) (s : Sta) (p : Gr) (l : List Opn) (hl : l.length ≤ 140737488355328) :
    Go.Sj.ACalls Tryz.prog 23 [tysA t, staA s, grA p, opsA l] [] (fun y L => (∃ b, y = AB b ∧ (b = true → SmP t s p l)) ∧ L = []) := by
  have s1 := Few_spec t ht
  have s2 := sfew_spec s
  have s3 := gfew_spec p
  have ll : (l.map cOp).length = l.length := by simp
  obtain ⟨b2, hb2⟩ : ∃ b, decide (s.nodes.length ≤ 45 ∧ s.edges.length ≤ 85) = b := ⟨_, rfl⟩
  obtain ⟨b3, hb3⟩ : ∃ b, decide (p.nodes.length ≤ 45 ∧ p.edges.length ≤ 90) = b := ⟨_, rfl⟩
  rw [hb2] at s2
  rw [hb3] at s3
  have hf : Small t → b2 = true → b3 = true → l.length ≤ 150 → SmP t s p l := fun h1 h2 h3 h4 => by
    rw [h2, decide_eq_true_eq] at hb2
    rw [h3, decide_eq_true_eq] at hb3
    exact ⟨h1, ⟨by omega, by omega⟩, ⟨by omega, by omega⟩, h4⟩
  clear hb2 hb3
  generalize SmP t s p l = Z at *
  generalize Small t = Y at *
  obtain ⟨tn, te⟩ := t
  obtain ⟨sn, se⟩ := s
  obtain ⟨pn, pe⟩ := p
  change Pure _ _ [.agg [cntsA sn, cntsA se]] _ at s2
  change Pure _ _ [.agg [ints pn, edsA pe]] _ at s3
  change Go.Sj.ACalls _ _ [.agg [nodsA tn, edgsA te]] _ _ at s1
  change Go.Sj.ACalls _ _ [.agg [nodsA tn, edgsA te], .agg [cntsA sn, cntsA se], .agg [ints pn, edsA pe], opsA l] _ _
  refine zen Tryz.func23 (by kernel_rfl) rfl Tryz.ntmps23 rfl (by simp) ?_
  refine a_seq ?_
  refine a_reg ?_
  repeat (first | refine gZ pk ?_ | (show AL _ _ _ _ _ _ _; first | refine jB (fun u => ?_)))
  refine zfb 2 4 rfl rfl ?_
  refine zfb 1 5 rfl rfl ?_
  refine zfb 0 6 rfl rfl ?_
  repeat (first | refine gN pk ?_ | (show AL _ _ _ _ _ _ _; first | refine zsc (Lc := []) (Lr := []) rfl rfl rfl rfl rfl s1 (SubL.of_eq rfl) (List.Perm.refl _) ?_; rintro _ _ ⟨⟨b1, rfl, hb1⟩, rfl⟩))
  cases b1 with
  | false =>
    repeat (first | refine gA pk ?_)
    exact fin (x := .lit _) (.inr rfl) rfl (Sub.refl _) ⟨⟨_, rfl, fun h => (by cases h)⟩, rfl⟩ (OSub.none _)
  | true =>
    have hs := hb1 rfl
    cases b2
    · repeat (first | refine gA pk ?_ | (show AL _ _ _ _ _ _ _; first | refine jP s2 ?_))
      exact fin (x := .lit _) (.inr rfl) rfl (Sub.refl _) ⟨⟨_, rfl, fun h => (by cases h)⟩, rfl⟩ (OSub.none _)
    · cases b3
      · repeat (first | refine gA pk ?_ | (show AL _ _ _ _ _ _ _; first | refine jP s2 ?_ | refine jP s3 ?_))
        exact fin (x := .lit _) (.inr rfl) rfl (Sub.refl _) ⟨⟨_, rfl, fun h => (by cases h)⟩, rfl⟩ (OSub.none _)
      · by_cases hle : l.length ≤ 150
        · have hz := hf hs rfl rfl hle
          repeat (first | refine gA pk ?_ | (show AL _ _ _ _ _ _ _; first | refine jP s2 ?_ | refine jP s3 ?_))
          exact fin (x := .lit (.bool true)) (.inr rfl) rfl (Sub.refl _) ⟨⟨true, rfl, fun _ => hz⟩, rfl⟩ (OSub.none _)
        · repeat (first | refine gA pk ?_ | (show AL _ _ _ _ _ _ _; first | refine jP s2 ?_ | refine jP s3 ?_))
          exact fin (x := .lit (.bool false)) (.inr rfl) rfl (Sub.refl _) ⟨⟨false, rfl, fun h => (by cases h)⟩, rfl⟩ (OSub.none _)
abbrev prcA (t : Tys) (s : Sta) (p : Gr) : AV := .agg [nodsA t.nodes, edgsA t.edges, cntsA s.nodes, cntsA s.edges, ints p.nodes, edsA p.edges]
theorem PlanCost_spec (t : Tys) (ht : OkT t) (s : Sta) (p : Gr) (hp : OkG p) (l : List Opn) (hl : l.length ≤ 140737488355328) : Pure Tryz.prog 7 [prcA t s p, opsA l] (AB true) := by
  have sa := awakeP_spec
  have s1 := small_spec t ht s p l hl
  have ll : (l.map cOp).length = l.length := by simp
  have s2 := fun (h : SmP t s p l) => gCopied_spec p h.2.2.1.1 h.2.2.1.2
  have s3 := fun (h : SmP t s p l) => (CloneOp_spec l (by have := h.2.2.2; omega)).pure
  have s4 := fun (h : SmP t s p l) => cost_spec t h.1 s h.2.1 p hp l (by have := h.2.2.2; omega)
  have s5 := fun (h : SmP t s p l) => gcostR_spec t h.1 s h.2.1 p hp l (by have := h.2.2.2; omega)
  generalize (costR t s p l).1 = c1 at *
  generalize (costR t s p l).2 = c2 at *
  generalize SmP t s p l = Z at *
  obtain ⟨tn, te⟩ := t
  obtain ⟨sn, se⟩ := s
  obtain ⟨pn, pe⟩ := p
  change Go.Sj.ACalls _ _ [.agg [nodsA tn, edgsA te], .agg [cntsA sn, cntsA se], .agg [ints pn, edsA pe], opsA l] _ _ at s1
  change Pure _ _ [.agg [nodsA tn, edgsA te, cntsA sn, cntsA se, ints pn, edsA pe], opsA l] _
  refine zen Tryz.func7 (by kernel_rfl) rfl Tryz.ntmps7 rfl (by simp) ?_; refine a_seq ?_; refine a_reg ?_; (repeat (first | refine gZ pk ?_ | (show AL _ _ _ _ _ _ _; first | refine jB (fun u => ?_)))); refine zfb 0 2 rfl rfl ?_
  repeat (first | refine gN pk ?_ | (show AL _ _ _ _ _ _ _; first | refine jP sa ?_ | refine zsc (Lc := []) (Lr := []) rfl rfl rfl rfl rfl s1 (SubL.of_eq rfl) (List.Perm.refl _) ?_; rintro _ _ ⟨⟨b1, rfl, hb1⟩, rfl⟩))
  cases b1 with
  | false =>
    repeat (first | refine gA pk ?_ | (show AL _ _ _ _ _ _ _; first | refine jP sa ?_))
    refine finQ ?_
    exact ⟨rfl, rfl⟩
  | true =>
    have hz := hb1 rfl
    replace s2 := s2 hz
    replace s3 := s3 hz
    replace s4 := s4 hz
    replace s5 := s5 hz
    change Pure _ _ [.agg [ints pn, edsA pe]] _ at s2
    change Pure _ _ [.agg [nodsA tn, edgsA te], .agg [cntsA sn, cntsA se], .agg [ints pn, edsA pe], opsA l] _ at s4
    change Pure _ _ [.agg [nodsA tn, edgsA te], .agg [cntsA sn, cntsA se], .agg [ints pn, edsA pe], opsA l] _ at s5
    repeat (first | refine gN pk ?_)
    refine zrg ((List.range 15).map fun i => if inL [6, 8, 9] i = true then .eff else if inL [1, 3, 5] i = true then .read else .pure) [6, 8] [0, 1, 2, 3, 4, 5, 7] (.nd 6 [] (.nd 8 [9, 10, 11, 12, 13, 14] .stop .stop) .stop) mixed rfl rfl (by decide +kernel) ?_
    repeat' (first | (with_reducible show AG _ _ _ _ _ _ _ _ _ _; first | exact zgn | refine zgs ?_ | refine znd ?_ ?_) | (show AMid _ _ _ _; first | refine zmf ?_ | refine zmg (by first | exact OSub.refl _ | exact .drop (OSub.refl _) | exact .drop (.drop (OSub.refl _))) ?_) | refine gY pk ?_ | (show AL _ _ _ _ _ _ _; first | refine jP s2 ?_ | refine jP s3 ?_ | refine jP s4 ?_) | fail)
    repeat (first | refine gA pk ?_ | (show AL _ _ _ _ _ _ _; first | refine jP s5 ?_))
    refine finQ ?_
    exact ⟨rfl, rfl⟩
theorem PlanValid_spec (p : Gr) (hp : OkG p) (l : List Opn) (hl : l.length ≤ 140737488355328) : Pure Tryz.prog 10 [grA p, opsA l] (AB true) := by
  have sa := awakeP_spec
  have s1 := gfew_spec p
  have ll : (l.map cOp).length = l.length := by simp
  by_cases hf : p.nodes.length ≤ 45 ∧ p.edges.length ≤ 90
  rotate_left
  · rw [decide_eq_false hf] at s1
    refine zen Tryz.func10 (by kernel_rfl) rfl Tryz.ntmps10 rfl (by simp) ?_; refine a_seq ?_; refine a_reg ?_; (repeat (first | refine gZ pk ?_ | (show AL _ _ _ _ _ _ _; first | refine jB (fun u => ?_)))); refine zfb 0 2 rfl rfl ?_
    repeat (first | refine gA pk ?_ | (show AL _ _ _ _ _ _ _; first | refine jP sa ?_ | refine jP s1 ?_))
    refine finQ ?_
    exact ⟨rfl, rfl⟩
  rw [decide_eq_true hf] at s1
  by_cases hle : l.length ≤ 150
  rotate_left
  · refine zen Tryz.func10 (by kernel_rfl) rfl Tryz.ntmps10 rfl (by simp) ?_; refine a_seq ?_; refine a_reg ?_; (repeat (first | refine gZ pk ?_ | (show AL _ _ _ _ _ _ _; first | refine jB (fun u => ?_)))); refine zfb 0 2 rfl rfl ?_
    repeat (first | refine gA pk ?_ | (show AL _ _ _ _ _ _ _; first | refine jP sa ?_ | refine jP s1 ?_))
    refine finQ ?_
    exact ⟨rfl, rfl⟩
  have s2 := gCopied_spec p (by omega) (by omega)
  have s3 := plain_spec p hp
  have s4 := gplain_spec p hp
  have s5 := (CloneOp_spec l (by omega)).pure
  have s6 := pvalid_spec p hp l (by omega)
  have s7 := gpvalid_spec p hp l (by omega)
  have hpl : (plainR p).1.length ≤ 1000 := by
    unfold plainR
    split
    · exact Nat.zero_le _
    · rename_i h
      have hG := gvalid_zero.1 (Decidable.not_not.1 h)
      have h1 := hG.nl
      have h2 := hG.el
      simp [plainL, opsN, opsE]
      omega
  have s8 := gSameOps_spec (plainR p).1 (plainR p).1 (by omega) (by omega)
  rw [decide_eq_true rfl] at s8
  have s9 := pvalid_spec p hp (plainR p).1 hpl
  have h9 : (plainR p).2 = 0 → pvalE p (plainR p).1 = 0 := fun h => by
    unfold plainR at h ⊢
    by_cases hg : gvalid p = 0
    · rw [if_neg (Decidable.not_not.2 hg)]
      unfold pvalE
      rw [if_neg (Decidable.not_not.2 hg)]
      exact plain_valid (gvalid_zero.1 hg)
    · rw [if_pos hg] at h
      exact absurd h hg
  generalize pvalE p l = c at *
  generalize pvalE p (plainR p).1 = c9 at *
  generalize (plainR p).1 = L at *
  generalize (plainR p).2 = e at *
  by_cases he : e = 0
  · have := h9 he
    subst this
    subst he
    refine zen Tryz.func10 (by kernel_rfl) rfl Tryz.ntmps10 rfl (by simp) ?_; refine a_seq ?_; refine a_reg ?_; (repeat (first | refine gZ pk ?_ | (show AL _ _ _ _ _ _ _; first | refine jB (fun u => ?_)))); refine zfb 0 2 rfl rfl ?_
    repeat (first | refine gN pk ?_ | (show AL _ _ _ _ _ _ _; first | refine jP sa ?_ | refine jP s1 ?_ | refine jP s2 ?_ | refine jP s3 ?_ | refine jP s4 ?_))
    refine zrg ((List.range 30).map fun i => if inL [1, 3, 4, 7, 12, 25] i = true then .eff else if inL [0, 5, 23] i = true then .read else .pure) [1, 3, 4] [0, 2, 5, 6] (.nd 1 [] (.nd 3 [] (.nd 4 [7, 8, 9, 10, 11, 12, 13, 14, 15, 16, 17, 18, 19, 20, 21, 22, 23, 24, 25, 26, 27, 28, 29] .stop .stop) .stop) .stop) mixed rfl rfl (by decide +kernel) ?_
    repeat' (first | (with_reducible show AG _ _ _ _ _ _ _ _ _ _; first | exact zgn | refine zgs ?_ | refine znd ?_ ?_) | (show AMid _ _ _ _; first | refine zmf ?_ | refine zmg (by first | exact OSub.refl _ | exact .drop (OSub.refl _) | exact .drop (.drop (OSub.refl _))) ?_) | refine gY pk ?_ | (show AL _ _ _ _ _ _ _; first | refine jP s2 ?_ | refine jP s5 ?_ | refine jP s6 ?_ | refine jP s7 ?_ | refine jP s8 ?_ | refine jP s9 ?_) | fail)
    repeat (first | refine gA pk ?_)
    refine finQ ?_
    exact ⟨rfl, rfl⟩
  · clear h9
    refine zen Tryz.func10 (by kernel_rfl) rfl Tryz.ntmps10 rfl (by simp) ?_; refine a_seq ?_; refine a_reg ?_; (repeat (first | refine gZ pk ?_ | (show AL _ _ _ _ _ _ _; first | refine jB (fun u => ?_)))); refine zfb 0 2 rfl rfl ?_
    repeat (first | refine gN pk ?_ | (show AL _ _ _ _ _ _ _; first | refine jP sa ?_ | refine jP s1 ?_ | refine jP s2 ?_ | refine jP s3 ?_ | refine jP s4 ?_))
    refine zrg ((List.range 30).map fun i => if inL [1, 3, 4, 7, 12, 25] i = true then .eff else if inL [0, 5, 23] i = true then .read else .pure) [1, 3, 4] [0, 2, 5, 6] (.nd 1 [] (.nd 3 [] (.nd 4 [7, 8, 9, 10, 11, 12, 13, 14, 15, 16, 17, 18, 19, 20, 21, 22, 23, 24, 25, 26, 27, 28, 29] .stop .stop) .stop) .stop) mixed rfl rfl (by decide +kernel) ?_
    repeat' (first | (with_reducible show AG _ _ _ _ _ _ _ _ _ _; first | exact zgn | refine zgs ?_ | refine znd ?_ ?_) | (show AMid _ _ _ _; first | refine zmf ?_ | refine zmg (by first | exact OSub.refl _ | exact .drop (OSub.refl _) | exact .drop (.drop (OSub.refl _))) ?_) | refine gY pk ?_ | (show AL _ _ _ _ _ _ _; first | refine jP s2 ?_ | refine jP s5 ?_ | refine jP s6 ?_ | refine jP s7 ?_ | refine jP s8 ?_) | fail)
    repeat (first | refine gA pk ?_)
    refine finQ ?_
    exact ⟨rfl, rfl⟩
end Go.Proofs.YtimfponihbfimaaGreat
end
section
namespace Go.Proofs.YtimfponihbfimaaGreat
open Go.Sj Go.Sj.Typ
set_option maxRecDepth 8000
set_option maxHeartbeats 4000000
abbrev RAtt := ByteArray × Int × Int × List ByteArray × Unit
abbrev RNod := ByteArray × Int × Bool × List RAtt × Unit
abbrev REdg := ByteArray × Int × Int × Int × Int × Int × Int × Unit
abbrev RTys := List RNod × List REdg × Unit
def toAtt (x : RAtt) : Att := ⟨x.1, x.2.1, x.2.2.1, x.2.2.2.1⟩
def toNod (x : RNod) : Nod := ⟨x.1, x.2.1, x.2.2.1, x.2.2.2.1.map toAtt⟩
def toEdg (x : REdg) : Edg := ⟨x.1, x.2.1, x.2.2.1, x.2.2.2.1, x.2.2.2.2.1, x.2.2.2.2.2.1, x.2.2.2.2.2.2.1⟩
def toTys (x : RTys) : Tys := ⟨x.1.map toNod, x.2.1.map toEdg⟩
def gAtt (x : RAtt) : List AV := [.lit (.string x.1)] ++ ([.lit (.int .i64 x.2.1)] ++ ([.lit (.int .i64 x.2.2.1)] ++ ([.im 1 (x.2.2.2.1.map fun s => [.lit (.string s)])] ++ [])))
def gNod (x : RNod) : List AV := [.lit (.string x.1)] ++ ([.lit (.int .i64 x.2.1)] ++ ([.lit (.bool x.2.2.1)] ++ ([.im 4 (x.2.2.2.1.map gAtt)] ++ [])))
def gEdg (x : REdg) : List AV := [.lit (.string x.1)] ++ ([.lit (.int .i64 x.2.1)] ++ ([.lit (.int .i64 x.2.2.1)] ++ ([.lit (.int .i64 x.2.2.2.1)] ++ ([.lit (.int .i64 x.2.2.2.2.1)] ++ ([.lit (.int .i64 x.2.2.2.2.2.1)] ++ ([.lit (.int .i64 x.2.2.2.2.2.2.1)] ++ []))))))
def gTys (x : RTys) : List AV := [.im 4 (x.1.map gNod)] ++ ([.im 7 (x.2.1.map gEdg)] ++ [])
theorem gAtt_eq : gAtt = fun x => cAtt (toAtt x) := rfl
theorem gEdg_eq : gEdg = fun x => cEdg (toEdg x) := rfl
theorem gNod_eq : gNod = fun x => cNod (toNod x) := funext fun x => by
  show [AV.lit (.string x.1), AI x.2.1, AB x.2.2.1, .im 4 (x.2.2.2.1.map gAtt)] = [AV.lit (.string x.1), AI x.2.1, AB x.2.2.1, .im 4 ((x.2.2.2.1.map toAtt).map cAtt)]
  rw [gAtt_eq, List.map_map]; rfl
def okRN (okA : RAtt → Prop) (a : RNod) : Prop := a.1.size ≤ maxLen ∧ (Lit.int .i64 a.2.1).wf = true ∧ True ∧ ((∀ b ∈ a.2.2.2.1, okA b) ∧ a.2.2.2.1.length ≤ reachBytes) ∧ True
theorem tys_ok {x : RTys} {okA : RAtt → Prop} {p q : Prop} (h : ((∀ a ∈ x.1, okRN okA a) ∧ p) ∧ q) : OkT (toTys x) := fun n hn => by
  obtain ⟨a, ha, rfl⟩ := List.mem_map.1 hn
  have := (h.1.1 a ha).2.2.2.1.2
  simp only [toNod, List.length_map]
  unfold reachBytes at this
  omega
end Go.Proofs.YtimfponihbfimaaGreat
end
section
namespace Go.Proofs.YtimfponihbfimaaGreat
open Go.Sj Go.Sj.Typ Go.Sj.Sta Go.Sj.Inc Go.Sj.Pln
set_option maxRecDepth 8000
abbrev ROpn := Int × Int × Unit
def toOpn (x : ROpn) : Opn := ⟨x.1, x.2.1⟩
def gOpn (x : ROpn) : List AV := [.lit (.int .i64 x.1)] ++ ([.lit (.int .i64 x.2.1)] ++ [])
theorem ops_vr {σ : Hp} {v : Value} {x : List ROpn} (h : VR σ (.im 2 (x.map gOpn)) v) : VR σ (opsA (x.map toOpn)) v := by
  have e : x.map gOpn = (x.map toOpn).map cOp := by
    rw [List.map_map]
    rfl
  rw [e] at h
  exact h
theorem ops_len {x : List ROpn} {q : Prop} (h : q ∧ x.length ≤ reachBytes) : (x.map toOpn).length ≤ 140737488355328 := by
  have := h.2
  unfold reachBytes at this
  rw [List.length_map]
  omega
theorem gTys_eq (x : RTys) : gTys x = [nodsA (toTys x).nodes, edgsA (toTys x).edges] := by
  show [AV.im 4 (x.1.map gNod), AV.im 7 (x.2.1.map gEdg)] = [AV.im 4 ((x.1.map toNod).map cNod), AV.im 7 ((x.2.1.map toEdg).map cEdg)]
  rw [gNod_eq, gEdg_eq, List.map_map, List.map_map]; rfl
abbrev RPrc := RTys × RSta × RGr × Unit
def gPrc (x : RPrc) : List AV := gTys x.1 ++ (gSta x.2.1 ++ (gGr x.2.2.1 ++ []))
theorem prc_vr {σ : Hp} {v : Value} {x : RPrc} (h : VR σ (.agg (gPrc x)) v) : VR σ (prcA (toTys x.1) (toSta x.2.1) (toGr x.2.2.1)) v := by
  unfold gPrc at h
  rw [gTys_eq, gSta_eq, gGr_eq] at h
  exact h
end Go.Proofs.YtimfponihbfimaaGreat
end
