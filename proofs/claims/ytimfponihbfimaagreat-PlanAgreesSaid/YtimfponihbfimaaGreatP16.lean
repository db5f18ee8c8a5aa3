/- Parts of a proof. -/
import Derived.Test.YtimfponihbfimaaGreatP15
set_option linter.unusedVariables false
set_option linter.unusedSimpArgs false
section
namespace Go.Proofs.YtimfponihbfimaaGreat
open Go.Sj Go.Sj.Typ Go.Sj.Sta
set_option maxRecDepth 8000
set_option maxHeartbeats 8000000
theorem within_spec (n m : Int) : Pure Tryz.prog 99 [AI n, AI m] (AB (decide (0 ≤ n ∧ n ≤ m))) := by
  refine zen Tryz.func99 (by kernel_rfl) rfl Tryz.ntmps99 rfl (by simp) ?_
  repeat' (first | refine gA pk ?_ | (show AL _ _ _ _ _ _ _; first | (refine s_cmp rfl rfl rfl rfl rfl rfl rfl (fun hb => ?_) (fun hb => ?_) <;> simp only [cmpP] at hb)) | fail)
  all_goals first | ((refine finQ ?_); exact ⟨ABt (by omega), rfl⟩) | ((refine finQ ?_); exact ⟨ABf (by omega), rfl⟩)
theorem gfits_spec (a b c : Int) (n : Int) (hn : 0 ≤ n ∧ n ≤ 140737488355328) : Pure Tryz.prog 102 [.agg [AI a, AI b, AI c], AI n] (AB (decide ((0 ≤ a ∧ a ≤ 99) ∧ (0 ≤ b ∧ b < n) ∧ (0 ≤ c ∧ c < n)))) := by
  have s1 := within_spec a 99
  have s2 := within_spec b (n - 1)
  have s3 := within_spec c (n - 1)
  refine zen Tryz.func102 (by kernel_rfl) rfl Tryz.ntmps102 rfl (by simp) ?_; refine a_seq ?_; refine a_reg ?_; (repeat (first | refine gZ pk ?_ | (show AL _ _ _ _ _ _ _; first | refine jB (fun u => ?_)))); refine zfb 0 2 rfl rfl ?_
  repeat' (first | refine gA pk ?_ | (show AL _ _ _ _ _ _ _; first | (refine s_callB rfl rfl rfl rfl rfl (s1) (SubL.of_eq rfl) (fun hb => ?_) (fun hb => ?_) <;> (first | replace hb := of_decide_eq_true hb | replace hb := of_decide_eq_false hb | skip)) | (refine s_callB rfl rfl rfl rfl rfl (s2) (SubL.of_eq rfl) (fun hb => ?_) (fun hb => ?_) <;> (first | replace hb := of_decide_eq_true hb | replace hb := of_decide_eq_false hb | skip)) | (refine s_callB rfl rfl rfl rfl rfl (s3) (SubL.of_eq rfl) (fun hb => ?_) (fun hb => ?_) <;> (first | replace hb := of_decide_eq_true hb | replace hb := of_decide_eq_false hb | skip)) | (refine s_cmp rfl rfl rfl rfl rfl rfl rfl (fun hb => ?_) (fun hb => ?_) <;> simp only [cmpP] at hb)) | fail)
  all_goals first | ((refine finQ ?_); exact ⟨ABt (by omega), rfl⟩) | ((refine finQ ?_); exact ⟨ABf (by omega), rfl⟩)
theorem gfits_spec' (e : Ed) (n : Nat) (hn : n ≤ 140737488355328) : Pure Tryz.prog 102 [.agg (cEd e), AI n] (AB (edB n e)) := by
  obtain ⟨a, b, c⟩ := e
  exact gfits_spec a b c n ⟨by omega, by omega⟩
theorem gv1_spec (x : Int) : Pure Tryz.prog 98 [AI x] (AB (!typB x)) := by
  have s1 := within_spec x 99
  unfold typB
  generalize decide (0 ≤ x ∧ x ≤ 99) = b at *
  cases b
  all_goals
    refine zen Tryz.func98 (by kernel_rfl) rfl Tryz.ntmps98 rfl (by simp) ?_
    repeat (first | refine gA pk ?_ | (show AL _ _ _ _ _ _ _; first | refine jP s1 ?_))
    refine finQ ?_
    exact ⟨rfl, rfl⟩
theorem gv2_spec (g : Gr) (hg : OkG g) (e : Ed) : Pure Tryz.prog 101 [.agg (cEd e), grP g] (AB (!edB g.nodes.length e)) := by
  have s1 := gfits_spec' e g.nodes.length (by have := hg.1; omega)
  have ll : (rowI g.nodes).length = g.nodes.length := by simp
  generalize edB g.nodes.length e = b at *
  rw [← ll] at s1
  cases b
  all_goals
    refine zen Tryz.func101 (by kernel_rfl) rfl Tryz.ntmps101 rfl (by simp) ?_; refine a_seq ?_; refine a_reg ?_; (repeat (first | refine gZ pk ?_ | (show AL _ _ _ _ _ _ _; first | refine jB (fun u => ?_)))); refine zfb 0 2 rfl rfl ?_
    repeat (first | refine gA pk ?_ | (show AL _ _ _ _ _ _ _; first | refine jP s1 ?_))
    refine finQ ?_
    exact ⟨rfl, rfl⟩
theorem gvalid_spec (g : Gr) (hg : OkG g) : Pure Tryz.prog 60 [grA g] (AI (gvalid g)) := by
  have ln : (rowI g.nodes).length = g.nodes.length := by simp
  have le : (g.edges.map cEd).length = g.edges.length := by simp
  unfold gvalid
  by_cases hb : 40 < g.nodes.length ∨ 80 < g.edges.length
  · rw [if_pos hb]
    by_cases h1 : 40 < g.nodes.length
    all_goals
      refine zen Tryz.func60 (by kernel_rfl) rfl Tryz.ntmps60 rfl (by simp) ?_; refine a_seq ?_; refine a_reg ?_; (repeat (first | refine gZ pk ?_ | (show AL _ _ _ _ _ _ _; first | refine jB (fun u => ?_)))); refine zfb 0 1 rfl rfl ?_
      repeat (first | refine gA pk ?_)
      refine finQ ?_
      exact ⟨rfl, rfl⟩
  · rw [if_neg hb]
    have s1 := ContainsFuncI_spec g.nodes (by omega) 98 [] (fun x => !typB x) (fun x _ => gv1_spec x)
    have s2 := ContainsFuncG_spec g.edges (by omega) 101 [grP g] (fun e => !edB g.nodes.length e) (fun e _ => gv2_spec g hg e)
    generalize (g.nodes.any fun x => !typB x) = p at *
    generalize (g.edges.any fun e => !edB g.nodes.length e) = q at *
    cases p
    · cases q
      all_goals
        simp only [Bool.false_eq_true, if_false, if_true]
        refine zen Tryz.func60 (by kernel_rfl) rfl Tryz.ntmps60 rfl (by simp) ?_; refine a_seq ?_; refine a_reg ?_; (repeat (first | refine gZ pk ?_ | (show AL _ _ _ _ _ _ _; first | refine jB (fun u => ?_)))); refine zfb 0 1 rfl rfl ?_
        repeat (first | refine gA pk ?_ | (show AL _ _ _ _ _ _ _; first | refine jP s1 ?_ | refine jP s2 ?_))
        refine finQ ?_
        exact ⟨rfl, rfl⟩
    · rw [if_pos rfl]
      refine zen Tryz.func60 (by kernel_rfl) rfl Tryz.ntmps60 rfl (by simp) ?_; refine a_seq ?_; refine a_reg ?_; (repeat (first | refine gZ pk ?_ | (show AL _ _ _ _ _ _ _; first | refine jB (fun u => ?_)))); refine zfb 0 1 rfl rfl ?_
      repeat (first | refine gA pk ?_ | (show AL _ _ _ _ _ _ _; first | refine jP s1 ?_))
      refine finQ ?_
      exact ⟨rfl, rfl⟩
theorem gkind_spec (x : Int) : Pure Tryz.prog 85 [AI x] (AB (typB x)) := by
  unfold typB
  refine zen Tryz.func85 (by kernel_rfl) rfl Tryz.ntmps85 rfl (by simp) ?_
  repeat' (first | refine gA pk ?_ | (show AL _ _ _ _ _ _ _; first | (refine s_cmp rfl rfl rfl rfl rfl rfl rfl (fun hb => ?_) (fun hb => ?_) <;> simp only [cmpP] at hb)) | fail)
  all_goals first | ((refine finQ ?_); exact ⟨ABt (by omega), rfl⟩) | ((refine finQ ?_); exact ⟨ABf (by omega), rfl⟩)
theorem gright_spec (a b c : Int) (n : Int) : Pure Tryz.prog 86 [.agg [AI a, AI b, AI c], AI n] (AB (decide ((0 ≤ a ∧ a ≤ 99) ∧ (0 ≤ b ∧ b < n) ∧ (0 ≤ c ∧ c < n)))) := by
  have s1 := gkind_spec a
  unfold typB at s1
  refine zen Tryz.func86 (by kernel_rfl) rfl Tryz.ntmps86 rfl (by simp) ?_; refine a_seq ?_; refine a_reg ?_; (repeat (first | refine gZ pk ?_ | (show AL _ _ _ _ _ _ _; first | refine jB (fun u => ?_)))); refine zfb 0 2 rfl rfl ?_
  repeat' (first | refine gA pk ?_ | (show AL _ _ _ _ _ _ _; first | (refine s_callB rfl rfl rfl rfl rfl (s1) (SubL.of_eq rfl) (fun hb => ?_) (fun hb => ?_) <;> (first | replace hb := of_decide_eq_true hb | replace hb := of_decide_eq_false hb | skip)) | (refine s_cmp rfl rfl rfl rfl rfl rfl rfl (fun hb => ?_) (fun hb => ?_) <;> simp only [cmpP] at hb)) | fail)
  all_goals first | ((refine finQ ?_); exact ⟨ABt (by omega), rfl⟩) | ((refine finQ ?_); exact ⟨ABf (by omega), rfl⟩)
theorem gright_spec' (e : Ed) (n : Nat) : Pure Tryz.prog 86 [.agg (cEd e), AI n] (AB (edB n e)) := by
  obtain ⟨a, b, c⟩ := e
  exact gright_spec a b c n
theorem any_take_some {A : Type} {l : List A} {p : A → Bool} {k : Nat} {a : A} (ha : l[k]? = some a) (hp : p a = true) : l.any p = true := List.any_eq_true.2 ⟨a, List.mem_of_getElem? ha, hp⟩
theorem any_take_none {A : Type} {l : List A} {p : A → Bool} (h : ∀ x ∈ l, p x = false) : l.any p = false := Bool.eq_false_iff.2 fun h2 => by
  obtain ⟨x, hx, hp⟩ := List.any_eq_true.1 h2
  rw [h x hx] at hp; cases hp
theorem refgvalid_spec (g : Gr) (hg : OkG g) : Pure Tryz.prog 48 [grA g] (AI (gvalid g)) := by
  have ln : (rowI g.nodes).length = g.nodes.length := by simp
  have le : (g.edges.map cEd).length = g.edges.length := by simp
  have hg1 := hg.1
  unfold gvalid
  by_cases hb : 40 < g.nodes.length ∨ 80 < g.edges.length
  · rw [if_pos hb]
    by_cases h1 : 40 < g.nodes.length
    all_goals
      refine zen Tryz.func48 (by kernel_rfl) rfl Tryz.ntmps48 rfl (by simp) ?_; refine a_seq ?_; refine a_reg ?_; (repeat (first | refine gZ pk ?_ | (show AL _ _ _ _ _ _ _; first | refine jB (fun u => ?_)))); refine zfb 0 1 rfl rfl ?_
      repeat (first | refine gA pk ?_)
      refine finQ ?_
      exact ⟨rfl, rfl⟩
  · rw [if_neg hb]
    obtain ⟨r, hr⟩ : ∃ r, (if (g.nodes.any fun x => !typB x) = true then (6 : Int) else if (g.edges.any fun e => !edB g.nodes.length e) = true then 6 else 0) = r := ⟨_, rfl⟩
    rw [hr]
    refine zen Tryz.func48 (by kernel_rfl) rfl Tryz.ntmps48 rfl (by simp) ?_; refine a_seq ?_; refine a_reg ?_; (repeat (first | refine gZ pk ?_ | (show AL _ _ _ _ _ _ _; first | refine jB (fun u => ?_)))); refine zfb 0 1 rfl rfl ?_
    repeat (first | refine gA pk ?_)
    refine zlx (fun k : Nat => [(1, grP g), (3, AI k)]) (fun _ => []) (fun k => k ≤ g.nodes.length ∧ ∀ x ∈ g.nodes.take k, (!typB x) = false) (fun k => g.nodes.length - k) 0 ⟨Nat.zero_le _, by simp⟩ ?_ (OSub.none _) ?_
    · exact subQ
    · rintro k ⟨hk, hno⟩
      rcases Nat.lt_or_ge k g.nodes.length with h | h
      · have hx := List.getElem?_eq_getElem h
        generalize g.nodes[k] = y at hx
        have xk : (rowI g.nodes)[(k : Int).toNat]? = some [AI y] := zmp (f := cI) hx
        have s1 := gkind_spec y
        cases hy : typB y with
        | true =>
          rw [hy] at s1
          have hn := none_takeP (p := fun x => !typB x) hno hx (by simp [hy])
          repeat (first | refine gA pk ?_ | (show AL _ _ _ _ _ _ _; first | refine jX tok xk ?_ | refine jP s1 ?_))
          exact ⟨k + 1, ⟨by omega, hn⟩, by omega, by exact subQ, OSub.none _⟩
        | false =>
          rw [hy] at s1
          rw [any_take_some hx (by simp [hy]), if_pos rfl] at hr
          subst hr
          repeat (first | refine gA pk ?_ | (show AL _ _ _ _ _ _ _; first | refine jX tok xk ?_ | refine jP s1 ?_))
          refine finQ ?_
          exact ⟨rfl, rfl⟩
      · obtain rfl : k = g.nodes.length := by omega
        rw [List.take_length] at hno
        rw [any_take_none hno, if_neg (by decide)] at hr
        repeat (first | refine gA pk ?_)
        refine zlx (fun k : Nat => [(1, grP g), (4, AI k)]) (fun _ => []) (fun k => k ≤ g.edges.length ∧ ∀ x ∈ g.edges.take k, (!edB g.nodes.length x) = false) (fun k => g.edges.length - k) 0 ⟨Nat.zero_le _, by simp⟩ ?_ (OSub.none _) ?_
        · exact subQ
        · rintro k ⟨hk, hno⟩
          rcases Nat.lt_or_ge k g.edges.length with h | h
          · have hx := List.getElem?_eq_getElem h
            generalize g.edges[k] = y at hx
            have xk : (g.edges.map cEd)[(k : Int).toNat]? = some (cEd y) := zmp hx
            have s1 := gright_spec' y g.nodes.length
            rw [← ln] at s1
            cases hy : edB g.nodes.length y with
            | true =>
              rw [ln, hy, ← ln] at s1
              have hn := none_takeP (p := fun x => !edB g.nodes.length x) hno hx (by simp [hy])
              repeat (first | refine gA pk ?_ | (show AL _ _ _ _ _ _ _; first | refine jX tok xk ?_ | refine jP s1 ?_))
              exact ⟨k + 1, ⟨by omega, hn⟩, by omega, by exact subQ, OSub.none _⟩
            | false =>
              rw [ln, hy, ← ln] at s1
              rw [any_take_some hx (by simp [hy]), if_pos rfl] at hr
              subst hr
              repeat (first | refine gA pk ?_ | (show AL _ _ _ _ _ _ _; first | refine jX tok xk ?_ | refine jP s1 ?_))
              refine finQ ?_
              exact ⟨rfl, rfl⟩
          · obtain rfl : k = g.edges.length := by omega
            rw [List.take_length] at hno
            rw [any_take_none hno, if_neg (by decide)] at hr
            subst hr
            repeat (first | refine gA pk ?_)
            refine finQ ?_
            exact ⟨rfl, rfl⟩
theorem gfew_spec (g : Gr) : Pure Tryz.prog 31 [grA g] (AB (decide (g.nodes.length ≤ 45 ∧ g.edges.length ≤ 90))) := by
  have ln : (rowI g.nodes).length = g.nodes.length := by simp
  have le : (g.edges.map cEd).length = g.edges.length := by simp
  by_cases h1 : g.nodes.length ≤ 45
  · by_cases h2 : g.edges.length ≤ 90
    · rw [decide_eq_true ⟨h1, h2⟩]
      refine zen Tryz.func31 (by kernel_rfl) rfl Tryz.ntmps31 rfl (by simp) ?_; refine a_seq ?_; refine a_reg ?_; (repeat (first | refine gZ pk ?_ | (show AL _ _ _ _ _ _ _; first | refine jB (fun u => ?_)))); refine zfb 0 1 rfl rfl ?_
      repeat (first | refine gA pk ?_)
      refine finQ ?_
      exact ⟨rfl, rfl⟩
    · rw [decide_eq_false (fun h => h2 h.2)]
      refine zen Tryz.func31 (by kernel_rfl) rfl Tryz.ntmps31 rfl (by simp) ?_; refine a_seq ?_; refine a_reg ?_; (repeat (first | refine gZ pk ?_ | (show AL _ _ _ _ _ _ _; first | refine jB (fun u => ?_)))); refine zfb 0 1 rfl rfl ?_
      repeat (first | refine gA pk ?_)
      refine finQ ?_
      exact ⟨rfl, rfl⟩
  · rw [decide_eq_false (fun h => h1 h.1)]
    refine zen Tryz.func31 (by kernel_rfl) rfl Tryz.ntmps31 rfl (by simp) ?_; refine a_seq ?_; refine a_reg ?_; (repeat (first | refine gZ pk ?_ | (show AL _ _ _ _ _ _ _; first | refine jB (fun u => ?_)))); refine zfb 0 1 rfl rfl ?_
    repeat (first | refine gA pk ?_)
    refine finQ ?_
    exact ⟨rfl, rfl⟩
theorem sfew_spec (s : Sta) : Pure Tryz.prog 61 [staA s] (AB (decide (s.nodes.length ≤ 45 ∧ s.edges.length ≤ 85))) := by
  have ln : (s.nodes.map cCnt).length = s.nodes.length := by simp
  have le : (s.edges.map cCnt).length = s.edges.length := by simp
  by_cases h1 : s.nodes.length ≤ 45
  · by_cases h2 : s.edges.length ≤ 85
    · rw [decide_eq_true ⟨h1, h2⟩]
      refine zen Tryz.func61 (by kernel_rfl) rfl Tryz.ntmps61 rfl (by simp) ?_; refine a_seq ?_; refine a_reg ?_; (repeat (first | refine gZ pk ?_ | (show AL _ _ _ _ _ _ _; first | refine jB (fun u => ?_)))); refine zfb 0 1 rfl rfl ?_
      repeat (first | refine gA pk ?_)
      refine finQ ?_
      exact ⟨rfl, rfl⟩
    · rw [decide_eq_false (fun h => h2 h.2)]
      refine zen Tryz.func61 (by kernel_rfl) rfl Tryz.ntmps61 rfl (by simp) ?_; refine a_seq ?_; refine a_reg ?_; (repeat (first | refine gZ pk ?_ | (show AL _ _ _ _ _ _ _; first | refine jB (fun u => ?_)))); refine zfb 0 1 rfl rfl ?_
      repeat (first | refine gA pk ?_)
      refine finQ ?_
      exact ⟨rfl, rfl⟩
  · rw [decide_eq_false (fun h => h1 h.1)]
    refine zen Tryz.func61 (by kernel_rfl) rfl Tryz.ntmps61 rfl (by simp) ?_; refine a_seq ?_; refine a_reg ?_; (repeat (first | refine gZ pk ?_ | (show AL _ _ _ _ _ _ _; first | refine jB (fun u => ?_)))); refine zfb 0 1 rfl rfl ?_
    repeat (first | refine gA pk ?_)
    refine finQ ?_
    exact ⟨rfl, rfl⟩
end Go.Proofs.YtimfponihbfimaaGreat
end
section
namespace Go.Proofs.YtimfponihbfimaaGreat
open Go.Sj Go.Sj.Typ
set_option maxRecDepth 8000
set_option maxHeartbeats 4000000
theorem letter_spec (c : Int) : Pure Tryz.prog 212 [A8 c] (AB (decide (letP c))) := by
  unfold letP
  refine zen Tryz.func212 (by kernel_rfl) rfl Tryz.ntmps212 rfl (by simp) ?_
  repeat' (first | refine gA pk ?_ | (show AL _ _ _ _ _ _ _; first | (refine s_cmp rfl rfl rfl rfl rfl rfl rfl (fun hb => ?_) (fun hb => ?_) <;> simp only [cmpP] at hb)) | fail)
  all_goals first | ((refine finQ ?_); exact ⟨ABt (by omega), rfl⟩) | ((refine finQ ?_); exact ⟨ABf (by omega), rfl⟩)
theorem digit_spec (c : Int) : Pure Tryz.prog 215 [A8 c] (AB (decide (digP c))) := by
  unfold digP
  refine zen Tryz.func215 (by kernel_rfl) rfl Tryz.ntmps215 rfl (by simp) ?_
  repeat' (first | refine gA pk ?_ | (show AL _ _ _ _ _ _ _; first | (refine s_cmp rfl rfl rfl rfl rfl rfl rfl (fun hb => ?_) (fun hb => ?_) <;> simp only [cmpP] at hb)) | fail)
  all_goals first | ((refine finQ ?_); exact ⟨ABt (by omega), rfl⟩) | ((refine finQ ?_); exact ⟨ABf (by omega), rfl⟩)
theorem part_spec (c : Int) : Pure Tryz.prog 214 [A8 c] (AB (decide (parP c))) := by
  have h1 := letter_spec c
  have h2 := digit_spec c
  unfold parP
  unfold letP digP at *
  refine zen Tryz.func214 (by kernel_rfl) rfl Tryz.ntmps214 rfl (by simp) ?_
  repeat' (first | refine gA pk ?_ | (show AL _ _ _ _ _ _ _; first | (refine s_callB rfl rfl rfl rfl rfl (h1) (SubL.of_eq rfl) (fun hb => ?_) (fun hb => ?_) <;> (first | replace hb := of_decide_eq_true hb | replace hb := of_decide_eq_false hb | skip)) | (refine s_callB rfl rfl rfl rfl rfl (h2) (SubL.of_eq rfl) (fun hb => ?_) (fun hb => ?_) <;> (first | replace hb := of_decide_eq_true hb | replace hb := of_decide_eq_false hb | skip)) | (refine s_cmp rfl rfl rfl rfl rfl rfl rfl (fun hb => ?_) (fun hb => ?_) <;> simp only [cmpP] at hb)) | fail)
  all_goals first | ((refine finQ ?_); exact ⟨ABt (by omega), rfl⟩) | ((refine finQ ?_); exact ⟨ABf (by omega), rfl⟩)
theorem refLetter_spec (c : Int) : Pure Tryz.prog 204 [A8 c] (AB (decide (letP c))) := by
  unfold letP
  refine zen Tryz.func204 (by kernel_rfl) rfl Tryz.ntmps204 rfl (by simp) ?_
  repeat' (first | refine gA pk ?_ | (show AL _ _ _ _ _ _ _; first | (refine s_cmp rfl rfl rfl rfl rfl rfl rfl (fun hb => ?_) (fun hb => ?_) <;> simp only [cmpP] at hb)) | fail)
  all_goals first | ((refine finQ ?_); exact ⟨ABt (by omega), rfl⟩) | ((refine finQ ?_); exact ⟨ABf (by omega), rfl⟩)
theorem refDigit_spec (c : Int) : Pure Tryz.prog 205 [A8 c] (AB (decide (digP c))) := by
  unfold digP
  refine zen Tryz.func205 (by kernel_rfl) rfl Tryz.ntmps205 rfl (by simp) ?_
  repeat' (first | refine gA pk ?_ | (show AL _ _ _ _ _ _ _; first | (refine s_cmp rfl rfl rfl rfl rfl rfl rfl (fun hb => ?_) (fun hb => ?_) <;> simp only [cmpP] at hb)) | fail)
  all_goals first | ((refine finQ ?_); exact ⟨ABt (by omega), rfl⟩) | ((refine finQ ?_); exact ⟨ABf (by omega), rfl⟩)
end Go.Proofs.YtimfponihbfimaaGreat
end
section
namespace Go.Proofs.YtimfponihbfimaaGreat
open Go.Sj Go.Sj.Typ
set_option maxRecDepth 8000
set_option maxHeartbeats 4000000
def runL (p : Int → Bool) : List UInt8 → Nat
  | [] => 0
  | b :: l => if p b.toNat then runL p l + 1 else 0
theorem runL_le (p : Int → Bool) : ∀ l, runL p l ≤ l.length
  | [] => Nat.le_refl _
  | b :: l => by
    unfold runL
    have := runL_le p l
    split <;> simp only [List.length_cons] <;> omega
theorem runL_all (p : Int → Bool) : ∀ l : List UInt8, runL p l = l.length ↔ l.all (fun b => p b.toNat) = true
  | [] => by simp [runL]
  | b :: l => by
    have ih := runL_all p l
    have := runL_le p l
    unfold runL
    by_cases h : p b.toNat = true
    · simp [h, ← ih]
    · simp [h]
theorem runL_of (p : Int → Bool) : ∀ (l : List UInt8) (n : Nat), n ≤ l.length → (∀ i, i < n → p (l.getD i 0).toNat = true) → (n < l.length → p (l.getD n 0).toNat = false) → runL p l = n
  | [], n, h, _, _ => by simp at h; subst h; rfl
  | b :: l, 0, _, _, h => by
    have := h (by simp)
    simp at this
    simp [runL, this]
  | b :: l, n + 1, hn, h1, h2 => by
    have h0 := h1 0 (by omega)
    simp at h0
    have := runL_of p l n (by simpa using hn) (fun i hi => by have := h1 (i + 1) (by omega); simpa using this) (fun hlt => by have := h2 (by simpa using hlt); simpa using this)
    simp [runL, h0, this]
def runS (p : Int → Bool) (s : ByteArray) : Nat := runL p s.data.toList
theorem runS_le (p : Int → Bool) (s : ByteArray) : runS p s ≤ s.size := by
  have := runL_le p s.data.toList
  rw [size_list]; exact this
theorem run_spec (s : ByteArray) (hs : s.size ≤ 1000000) (g : FuncId) (p : Int → Bool) (hg : ∀ c, 0 ≤ c → c ≤ 255 → Pure Tryz.prog g [A8 c] (AB (p c))) : Pure Tryz.prog 213 [AS s, .fn (.func g) [] []] (AI (runS p s)) := by
  refine zen Tryz.func213 (by kernel_rfl) rfl Tryz.ntmps213 rfl (by simp) ?_
  repeat (first | refine gA pk ?_)
  refine zlx (fun k : Nat => [(0, AS s), (1, .fn (.func g) [] []), (5, AI k)]) (fun _ => []) (fun k => k ≤ s.size ∧ ∀ i, i < k → p (byt s i) = true) (fun k => s.size - k) 0 ⟨Nat.zero_le _, fun i hi => by omega⟩ ?_ (OSub.refl _) ?_
  · exact subQ
  · rintro k ⟨hk, hp⟩
    rcases Nat.lt_or_ge k s.size with h | h
    · have hr := byt_rng s k
      have hc := hg (byt s k) hr.1 hr.2
      rw [show byt s k = byt s (k : Int).toNat by simp] at hc
      cases hpk : p (byt s k) with
      | true =>
        rw [show byt s (k : Int).toNat = byt s k by simp, hpk] at hc
        repeat (first | refine gA pk ?_ | (show AL _ _ _ _ _ _ _; first | refine s_strIx tok rfl rfl rfl rfl rfl rfl rfl (by omega) (by omega) ?_ | refine jP hc ?_))
        refine ⟨k + 1, ⟨by omega, fun i hi => ?_⟩, by omega, ?_, OSub.none _⟩
        · rcases Nat.lt_or_ge i k with h1 | h1
          · exact hp i h1
          · obtain rfl : i = k := by omega
            exact hpk
        · exact subQ
      | false =>
        rw [show byt s (k : Int).toNat = byt s k by simp, hpk] at hc
        repeat (first | refine gA pk ?_ | (show AL _ _ _ _ _ _ _; first | refine s_strIx tok rfl rfl rfl rfl rfl rfl rfl (by omega) (by omega) ?_ | refine jP hc ?_))
        rw [show k = runS p s from (runL_of p s.data.toList k (by rw [← size_list]; omega) (fun i hi => hp i hi) (fun _ => hpk)).symm]
        refine finQ ?_
        exact ⟨rfl, rfl⟩
    · obtain rfl : k = s.size := by omega
      repeat (first | refine gA pk ?_)
      rw [show s.size = runS p s from (runL_of p s.data.toList s.size (by rw [← size_list]; omega) (fun i hi => hp i hi) (fun h => by rw [← size_list] at h; omega)).symm]
      refine finQ ?_
      exact ⟨rfl, rfl⟩
end Go.Proofs.YtimfponihbfimaaGreat
end
