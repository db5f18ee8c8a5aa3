/-
  Copies, equality, errors, CodeIn of the references: the walks.
-/
import Derived.Test.YtoaenbfidlgjhaaSjQ8
import Derived.Test.YtoaenbfidlgjhaaW12
namespace Go.Proofs.Ytoaenbfidlgjhaa
open Go.Sj Go.Sj.Typ Go.Sj.Sta Go.Sj.Can
set_option linter.unusedVariables false
set_option linter.unusedSimpArgs false
set_option maxHeartbeats 16000000

theorem se_edge : SE Try.prog 60 3 := se_of Try.underlying60 (by kernel_rfl) (by kernel_rfl) rfl (by kernel_rfl)
abbrev toIE (e : Ed) : List Int := [e.ty, e.fr, e.to]
theorem toIE_eq {a b : Ed} : toIE a = toIE b ↔ a = b := by
  obtain ⟨a1, a2, a3⟩ := a
  obtain ⟨b1, b2, b3⟩ := b
  simp [toIE]
theorem gCopied_spec (g : Gr) (h1 : g.nodes.length ≤ 1000) (h2 : g.edges.length ≤ 1000) : Pure Try.prog 14 [grA g] (grA g) := by
  have ln : (rowI g.nodes).length = g.nodes.length := by simp
  have le : (g.edges.map cEd).length = g.edges.length := by simp
  refine a_enterC Try.func14 (by kernel_rfl) rfl Try.ntmps14 rfl (tok _ _ rfl) (by simp) ?_
  refine a_seq ?_
  refine a_reg ?_
  repeat (first | refine gZ pk ?_ | (show AL _ _ _ _ _ _ _; first | refine jB (fun u => ?_) | refine jL tok (fun u2 => ?_)))
  refine a_frzBox 1 1 rfl rfl ?_
  refine AWp.mono (Q := fun e st L => e = .normal ∧ GoTo 12 st L (lk [(2, .pt u2 0 0 0)]) [(u2, .box [ints g.nodes, edsA g.edges])]) ?_ (fun e st L h => ?_)
  · refine a_regXP [1, 2, 5, 6] (.nd [0] (.nd [3, 4, 7, 8, 9] .stop (.nd [4, 3, 7, 8, 9] .stop .stop)) (.nd [4, 0, 3, 7, 8, 9] .stop .stop)) mixed rfl rfl (by decide +kernel) ?_
    repeat' (first | (with_reducible show AX _ _ _ _ _ _ _ _ _; first | exact ax_none | refine ax_stop ?_ | refine ax_nd ?_ ?_) | refine gY pk ?_ | (show AL _ _ _ _ _ _ _; first | refine s_build tok (parts := []) rfl rfl rfl rfl rfl rfl rfl rfl (by decide) (by decide) (fun v => ?_) | refine s_appendImF tok 0 rfl rfl rfl rfl rfl rfl (by decide) rfl rfl rfl rfl (rowI_cell _) (by simp only [ln, le, List.length_nil]; omega) (by simp only [ln, le, List.length_nil]; omega) ?_ | refine s_appendImF tok 0 rfl rfl rfl rfl rfl rfl (by decide) rfl rfl rfl rfl (cEd_cell _) (by simp only [ln, le, List.length_nil]; omega) (by simp only [ln, le, List.length_nil]; omega) ?_ | refine s_appendImF tok 1 rfl rfl rfl rfl rfl rfl (by decide) rfl rfl rfl rfl (rowI_cell _) (by simp only [ln, le, List.length_nil]; omega) (by simp only [ln, le, List.length_nil]; omega) ?_ | refine s_appendImF tok 1 rfl rfl rfl rfl rfl rfl (by decide) rfl rfl rfl rfl (cEd_cell _) (by simp only [ln, le, List.length_nil]; omega) (by simp only [ln, le, List.length_nil]; omega) ?_ | refine jS tok 0 ?_ | refine jS tok 1 ?_) | fail)
    all_goals exact ⟨rfl, GoTo.sub (by exact subQ) (OSub.refl _)⟩
  · obtain ⟨rfl, h⟩ := h
    refine a_goto h ?_
    refine a_frzBox 0 2 rfl rfl ?_
    repeat (first | refine gA pk ?_)
    exact ⟨.inr rfl, _, _, _, _, rfl, rfl, Turn.of (Sub.of_eq rfl) (OSub.refl _), rfl, rfl⟩
theorem take_eqI {α : Type} {xs ys : List α} {k : Nat} {a b : α} (h1 : xs[k]? = some a) (h2 : ys[k]? = some b) (he : xs.take k = ys.take k) (hab : a = b) : xs.take (k + 1) = ys.take (k + 1) := by
  rw [List.take_add_one, List.take_add_one, h1, h2, he, hab]
theorem gSameInts_spec (xs ys : List Int) (hx : xs.length ≤ 1000000) (hy : ys.length ≤ 1000000) : Pure Try.prog 51 [ints xs, ints ys] (AB (decide (xs = ys))) := by
  have lx : (rowI xs).length = xs.length := by simp
  have ly : (rowI ys).length = ys.length := by simp
  by_cases hl : xs.length = ys.length
  · refine a_enter Try.func51 (by kernel_rfl) rfl Try.ntmps51 rfl (by simp) ?_
    repeat (first | refine gA pk ?_)
    refine a_loopX (fun k : Nat => [(0, ints xs), (1, ints ys), (5, AI k)]) (fun _ => []) (fun k => k ≤ xs.length ∧ xs.take k = ys.take k) (fun k => xs.length - k) 0 ⟨Nat.zero_le _, rfl⟩ ?_ (OSub.refl _) ?_
    · exact subQ
    · rintro k ⟨hk, he⟩
      rcases Nat.lt_or_ge k xs.length with h | h
      · have h1 := List.getElem?_eq_getElem h
        have h2 := List.getElem?_eq_getElem (l := ys) (i := k) (by omega)
        generalize xs[k] = a at h1
        generalize ys[k]'(by omega) = b at h2
        have x1 : (rowI xs)[(k : Int).toNat]? = some [AI a] := map_get (f := cI) h1
        have x2 : (rowI ys)[(k : Int).toNat]? = some [AI b] := map_get (f := cI) h2
        by_cases hab : a = b
        · have ht := take_eqI h1 h2 he hab
          repeat (first | refine gA pk ?_ | (show AL _ _ _ _ _ _ _; first | refine jX tok x1 ?_ | refine jX tok x2 ?_))
          exact ⟨k + 1, ⟨by omega, ht⟩, by omega, by exact subQ, OSub.refl _⟩
        · have hne : xs ≠ ys := fun e => by rw [e, h2] at h1; cases h1; exact hab rfl
          rw [decide_eq_false hne]
          repeat (first | refine gA pk ?_ | (show AL _ _ _ _ _ _ _; first | refine jX tok x1 ?_ | refine jX tok x2 ?_))
          refine finQ ?_
          exact ⟨rfl, rfl⟩
      · have : xs = ys := by
          have e1 : xs.take k = xs := List.take_of_length_le (by omega)
          have e2 : ys.take k = ys := List.take_of_length_le (by omega)
          rw [← e1, ← e2, he]
        rw [decide_eq_true this]
        repeat (first | refine gA pk ?_)
        refine finQ ?_
        exact ⟨rfl, rfl⟩
  · rw [decide_eq_false (fun e => hl (by rw [e]))]
    refine a_enter Try.func51 (by kernel_rfl) rfl Try.ntmps51 rfl (by simp) ?_
    repeat (first | refine gA pk ?_)
    refine finQ ?_
    exact ⟨rfl, rfl⟩
def gSame (a b : Gr) : Bool := decide (a.nodes = b.nodes) && decide (a.edges = b.edges)
theorem gSame_self (a : Gr) : gSame a a = true := by simp [gSame]
theorem gSame_spec (a b : Gr) (ha : a.nodes.length ≤ 1000000 ∧ a.edges.length ≤ 1000000) (hb : b.nodes.length ≤ 1000000 ∧ b.edges.length ≤ 1000000) : Pure Try.prog 23 [grA a, grA b] (AB (gSame a b)) := by
  have lx : (a.edges.map cEd).length = a.edges.length := by simp
  have ly : (b.edges.map cEd).length = b.edges.length := by simp
  have s1 := gSameInts_spec a.nodes b.nodes ha.1 hb.1
  unfold gSame
  by_cases hn : a.nodes = b.nodes
  · rw [decide_eq_true hn] at s1 ⊢
    rw [Bool.true_and]
    by_cases hl : a.edges.length = b.edges.length
    · refine a_enter Try.func23 (by kernel_rfl) rfl Try.ntmps23 rfl (by simp) ?_
      refine a_seq ?_
      refine a_reg ?_
      repeat (first | refine gZ pk ?_ | (show AL _ _ _ _ _ _ _; first | refine jB (fun u => ?_)))
      refine a_frzBox 1 2 rfl rfl ?_
      refine a_frzBox 0 3 rfl rfl ?_
      repeat (first | refine gA pk ?_ | (show AL _ _ _ _ _ _ _; first | refine jP s1 ?_))
      refine a_loopX (fun k : Nat => [(2, grP a), (3, grP b), (5, AI k)]) (fun _ => []) (fun k => k ≤ a.edges.length ∧ a.edges.take k = b.edges.take k) (fun k => a.edges.length - k) 0 ⟨Nat.zero_le _, rfl⟩ ?_ (OSub.none _) ?_
      · exact subQ
      · rintro k ⟨hk, he⟩
        rcases Nat.lt_or_ge k a.edges.length with h | h
        · have h1 := List.getElem?_eq_getElem h
          have h2 := List.getElem?_eq_getElem (l := b.edges) (i := k) (by omega)
          generalize a.edges[k] = x at h1
          generalize b.edges[k]'(by omega) = y at h2
          have x1 : (a.edges.map cEd)[(k : Int).toNat]? = some (cEd x) := map_get (f := cEd) h1
          have x2 : (b.edges.map cEd)[(k : Int).toNat]? = some (cEd y) := map_get (f := cEd) h2
          by_cases hab : x = y
          · have ht := take_eqI h1 h2 he hab
            repeat (first | refine gA pk ?_ | (show AL _ _ _ _ _ _ _; first | refine jX tok x1 ?_ | refine jX tok x2 ?_ | refine s_sne (b := false) (xs := toIE x) (ys := toIE y) se_edge rfl rfl rfl rfl rfl rfl rfl rfl (by rw [decide_eq_true (toIE_eq.2 hab)]; rfl) ?_))
            exact ⟨k + 1, ⟨by omega, ht⟩, by omega, by exact subQ, OSub.none _⟩
          · have hne : a.edges ≠ b.edges := fun e => by rw [e, h2] at h1; cases h1; exact hab rfl
            rw [decide_eq_false hne]
            repeat (first | refine gA pk ?_ | (show AL _ _ _ _ _ _ _; first | refine jX tok x1 ?_ | refine jX tok x2 ?_ | refine s_sne (b := true) (xs := toIE x) (ys := toIE y) se_edge rfl rfl rfl rfl rfl rfl rfl rfl (by rw [decide_eq_false (fun q => hab (toIE_eq.1 q))]; rfl) ?_))
            refine finQ ?_
            exact ⟨rfl, rfl⟩
        · have : a.edges = b.edges := by
            have e1 : a.edges.take k = a.edges := List.take_of_length_le (by omega)
            have e2 : b.edges.take k = b.edges := List.take_of_length_le (by omega)
            rw [← e1, ← e2, he]
          rw [decide_eq_true this]
          repeat (first | refine gA pk ?_)
          refine finQ ?_
          exact ⟨rfl, rfl⟩
    · rw [decide_eq_false (fun e => hl (by rw [e]))]
      refine a_enter Try.func23 (by kernel_rfl) rfl Try.ntmps23 rfl (by simp) ?_
      refine a_seq ?_
      refine a_reg ?_
      repeat (first | refine gZ pk ?_ | (show AL _ _ _ _ _ _ _; first | refine jB (fun u => ?_)))
      refine a_frzBox 1 2 rfl rfl ?_
      refine a_frzBox 0 3 rfl rfl ?_
      repeat (first | refine gA pk ?_ | (show AL _ _ _ _ _ _ _; first | refine jP s1 ?_))
      refine finQ ?_
      exact ⟨rfl, rfl⟩
  · rw [decide_eq_false hn] at s1 ⊢
    rw [Bool.false_and]
    refine a_enter Try.func23 (by kernel_rfl) rfl Try.ntmps23 rfl (by simp) ?_
    refine a_seq ?_
    refine a_reg ?_
    repeat (first | refine gZ pk ?_ | (show AL _ _ _ _ _ _ _; first | refine jB (fun u => ?_)))
    refine a_frzBox 1 2 rfl rfl ?_
    refine a_frzBox 0 3 rfl rfl ?_
    repeat (first | refine gA pk ?_ | (show AL _ _ _ _ _ _ _; first | refine jP s1 ?_))
    refine finQ ?_
    exact ⟨rfl, rfl⟩
theorem rvalid_spec (g : Gr) (hg : OkG g) : Pure Try.prog 38 [grA g] (AI (cvalid g)) := by
  have ln : (rowI g.nodes).length = g.nodes.length := by simp
  have s1 := refgvalid_spec g hg
  unfold cvalid
  generalize gvalid g = e at *
  by_cases h : e = 0
  · subst h
    rw [if_neg (by decide)]
    by_cases h2 : 8 < g.nodes.length
    · rw [if_pos h2]
      refine a_enter Try.func38 (by kernel_rfl) rfl Try.ntmps38 rfl (by simp) ?_; refine a_seq ?_; refine a_reg ?_; (repeat (first | refine gZ pk ?_ | (show AL _ _ _ _ _ _ _; first | refine jB (fun u => ?_)))); refine a_frzBox 0 1 rfl rfl ?_
      repeat (first | refine gA pk ?_ | (show AL _ _ _ _ _ _ _; first | refine jP s1 ?_))
      refine finQ ?_
      exact ⟨rfl, rfl⟩
    · rw [if_neg h2]
      refine a_enter Try.func38 (by kernel_rfl) rfl Try.ntmps38 rfl (by simp) ?_; refine a_seq ?_; refine a_reg ?_; (repeat (first | refine gZ pk ?_ | (show AL _ _ _ _ _ _ _; first | refine jB (fun u => ?_)))); refine a_frzBox 0 1 rfl rfl ?_
      repeat (first | refine gA pk ?_ | (show AL _ _ _ _ _ _ _; first | refine jP s1 ?_))
      refine finQ ?_
      exact ⟨rfl, rfl⟩
  · rw [if_pos h]
    refine a_enter Try.func38 (by kernel_rfl) rfl Try.ntmps38 rfl (by simp) ?_; refine a_seq ?_; refine a_reg ?_; (repeat (first | refine gZ pk ?_ | (show AL _ _ _ _ _ _ _; first | refine jB (fun u => ?_)))); refine a_frzBox 0 1 rfl rfl ?_
    repeat (first | refine gA pk ?_ | (show AL _ _ _ _ _ _ _; first | refine jP s1 ?_))
    refine finQ ?_
    exact ⟨rfl, rfl⟩
/-- What the laws take. -/
def lightB (g : Gr) : Bool := decide (g.nodes.length ≤ 45 ∧ g.edges.length ≤ 90) && (decide (cvalid g ≠ 0) || (decide (g.nodes.length ≤ 7) && decide (g.edges.length ≤ 12)))
theorem Light_spec (g : Gr) (hg : OkG g) : Pure Try.prog 12 [grA g] (AB (lightB g)) := by
  have ln : (rowI g.nodes).length = g.nodes.length := by simp
  have le : (g.edges.map cEd).length = g.edges.length := by simp
  have s1 := gfew_spec g
  have s2 := rvalid_spec g hg
  unfold lightB
  generalize cvalid g = e at *
  cases hf : decide (g.nodes.length ≤ 45 ∧ g.edges.length ≤ 90) with
  | false =>
    rw [hf] at s1
    rw [Bool.false_and]
    refine a_enter Try.func12 (by kernel_rfl) rfl Try.ntmps12 rfl (by simp) ?_; refine a_seq ?_; refine a_reg ?_; (repeat (first | refine gZ pk ?_ | (show AL _ _ _ _ _ _ _; first | refine jB (fun u => ?_)))); refine a_frzBox 0 1 rfl rfl ?_
    repeat (first | refine gA pk ?_ | (show AL _ _ _ _ _ _ _; first | refine jP s1 ?_))
    refine finQ ?_
    exact ⟨rfl, rfl⟩
  | true =>
    rw [hf] at s1
    rw [Bool.true_and]
    by_cases he : e = 0
    · rw [decide_eq_false (fun h => h he), Bool.false_or]
      by_cases h1 : g.nodes.length ≤ 7
      · rw [decide_eq_true h1, Bool.true_and]
        by_cases h2 : g.edges.length ≤ 12
        · rw [decide_eq_true h2]
          refine a_enter Try.func12 (by kernel_rfl) rfl Try.ntmps12 rfl (by simp) ?_; refine a_seq ?_; refine a_reg ?_; (repeat (first | refine gZ pk ?_ | (show AL _ _ _ _ _ _ _; first | refine jB (fun u => ?_)))); refine a_frzBox 0 1 rfl rfl ?_
          repeat (first | refine gA pk ?_ | (show AL _ _ _ _ _ _ _; first | refine jP s1 ?_ | refine jP s2 ?_))
          refine finQ ?_
          exact ⟨rfl, rfl⟩
        · rw [decide_eq_false h2]
          refine a_enter Try.func12 (by kernel_rfl) rfl Try.ntmps12 rfl (by simp) ?_; refine a_seq ?_; refine a_reg ?_; (repeat (first | refine gZ pk ?_ | (show AL _ _ _ _ _ _ _; first | refine jB (fun u => ?_)))); refine a_frzBox 0 1 rfl rfl ?_
          repeat (first | refine gA pk ?_ | (show AL _ _ _ _ _ _ _; first | refine jP s1 ?_ | refine jP s2 ?_))
          refine finQ ?_
          exact ⟨rfl, rfl⟩
      · rw [decide_eq_false h1, Bool.false_and]
        refine a_enter Try.func12 (by kernel_rfl) rfl Try.ntmps12 rfl (by simp) ?_; refine a_seq ?_; refine a_reg ?_; (repeat (first | refine gZ pk ?_ | (show AL _ _ _ _ _ _ _; first | refine jB (fun u => ?_)))); refine a_frzBox 0 1 rfl rfl ?_
        repeat (first | refine gA pk ?_ | (show AL _ _ _ _ _ _ _; first | refine jP s1 ?_ | refine jP s2 ?_))
        refine finQ ?_
        exact ⟨rfl, rfl⟩
    · rw [decide_eq_true he, Bool.true_or]
      refine a_enter Try.func12 (by kernel_rfl) rfl Try.ntmps12 rfl (by simp) ?_; refine a_seq ?_; refine a_reg ?_; (repeat (first | refine gZ pk ?_ | (show AL _ _ _ _ _ _ _; first | refine jB (fun u => ?_)))); refine a_frzBox 0 1 rfl rfl ?_
      repeat (first | refine gA pk ?_ | (show AL _ _ _ _ _ _ _; first | refine jP s1 ?_ | refine jP s2 ?_))
      refine finQ ?_
      exact ⟨rfl, rfl⟩
end Go.Proofs.Ytoaenbfidlgjhaa
