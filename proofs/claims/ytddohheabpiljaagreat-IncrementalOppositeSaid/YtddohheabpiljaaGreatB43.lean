/-
  Parts of the proof of the law IncrementalOpposite (texts W56): steps, plain mathematics, contracts of functions. Each theorem states its own conditions.
-/
import Derived.Test.YtddohheabpiljaaGreatB09
import Derived.Test.YtddohheabpiljaaGreatB40
import Derived.Test.YtddohheabpiljaaGreatB42
section
/-
  Watches: the errors of edits.
-/
namespace Go.Proofs.YtddohheabpiljaaGreat
open Go.Sj Go.Sj.Typ Go.Sj.Sta Go.Sj.Inc
set_option maxRecDepth 8000
set_option linter.unusedVariables false
set_option linter.unusedSimpArgs false
set_option maxHeartbeats 16000000

abbrev cEt (e : Edt) : List AV := [AI e.kind, AI e.idx, AI e.ty, AI e.fr, AI e.to]
theorem edit1_spec (g : Gr) (hg : OkG g) (n : Int) : Pure Tryz.prog 79 [AI n, grP g] (AB (decide (0 ≤ n ∧ n < g.nodes.length))) := by
  have h1 := hg.1
  have ll : (rowI g.nodes).length = g.nodes.length := by simp
  refine a_enter Tryz.func79 (by kernel_rfl) rfl Tryz.ntmps79 rfl (by simp) ?_
  repeat' (first | refine gA pk ?_ | (show AL _ _ _ _ _ _ _; first | (refine s_cmp rfl rfl rfl rfl rfl rfl rfl (fun hb => ?_) (fun hb => ?_) <;> simp only [cmpP] at hb)) | fail)
  all_goals first | ((refine finQ ?_); exact ⟨ABt (by omega), rfl⟩) | ((refine finQ ?_); exact ⟨ABf (by omega), rfl⟩)
theorem edit2_spec (e : Edt) (x : Ed) : Pure Tryz.prog 80 [.agg (cEd x), .ip (cEt e)] (AB (touB e.idx x)) := by
  obtain ⟨k, i, ty, fr, to⟩ := e
  obtain ⟨x1, x2, x3⟩ := x
  unfold touB
  simp only
  rw [show (decide (x2 = i) || decide (x3 = i)) = decide (x2 = i ∨ x3 = i) by simp]
  refine a_enter Tryz.func80 (by kernel_rfl) rfl Tryz.ntmps80 rfl (by simp) ?_; refine a_seq ?_; refine a_reg ?_; (repeat (first | refine gZ pk ?_ | (show AL _ _ _ _ _ _ _; first | refine jB (fun u => ?_)))); refine a_frzBox 0 2 rfl rfl ?_
  repeat' (first | refine gA pk ?_ | (show AL _ _ _ _ _ _ _; first | (refine s_cmp rfl rfl rfl rfl rfl rfl rfl (fun hb => ?_) (fun hb => ?_) <;> simp only [cmpP] at hb)) | fail)
  all_goals first | ((refine finQ ?_); exact ⟨ABt (by omega), rfl⟩) | ((refine finQ ?_); exact ⟨ABf (by omega), rfl⟩)
theorem gin_spec (n m : Int) : Pure Tryz.prog 68 [AI n, AI m] (AB (decide (0 ≤ n ∧ n < m))) := by
  refine a_enter Tryz.func68 (by kernel_rfl) rfl Tryz.ntmps68 rfl (by simp) ?_
  repeat' (first | refine gA pk ?_ | (show AL _ _ _ _ _ _ _; first | (refine s_cmp rfl rfl rfl rfl rfl rfl rfl (fun hb => ?_) (fun hb => ?_) <;> simp only [cmpP] at hb)) | fail)
  all_goals first | ((refine finQ ?_); exact ⟨ABt (by omega), rfl⟩) | ((refine finQ ?_); exact ⟨ABf (by omega), rfl⟩)
theorem iedit_spec (g : Gr) (hg : OkG g) (hel : g.edges.length ≤ 1000000) (e : Edt) (nt et : Int) : Pure Tryz.prog 54 [grA g, .agg (cEt e), AI nt, AI et] (AI (editE g e nt et)) := by
  have h1 := hg.1
  have ll : (rowI g.nodes).length = g.nodes.length := by simp
  have le : (g.edges.map cEd).length = g.edges.length := by simp
  have s1 := fun n => edit1_spec g hg n
  have s2 := ContainsFuncG_spec g.edges (by omega) 80 [.ip (cEt e)] (touB e.idx) (fun x _ => edit2_spec e x)
  obtain ⟨r, hr⟩ : ∃ r, editE g e nt et = r := ⟨_, rfl⟩
  rw [hr]
  unfold editE at hr
  generalize g.edges.any (touB e.idx) = b at *
  obtain ⟨k, i, ty, fr, to⟩ := e
  simp only at hr
  change Pure _ _ [edsA g.edges, .fn (.func 80) [] [.ip [AI k, AI i, AI ty, AI fr, AI to]]] _ at s2
  change Pure _ _ [grA g, .agg [AI k, AI i, AI ty, AI fr, AI to], AI nt, AI et] _
  cases b
  all_goals
    refine a_enter Tryz.func54 (by kernel_rfl) rfl Tryz.ntmps54 rfl (by simp) ?_
    refine a_seq ?_
    refine a_reg ?_
    repeat (first | refine gZ pk ?_ | (show AL _ _ _ _ _ _ _; first | refine jB (fun u => ?_)))
    refine a_frzBox 1 4 rfl rfl ?_
    refine a_frzBox 0 5 rfl rfl ?_
    repeat' (first | refine gA pk ?_ | (show AL _ _ _ _ _ _ _; first | (refine s_callB rfl rfl rfl rfl rfl (s1 _) (SubL.of_eq rfl) (fun hb => ?_) (fun hb => ?_) <;> (first | replace hb := of_decide_eq_true hb | replace hb := of_decide_eq_false hb | skip)) | refine jP s2 ?_ | (refine s_cmp rfl rfl rfl rfl rfl rfl rfl (fun hb => ?_) (fun hb => ?_) <;> simp only [cmpP] at hb)) | fail)
    all_goals
      refine finQ ?_
      refine ⟨?_, rfl⟩
      subst hr
      repeat' (first | rw [if_pos (by omega)] | rw [if_neg (by omega)] | rw [if_pos rfl] | rw [if_neg (by decide)])
theorem touB_any {g : Gr} {i : Int} : g.edges.any (touB i) = true ↔ ∃ (j : Nat) (x : Ed), g.edges[j]? = some x ∧ (x.fr = i ∨ x.to = i) := by
  rw [List.any_eq_true]
  constructor
  · rintro ⟨x, hx, h⟩
    obtain ⟨j, hj⟩ := List.getElem?_of_mem hx
    exact ⟨j, x, hj, by simpa [touB] using h⟩
  · rintro ⟨j, x, hj, h⟩
    exact ⟨x, List.mem_of_getElem? hj, by simpa [touB] using h⟩
theorem gedit_spec (g : Gr) (hg : OkG g) (hel : g.edges.length ≤ 1000000) (e : Edt) (nt et : Int) : Pure Tryz.prog 45 [grA g, .agg (cEt e), AI nt, AI et] (AI (editE g e nt et)) := by
  have h1 := hg.1
  have ll : (rowI g.nodes).length = g.nodes.length := by simp
  have le : (g.edges.map cEd).length = g.edges.length := by simp
  have s1 := gin_spec
  obtain ⟨r, hr⟩ : ∃ r, editE g e nt et = r := ⟨_, rfl⟩
  rw [hr]
  unfold editE at hr
  obtain ⟨k, i, ty, fr, to⟩ := e
  simp only at hr
  change Pure _ _ [grA g, .agg [AI k, AI i, AI ty, AI fr, AI to], AI nt, AI et] _
  by_cases h3 : k = 3
  · subst h3
    rw [if_neg (by decide), if_neg (by decide), if_pos rfl] at hr
    by_cases hi : 0 ≤ i ∧ i < g.nodes.length
    · rw [if_pos hi] at hr
      have s2 := s1 i (rowI g.nodes).length
      rw [decide_eq_true (by omega)] at s2
      refine a_enter Tryz.func45 (by kernel_rfl) rfl Tryz.ntmps45 rfl (by simp) ?_
      refine a_seq ?_
      refine a_reg ?_
      repeat (first | refine gZ pk ?_ | (show AL _ _ _ _ _ _ _; first | refine jB (fun u => ?_)))
      refine a_frzBox 1 4 rfl rfl ?_
      refine a_frzBox 0 5 rfl rfl ?_
      repeat (first | refine gA pk ?_ | (show AL _ _ _ _ _ _ _; first | refine jP s2 ?_))
      refine a_loopX (fun j : Nat => [(4, grP g), (5, .ip [AI 3, AI i, AI ty, AI fr, AI to]), (9, AI j)]) (fun _ => []) (fun j => j ≤ g.edges.length ∧ ∀ (q : Nat) (x : Ed), q < j → g.edges[q]? = some x → x.fr ≠ i ∧ x.to ≠ i) (fun j => g.edges.length - j) 0 ⟨Nat.zero_le _, fun q x hq => (by omega)⟩ ?_ (OSub.none _) ?_
      · exact subQ
      · rintro j ⟨hj, hno⟩
        rcases Nat.lt_or_ge j g.edges.length with h | h
        · have hx := List.getElem?_eq_getElem h
          generalize g.edges[j] = x at hx
          obtain ⟨x1, x2, x3⟩ := x
          have xk : (g.edges.map cEd)[(j : Int).toNat]? = some [AI x1, AI x2, AI x3] := map_get (f := cEd) hx
          by_cases e1 : x2 = i
          · rw [if_pos (touB_any.2 ⟨j, _, hx, .inl e1⟩)] at hr
            subst hr
            repeat (first | (show AWp _ _ _ _ _ _; first | refine a_regR mixed (by decide +kernel) ?_) | refine gN pk ?_ | (show AL _ _ _ _ _ _ _; first | refine jX tok xk ?_))
            refine finQ ?_
            exact ⟨rfl, rfl⟩
          · by_cases e2 : x3 = i
            · rw [if_pos (touB_any.2 ⟨j, _, hx, .inr e2⟩)] at hr
              subst hr
              repeat (first | (show AWp _ _ _ _ _ _; first | refine a_regR mixed (by decide +kernel) ?_) | refine gN pk ?_ | (show AL _ _ _ _ _ _ _; first | refine jX tok xk ?_))
              refine finQ ?_
              exact ⟨rfl, rfl⟩
            · repeat (first | (show AWp _ _ _ _ _ _; first | refine a_regR mixed (by decide +kernel) ?_) | refine gN pk ?_ | (show AL _ _ _ _ _ _ _; first | refine jX tok xk ?_))
              exact ⟨j + 1, ⟨by omega, fun q y hq hy => by
                rcases Nat.lt_or_ge q j with h5 | h5
                · exact hno q y h5 hy
                · obtain rfl : q = j := by omega
                  rw [hx] at hy
                  cases hy
                  exact ⟨e1, e2⟩⟩, by omega, by exact subQ, OSub.none _⟩
        · obtain rfl : j = g.edges.length := by omega
          rw [if_neg (fun ht => by
            obtain ⟨q, x, hx, h5⟩ := touB_any.1 ht
            have h6 := hno q x (List.getElem?_eq_some_iff.1 hx).1 hx
            rcases h5 with h5 | h5
            · exact h6.1 h5
            · exact h6.2 h5)] at hr
          subst hr
          repeat (first | refine gA pk ?_)
          refine finQ ?_
          exact ⟨rfl, rfl⟩
    · rw [if_neg hi] at hr
      subst hr
      have s2 := s1 i (rowI g.nodes).length
      rw [decide_eq_false (by omega)] at s2
      refine a_enter Tryz.func45 (by kernel_rfl) rfl Tryz.ntmps45 rfl (by simp) ?_
      refine a_seq ?_
      refine a_reg ?_
      repeat (first | refine gZ pk ?_ | (show AL _ _ _ _ _ _ _; first | refine jB (fun u => ?_)))
      refine a_frzBox 1 4 rfl rfl ?_
      refine a_frzBox 0 5 rfl rfl ?_
      repeat (first | refine gA pk ?_ | (show AL _ _ _ _ _ _ _; first | refine jP s2 ?_))
      refine finQ ?_
      exact ⟨rfl, rfl⟩
  · generalize g.edges.any (touB i) = b at hr
    rw [if_neg h3] at hr
    refine a_enter Tryz.func45 (by kernel_rfl) rfl Tryz.ntmps45 rfl (by simp) ?_
    refine a_seq ?_
    refine a_reg ?_
    repeat (first | refine gZ pk ?_ | (show AL _ _ _ _ _ _ _; first | refine jB (fun u => ?_)))
    refine a_frzBox 1 4 rfl rfl ?_
    refine a_frzBox 0 5 rfl rfl ?_
    repeat' (first | refine gA pk ?_ | (show AL _ _ _ _ _ _ _; first | (refine s_callB rfl rfl rfl rfl rfl (s1 _ _) (SubL.of_eq rfl) (fun hb => ?_) (fun hb => ?_) <;> (first | replace hb := of_decide_eq_true hb | replace hb := of_decide_eq_false hb | skip)) | (refine s_cmp rfl rfl rfl rfl rfl rfl rfl (fun hb => ?_) (fun hb => ?_) <;> simp only [cmpP] at hb)) | fail)
    all_goals first | (exfalso; omega) | skip
    all_goals
      refine finQ ?_
      refine ⟨?_, rfl⟩
      subst hr
      repeat' (first | rw [if_pos (by omega)] | rw [if_neg (by omega)] | rw [if_pos rfl] | rw [if_neg (by decide)])
end Go.Proofs.YtddohheabpiljaaGreat

end
