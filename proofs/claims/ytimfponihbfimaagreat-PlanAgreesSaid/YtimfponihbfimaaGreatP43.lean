/- Parts of a proof. -/
import Derived.Test.YtimfponihbfimaaGreatP23
set_option linter.unusedVariables false
set_option linter.unusedSimpArgs false
section
namespace Go.Proofs.YtimfponihbfimaaGreat
open Go.Sj Go.Sj.Typ Go.Sj.Sta
set_option maxRecDepth 8000
set_option maxHeartbeats 16000000
theorem vN_at {n : Nat} {l : List Cnt} {k : Nat} {c : Cnt} (h : l[k]? = some c) : vN n l k = vN1 n l k c := by simp only [vN, h]
theorem vE_at {t : Tys} {s : Sta} {k : Nat} {c : Cnt} (h : s.edges[k]? = some c) : vE t s k = vE1 t s k c := by simp only [vE, h]
theorem vN_ok {n : Nat} {l : List Cnt} {k : Nat} {c : Cnt} (h : l[k]? = some c) (h0 : vN n l k = 0) : nodeOk n c := by
  rw [vN_at h] at h0
  unfold vN1 at h0
  by_cases hk : nodeOk n c
  · exact hk
  · rw [if_pos hk] at h0; cases h0
theorem vE_ok {t : Tys} {s : Sta} {k : Nat} {c : Cnt} (h : s.edges[k]? = some c) (h0 : vE t s k = 0) : edgeOk t.nodes.length t.edges.length c := by
  rw [vE_at h] at h0
  unfold vE1 at h0
  by_cases hk : edgeOk t.nodes.length t.edges.length c
  · exact hk
  · rw [if_pos hk] at h0; cases h0
theorem prev_zero (l : List Cnt) (c : Cnt) : prevB l 0 c = false := rfl
theorem prev_at {l : List Cnt} {k : Nat} {c d : Cnt} (h0 : 0 < k) (h : l[k - 1]? = some d) : prevB l k c = !decide (klt d c) := by
  unfold prevB; rw [h, decide_eq_true h0]; rfl
theorem nodeOk_sm {n : Nat} {c : Cnt} (hn : n ≤ 1000) (h : nodeOk n c) : smC c := by unfold nodeOk at h; unfold smC; omega
theorem edgeOk_sm {n m : Nat} {c : Cnt} (hn : n ≤ 1000) (hm : m ≤ 1000) (h : edgeOk n m c) : smC c := by unfold edgeOk at h; unfold smC; omega
theorem lt_snoc {f : Nat → Int} {k : Nat} (h : ∀ j, j < k → f j = 0) (hk : f k = 0) : ∀ j, j < k + 1 → f j = 0 := fun j hj => by
  rcases Nat.lt_or_ge j k with hj' | hj'
  · exact h j hj'
  · obtain rfl : j = k := by omega
    exact hk
theorem sumP_bd {p : Cnt → Bool} {l : List Cnt} (h : ∀ c ∈ l, 0 ≤ c.nu ∧ c.nu ≤ 100) : 0 ≤ sumP p l ∧ sumP p l ≤ 100 * l.length := by
  induction l with
  | nil => exact ⟨Int.le_refl 0, Int.le_refl 0⟩
  | cons c l ih =>
    have h1 := ih (fun d hd => h d (by simp [hd]))
    have h2 := h c (by simp)
    rw [sumP, List.length_cons]
    split <;> omega
theorem sumP_take {p : Cnt → Bool} {l : List Cnt} {k : Nat} {c : Cnt} (hc : l[k]? = some c) : sumP p (l.take (k + 1)) = sumP p (l.take k) + if p c = true then c.nu else 0 := by
  obtain ⟨hk, rfl⟩ := List.getElem?_eq_some_iff.1 hc
  rw [List.take_succ_eq_append_getElem hk, sumP_append]
  simp [sumP]
end Go.Proofs.YtimfponihbfimaaGreat
end
section
namespace Go.Proofs.YtimfponihbfimaaGreat
open Go.Sj Go.Sj.Typ Go.Sj.Sta
set_option maxRecDepth 8000
set_option maxHeartbeats 16000000
theorem sValid_spec (t : Tys) (ht : Small t) (s : Sta) (hs : s.nodes.length ≤ 1000 ∧ s.edges.length ≤ 1000) : Pure Tryz.prog 103 [tysA t, staA s] (AI (sValid t s)) := by
  have ln : (s.nodes.map cCnt).length = s.nodes.length := by simp
  have le : (s.edges.map cCnt).length = s.edges.length := by simp
  have lt : (t.nodes.map cNod).length = t.nodes.length := by simp
  have lte : (t.edges.map cEdg).length = t.edges.length := by simp
  have htn := ht.nodes
  have hte := ht.edges
  have hs1 := hs.1
  have hs2 := hs.2
  have s1 := Valid_spec t ht
  obtain ⟨r, hr⟩ : ∃ r, sValid t s = r := ⟨_, rfl⟩
  rw [hr]
  unfold sValid at hr
  by_cases hv : (validR t).2 = 0
  · rw [if_neg (Decidable.not_not.2 hv)] at hr
    generalize (validR t).1 = nm at s1
    rw [hv] at s1
    refine zen Tryz.func103 (by kernel_rfl) rfl Tryz.ntmps103 rfl (by simp) ?_
    refine a_seq ?_
    refine a_reg ?_
    repeat (first | refine gZ pk ?_ | (show AL _ _ _ _ _ _ _; first | refine jB (fun u => ?_)))
    refine zfb 0 3 rfl rfl ?_
    refine zfb 0 2 rfl rfl ?_
    repeat (first | refine gA pk ?_ | (show AL _ _ _ _ _ _ _; first | refine jP s1 ?_))
    rw [ln]
    refine zlx (fun k : Nat => [(2, tysP t), (3, staP s), (20, cntsA s.nodes), (21, AI s.nodes.length), (22, AI k)]) (fun _ => []) (fun k => k ≤ s.nodes.length ∧ ∀ j, j < k → vN t.nodes.length s.nodes j = 0) (fun k => s.nodes.length - k) 0 ⟨Nat.zero_le _, fun j hj => (by omega)⟩ ?_ (OSub.none _) ?_
    · exact subQ
    · rintro k ⟨hk, hno⟩
      rcases Nat.lt_or_ge k s.nodes.length with h | h
      · have hx := List.getElem?_eq_getElem h
        have hE := vN_at (n := t.nodes.length) hx
        generalize s.nodes[k] = y at hx hE
        obtain ⟨c1, c2, c3, c4⟩ := y
        have xk : (s.nodes.map cCnt)[(k : Int).toNat]? = some [AI c1, AI c2, AI c3, AI c4] := zmp (f := cCnt) hx
        have s3 := is_spec' c1 t.nodes.length
        rw [← lt] at s3
        unfold vN1 at hE
        by_cases hok : nodeOk t.nodes.length ⟨c1, c2, c3, c4⟩
        · rw [if_neg (Decidable.not_not.2 hok)] at hE
          have hcs := nodeOk_sm (by omega) hok
          unfold nodeOk at hok
          simp only at hok
          rw [decide_eq_true (by rw [lt]; exact hok.1)] at s3
          rcases Nat.eq_zero_or_pos k with h0 | h0
          · subst h0
            rw [prev_zero, if_neg (by decide)] at hE
            repeat (first | refine gN pk ?_ | (show AL _ _ _ _ _ _ _; first | refine jX tok xk ?_ | refine jL tok (fun u => ?_) | refine jS tok 0 ?_ | refine jO tok 0 ?_ | refine jP s3 ?_))
            refine zfb 0 8 rfl rfl ?_
            repeat (first | refine gA pk ?_)
            exact ⟨0 + 1, ⟨by omega, lt_snoc hno hE⟩, by omega, by exact subQ, OSub.none _⟩
          · have hd := List.getElem?_eq_getElem (l := s.nodes) (i := k - 1) (by omega)
            have hdo := nodeOk_sm (n := t.nodes.length) (by omega) (vN_ok hd (hno (k - 1) (by omega)))
            have s7 := compare_spec _ ⟨c1, c2, c3, c4⟩ hdo hcs
            have hz := cmp3_lt (s.nodes[k - 1]'(by omega)) ⟨c1, c2, c3, c4⟩
            rw [prev_at h0 hd] at hE
            generalize s.nodes[k - 1] = d at *
            have xd : (s.nodes.map cCnt)[((k : Int) - 1).toNat]? = some (cCnt d) := by rw [show ((k : Int) - 1).toNat = k - 1 by omega]; exact zmp hd
            generalize cmp3 d ⟨c1, c2, c3, c4⟩ = z at *
            by_cases hq : klt d ⟨c1, c2, c3, c4⟩
            · have hz1 := hz.2 hq
              rw [decide_eq_true hq, if_neg (by decide)] at hE
              repeat (first | refine gN pk ?_ | (show AL _ _ _ _ _ _ _; first | refine jX tok xk ?_ | refine jL tok (fun u => ?_) | refine jS tok 0 ?_ | refine jO tok 0 ?_ | refine jP s3 ?_))
              refine zfb 0 8 rfl rfl ?_
              repeat (first | refine gA pk ?_ | (show AL _ _ _ _ _ _ _; first | refine jX tok xd ?_ | refine jP s7 ?_))
              exact ⟨k + 1, ⟨by omega, lt_snoc hno hE⟩, by omega, by exact subQ, OSub.none _⟩
            · have hz1 : ¬ z < 0 := fun q => hq (hz.1 q)
              rw [decide_eq_false hq, if_pos (by decide)] at hE
              rw [if_pos (by rw [firstN_at hno h (by rw [hE]; decide), hE]; decide), firstN_at hno h (by rw [hE]; decide), hE] at hr
              subst hr
              repeat (first | refine gN pk ?_ | (show AL _ _ _ _ _ _ _; first | refine jX tok xk ?_ | refine jL tok (fun u => ?_) | refine jS tok 0 ?_ | refine jO tok 0 ?_ | refine jP s3 ?_))
              refine zfb 0 8 rfl rfl ?_
              repeat (first | refine gA pk ?_ | (show AL _ _ _ _ _ _ _; first | refine jX tok xd ?_ | refine jP s7 ?_))
              refine finQ ?_
              exact ⟨rfl, rfl⟩
        · rw [if_pos hok] at hE
          rw [if_pos (by rw [firstN_at hno h (by rw [hE]; decide), hE]; decide), firstN_at hno h (by rw [hE]; decide), hE] at hr
          subst hr
          unfold nodeOk at hok
          simp only at hok
          have hcs : (¬ (0 ≤ c1 ∧ c1 < t.nodes.length)) ∨ ((0 ≤ c1 ∧ c1 < t.nodes.length) ∧ c2 ≠ 0) ∨ ((0 ≤ c1 ∧ c1 < t.nodes.length) ∧ c2 = 0 ∧ c3 ≠ 0) ∨ ((0 ≤ c1 ∧ c1 < t.nodes.length) ∧ c2 = 0 ∧ c3 = 0 ∧ c4 < 1) ∨ ((0 ≤ c1 ∧ c1 < t.nodes.length) ∧ c2 = 0 ∧ c3 = 0 ∧ ¬ c4 < 1 ∧ 40 < c4) := by omega
          rcases hcs with h5 | h5 | h5 | h5 | h5
          all_goals
            first | rw [decide_eq_false (by rw [lt]; exact h5)] at s3 | rw [decide_eq_true (by rw [lt]; exact h5.1)] at s3
            repeat (first | refine gA pk ?_ | (show AL _ _ _ _ _ _ _; first | refine jX tok xk ?_ | refine jL tok (fun u => ?_) | refine jS tok 0 ?_ | refine jO tok 0 ?_ | refine jP s3 ?_))
            refine finQ ?_
            exact ⟨rfl, rfl⟩
      · obtain rfl : k = s.nodes.length := by omega
        have hf := firstN_none hno
        have hSN := vN_zero.1 hf
        rw [hf, if_neg (by decide)] at hr
        have s2 := total_spec s.nodes (by omega) (fun c hc => by have := hSN.ok c hc; unfold nodeOk at this; omega)
        by_cases ht1 : 40 < tot s.nodes
        · rw [if_pos ht1] at hr
          subst hr
          generalize tot s.nodes = tt at *
          repeat (first | refine gA pk ?_ | (show AL _ _ _ _ _ _ _; first | refine jP s2 ?_))
          refine finQ ?_
          exact ⟨rfl, rfl⟩
        · rw [if_neg ht1] at hr
          generalize tot s.nodes = tt at *
          repeat (first | refine gA pk ?_ | (show AL _ _ _ _ _ _ _; first | refine jP s2 ?_))
          rw [le]
          refine zlx (fun k : Nat => [(2, tysP t), (3, staP s), (73, cntsA s.edges), (74, AI s.edges.length), (75, AI k)]) (fun _ => []) (fun k => k ≤ s.edges.length ∧ ∀ j, j < k → vE t s j = 0) (fun k => s.edges.length - k) 0 ⟨Nat.zero_le _, fun j hj => (by omega)⟩ ?_ (OSub.none _) ?_
          · exact subQ
          · rintro k ⟨hk, hno⟩
            rcases Nat.lt_or_ge k s.edges.length with h | h
            · have hx := List.getElem?_eq_getElem h
              have hE := vE_at (t := t) hx
              generalize s.edges[k] = y at hx hE
              obtain ⟨c1, c2, c3, c4⟩ := y
              have xk : (s.edges.map cCnt)[(k : Int).toNat]? = some [AI c1, AI c2, AI c3, AI c4] := zmp (f := cCnt) hx
              have s3 := is_spec' c1 t.edges.length
              have s4 := is_spec' c2 t.nodes.length
              have s5 := is_spec' c3 t.nodes.length
              have s6 := Fits_spec t ht c1 c2 c3
              rw [← lte] at s3
              rw [← lt] at s4 s5
              unfold vE1 at hE
              simp only at hE
              by_cases hok : edgeOk t.nodes.length t.edges.length ⟨c1, c2, c3, c4⟩
              · rw [if_neg (Decidable.not_not.2 hok)] at hE
                have hcs := edgeOk_sm (by omega) (by omega) hok
                unfold edgeOk at hok
                simp only at hok
                rw [decide_eq_true (by rw [lte]; exact hok.1)] at s3
                rw [decide_eq_true (by rw [lt]; exact hok.2.1)] at s4
                rw [decide_eq_true (by rw [lt]; exact hok.2.2.1)] at s5
                cases hfit : fitsR t c1 c2 c3 with
                | false =>
                  rw [hfit, if_pos rfl] at hE
                  rw [hfit] at s6
                  rw [if_pos (by rw [firstN_at hno h (by rw [hE]; decide), hE]; decide), firstN_at hno h (by rw [hE]; decide), hE] at hr
                  subst hr
                  repeat (first | refine gA pk ?_ | (show AL _ _ _ _ _ _ _; first | refine jX tok xk ?_ | refine jL tok (fun u => ?_) | refine jS tok 0 ?_ | refine jO tok 0 ?_ | refine jP s3 ?_ | refine jP s4 ?_ | refine jP s5 ?_ | refine jP s6 ?_))
                  refine finQ ?_
                  exact ⟨rfl, rfl⟩
                | true =>
                rw [hfit, if_neg (by decide)] at hE
                rw [hfit] at s6
                have s8 := has_spec s c2 (by omega)
                have s9 := has_spec s c3 (by omega)
                generalize hasB s.nodes c2 = z1 at *
                generalize hasB s.nodes c3 = z2 at *
                by_cases g1 : z1 = false ∨ z2 = false
                · rw [if_pos g1] at hE
                  rw [if_pos (by rw [firstN_at hno h (by rw [hE]; decide), hE]; decide), firstN_at hno h (by rw [hE]; decide), hE] at hr
                  subst hr
                  have g2 : z1 = false ∨ (z1 = true ∧ z2 = false) := by cases z1 <;> simp_all
                  rcases g2 with rfl | ⟨rfl, rfl⟩
                  all_goals
                    repeat (first | refine gA pk ?_ | (show AL _ _ _ _ _ _ _; first | refine jX tok xk ?_ | refine jL tok (fun u => ?_) | refine jS tok 0 ?_ | refine jO tok 0 ?_ | refine jP s3 ?_ | refine jP s4 ?_ | refine jP s5 ?_ | refine jP s6 ?_ | refine jP s8 ?_ | refine jP s9 ?_))
                    refine finQ ?_
                    exact ⟨rfl, rfl⟩
                · rw [if_neg g1] at hE
                  have g2 : z1 = true := by cases z1 <;> simp_all
                  have g3 : z2 = true := by cases z2 <;> simp_all
                  subst g2
                  subst g3
                  rcases Nat.eq_zero_or_pos k with h0 | h0
                  · subst h0
                    rw [prev_zero, if_neg (by decide)] at hE
                    repeat (first | refine gN pk ?_ | (show AL _ _ _ _ _ _ _; first | refine jX tok xk ?_ | refine jL tok (fun u => ?_) | refine jS tok 0 ?_ | refine jO tok 0 ?_ | refine jP s3 ?_ | refine jP s4 ?_ | refine jP s5 ?_ | refine jP s6 ?_ | refine jP s8 ?_ | refine jP s9 ?_))
                    refine zfb 0 10 rfl rfl ?_
                    repeat (first | refine gA pk ?_)
                    exact ⟨0 + 1, ⟨by omega, lt_snoc hno hE⟩, by omega, by exact subQ, OSub.none _⟩
                  · have hd := List.getElem?_eq_getElem (l := s.edges) (i := k - 1) (by omega)
                    have hdo := edgeOk_sm (n := t.nodes.length) (m := t.edges.length) (by omega) (by omega) (vE_ok hd (hno (k - 1) (by omega)))
                    have s7 := compare_spec _ ⟨c1, c2, c3, c4⟩ hdo hcs
                    have hz := cmp3_lt (s.edges[k - 1]'(by omega)) ⟨c1, c2, c3, c4⟩
                    rw [prev_at h0 hd] at hE
                    generalize s.edges[k - 1] = d at *
                    have xd : (s.edges.map cCnt)[((k : Int) - 1).toNat]? = some (cCnt d) := by rw [show ((k : Int) - 1).toNat = k - 1 by omega]; exact zmp hd
                    generalize cmp3 d ⟨c1, c2, c3, c4⟩ = z at *
                    by_cases hq : klt d ⟨c1, c2, c3, c4⟩
                    · have hz1 := hz.2 hq
                      rw [decide_eq_true hq, if_neg (by decide)] at hE
                      repeat (first | refine gN pk ?_ | (show AL _ _ _ _ _ _ _; first | refine jX tok xk ?_ | refine jL tok (fun u => ?_) | refine jS tok 0 ?_ | refine jO tok 0 ?_ | refine jP s3 ?_ | refine jP s4 ?_ | refine jP s5 ?_ | refine jP s6 ?_ | refine jP s8 ?_ | refine jP s9 ?_))
                      refine zfb 0 10 rfl rfl ?_
                      repeat (first | refine gA pk ?_ | (show AL _ _ _ _ _ _ _; first | refine jX tok xd ?_ | refine jP s7 ?_))
                      exact ⟨k + 1, ⟨by omega, lt_snoc hno hE⟩, by omega, by exact subQ, OSub.none _⟩
                    · have hz1 : ¬ z < 0 := fun q => hq (hz.1 q)
                      rw [decide_eq_false hq, if_pos (by decide)] at hE
                      rw [if_pos (by rw [firstN_at hno h (by rw [hE]; decide), hE]; decide), firstN_at hno h (by rw [hE]; decide), hE] at hr
                      subst hr
                      repeat (first | refine gN pk ?_ | (show AL _ _ _ _ _ _ _; first | refine jX tok xk ?_ | refine jL tok (fun u => ?_) | refine jS tok 0 ?_ | refine jO tok 0 ?_ | refine jP s3 ?_ | refine jP s4 ?_ | refine jP s5 ?_ | refine jP s6 ?_ | refine jP s8 ?_ | refine jP s9 ?_))
                      refine zfb 0 10 rfl rfl ?_
                      repeat (first | refine gA pk ?_ | (show AL _ _ _ _ _ _ _; first | refine jX tok xd ?_ | refine jP s7 ?_))
                      refine finQ ?_
                      exact ⟨rfl, rfl⟩
              · rw [if_pos hok] at hE
                rw [if_pos (by rw [firstN_at hno h (by rw [hE]; decide), hE]; decide), firstN_at hno h (by rw [hE]; decide), hE] at hr
                subst hr
                unfold edgeOk at hok
                simp only at hok
                have hcs : (¬ (0 ≤ c1 ∧ c1 < t.edges.length)) ∨ ((0 ≤ c1 ∧ c1 < t.edges.length) ∧ ¬ (0 ≤ c2 ∧ c2 < t.nodes.length)) ∨ ((0 ≤ c1 ∧ c1 < t.edges.length) ∧ (0 ≤ c2 ∧ c2 < t.nodes.length) ∧ ¬ (0 ≤ c3 ∧ c3 < t.nodes.length)) ∨
                  ((0 ≤ c1 ∧ c1 < t.edges.length) ∧ (0 ≤ c2 ∧ c2 < t.nodes.length) ∧ (0 ≤ c3 ∧ c3 < t.nodes.length) ∧ c4 < 1) ∨ ((0 ≤ c1 ∧ c1 < t.edges.length) ∧ (0 ≤ c2 ∧ c2 < t.nodes.length) ∧ (0 ≤ c3 ∧ c3 < t.nodes.length) ∧ ¬ c4 < 1 ∧ 80 < c4) := by omega
                rcases hcs with h5 | h5 | h5 | h5 | h5
                all_goals
                  first | rw [decide_eq_false (by rw [lte]; exact h5)] at s3 | rw [decide_eq_true (by rw [lte]; exact h5.1)] at s3
                  first | rw [decide_eq_false (by rw [lt]; exact h5.2)] at s4 | rw [decide_eq_true (by rw [lt]; exact h5.2.1)] at s4 | skip
                  first | rw [decide_eq_false (by rw [lt]; exact h5.2.2)] at s5 | rw [decide_eq_true (by rw [lt]; exact h5.2.2.1)] at s5 | skip
                  repeat (first | refine gA pk ?_ | (show AL _ _ _ _ _ _ _; first | refine jX tok xk ?_ | refine jL tok (fun u => ?_) | refine jS tok 0 ?_ | refine jO tok 0 ?_ | refine jP s3 ?_ | refine jP s4 ?_ | refine jP s5 ?_))
                  refine finQ ?_
                  exact ⟨rfl, rfl⟩
            · obtain rfl : k = s.edges.length := by omega
              have hf := firstN_none hno
              have hSE := vE_zero.1 hf
              rw [hf, if_neg (by decide)] at hr
              have s2 := total_spec s.edges (by omega) (fun c hc => by have := hSE.ok c hc; unfold edgeOk at this; omega)
              by_cases ht2 : 80 < tot s.edges
              · rw [if_pos ht2] at hr
                subst hr
                generalize tot s.edges = tt at *
                repeat (first | refine gA pk ?_ | (show AL _ _ _ _ _ _ _; first | refine jP s2 ?_))
                refine finQ ?_
                exact ⟨rfl, rfl⟩
              · rw [if_neg ht2] at hr
                subst hr
                generalize tot s.edges = tt at *
                repeat (first | refine gA pk ?_ | (show AL _ _ _ _ _ _ _; first | refine jP s2 ?_))
                refine finQ ?_
                exact ⟨rfl, rfl⟩
  · rw [if_pos hv] at hr
    generalize (validR t).1 = nm at s1
    rw [hr] at s1 hv
    refine zen Tryz.func103 (by kernel_rfl) rfl Tryz.ntmps103 rfl (by simp) ?_
    refine a_seq ?_
    refine a_reg ?_
    repeat (first | refine gZ pk ?_ | (show AL _ _ _ _ _ _ _; first | refine jB (fun u => ?_)))
    refine zfb 0 3 rfl rfl ?_
    refine zfb 0 2 rfl rfl ?_
    repeat (first | refine gA pk ?_ | (show AL _ _ _ _ _ _ _; first | refine jP s1 ?_))
    refine finQ ?_
    exact ⟨rfl, rfl⟩
end Go.Proofs.YtimfponihbfimaaGreat
end
