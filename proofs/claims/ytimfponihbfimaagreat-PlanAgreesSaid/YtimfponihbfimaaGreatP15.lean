/- Parts of a proof. -/
import Derived.Test.YtimfponihbfimaaGreatP14
set_option linter.unusedVariables false
set_option linter.unusedSimpArgs false
section
namespace Go.Proofs.YtimfponihbfimaaGreat
open Go.Sj Go.Sj.Typ Go.Sj.Sta
set_option maxRecDepth 8000
set_option maxHeartbeats 4000000
theorem has1_spec (c : Cnt) (k : Int) : Pure Tryz.prog 180 [.agg (cCnt c), .ip [AI k]] (AB (decide (c.ty = k))) := by
  obtain ⟨c1, c2, c3, c4⟩ := c
  show Pure Tryz.prog 180 [.agg [AI c1, AI c2, AI c3, AI c4], .ip [AI k]] (AB (decide (c1 = k)))
  refine zen Tryz.func180 (by kernel_rfl) rfl Tryz.ntmps180 rfl (by simp) ?_; refine a_seq ?_; refine a_reg ?_; (repeat (first | refine gZ pk ?_ | (show AL _ _ _ _ _ _ _; first | refine jB (fun u => ?_)))); refine zfb 0 2 rfl rfl ?_
  repeat' (first | refine gA pk ?_ | (show AL _ _ _ _ _ _ _; first | (refine s_cmp rfl rfl rfl rfl rfl rfl rfl (fun hb => ?_) (fun hb => ?_) <;> simp only [cmpP] at hb)) | fail)
  all_goals first | ((refine finQ ?_); exact ⟨ABt (by omega), rfl⟩) | ((refine finQ ?_); exact ⟨ABf (by omega), rfl⟩)
theorem has_spec (s : Sta) (k : Int) (hl : s.nodes.length ≤ 1000) : Pure Tryz.prog 152 [staA s, AI k] (AB (hasB s.nodes k)) := by
  have s1 := ContainsFuncC_spec s.nodes (by omega) 180 [.ip [AI k]] (fun c => decide (c.ty = k)) (fun c _ => has1_spec c k)
  unfold hasB
  generalize s.nodes.any (fun c => decide (c.ty = k)) = b at *
  refine zen Tryz.func152 (by kernel_rfl) rfl Tryz.ntmps152 rfl (by simp) ?_
  refine a_seq ?_
  refine a_reg ?_
  repeat (first | refine gZ pk ?_ | (show AL _ _ _ _ _ _ _; first | refine jB (fun u => ?_)))
  refine zfb 0 3 rfl rfl ?_
  refine zfb 0 2 rfl rfl ?_
  repeat (first | refine gA pk ?_ | (show AL _ _ _ _ _ _ _; first | refine jP s1 ?_))
  refine finQ ?_
  exact ⟨rfl, rfl⟩
end Go.Proofs.YtimfponihbfimaaGreat
end
section
namespace Go.Proofs.YtimfponihbfimaaGreat
open Go.Sj Go.Sj.Typ Go.Sj.Sta
set_option maxRecDepth 8000
set_option maxHeartbeats 4000000
theorem refnumber_spec (l : List Cnt) (hl : l.length ≤ 1000) (hm : ∀ c ∈ l, smC c) (x : Cnt) (hx : smC x) : Pure Tryz.prog 155 [cntsA l, .agg (cCnt x)] (AI (numK l x)) := by
  have ll : (l.map cCnt).length = l.length := by simp
  refine zen Tryz.func155 (by kernel_rfl) rfl Tryz.ntmps155 rfl (by simp) ?_; refine a_seq ?_; refine a_reg ?_; (repeat (first | refine gZ pk ?_ | (show AL _ _ _ _ _ _ _; first | refine jB (fun u => ?_)))); refine zfb 0 3 rfl rfl ?_
  repeat (first | refine gA pk ?_)
  refine zlx (fun k : Nat => [(0, cntsA l), (3, .ip (cCnt x)), (5, AI k)]) (fun _ => []) (fun k => k ≤ l.length ∧ ∀ c ∈ l.take k, decide (keq c x) = false) (fun k => l.length - k) 0 ⟨Nat.zero_le _, by simp⟩ ?_ (OSub.refl _) ?_
  · exact subQ
  · rintro k ⟨hk, hno⟩
    rcases Nat.lt_or_ge k l.length with h | h
    · have hy := List.getElem?_eq_getElem h
      have s1 := refcompare_spec _ x (hm _ (List.getElem_mem h)) hx
      have hz := cmp3_eq l[k] x
      generalize l[k] = c at *
      generalize cmp3 c x = z at *
      by_cases hq : keq c x
      · have hz1 := hz.2 hq
        have hf := find_atP (p := fun c => decide (keq c x)) hno hy (decide_eq_true hq)
        unfold numK
        rw [hf]
        obtain ⟨c1, c2, c3, c4⟩ := c
        have xk : (l.map cCnt)[(k : Int).toNat]? = some [AI c1, AI c2, AI c3, AI c4] := zmp (f := cCnt) hy
        repeat (first | refine gA pk ?_ | (show AL _ _ _ _ _ _ _; first | refine jX tok xk ?_ | refine jP s1 ?_))
        refine finQ ?_
        exact ⟨rfl, rfl⟩
      · have hz1 : ¬ z = 0 := fun e => hq (hz.1 e)
        have hn := none_takeP (p := fun c => decide (keq c x)) hno hy (decide_eq_false hq)
        have xk : (l.map cCnt)[(k : Int).toNat]? = some (cCnt c) := zmp hy
        repeat (first | refine gA pk ?_ | (show AL _ _ _ _ _ _ _; first | refine jX tok xk ?_ | refine jP s1 ?_))
        exact ⟨k + 1, ⟨by omega, hn⟩, by omega, by exact subQ, OSub.none _⟩
    · obtain rfl : k = l.length := by omega
      rw [List.take_length] at hno
      unfold numK
      rw [List.find?_eq_none.2 (fun c hc => by simpa using hno c hc)]
      repeat (first | refine gA pk ?_)
      refine finQ ?_
      exact ⟨rfl, rfl⟩
end Go.Proofs.YtimfponihbfimaaGreat
end
section
namespace Go.Proofs.YtimfponihbfimaaGreat
open Go.Sj Go.Sj.Typ Go.Sj.Sta
set_option maxRecDepth 8000
set_option maxHeartbeats 8000000
def chOut (l : List Cnt) (x : Cnt) (k : Nat) (b : Bool) : List Cnt := if b = true then addC (l.take k) x else l.take k
theorem chOut_len (l : List Cnt) (x : Cnt) (k : Nat) (b : Bool) : (chOut l x k b).length ≤ k + 1 := by
  unfold chOut
  have h := addC_len (l.take k) x
  have h2 : (l.take k).length ≤ k := by rw [List.length_take]; omega
  split <;> omega
theorem take_snoc {A : Type} {l : List A} {k : Nat} {c : A} (hc : l[k]? = some c) : l.take (k + 1) = l.take k ++ [c] := by
  obtain ⟨hk, rfl⟩ := List.getElem?_eq_some_iff.1 hc
  exact List.take_succ_eq_append_getElem hk
theorem refchange_spec (l : List Cnt) (hs : Srt l) (hl : l.length ≤ 500) (hm : ∀ c ∈ l, smC c ∧ 1 ≤ c.nu ∧ c.nu ≤ 1000) (x1 x2 x3 x4 z : Int) (hx : smC ⟨x1, x2, x3, x4⟩) (hz : z = 1 ∨ z = -1) :
    Pure Tryz.prog 71 [cntsA l, .agg [AI x1, AI x2, AI x3, AI x4], AI z] (cntsA (addC l ⟨x1, x2, x3, z⟩)) := by
  have ll : (l.map cCnt).length = l.length := by simp
  obtain ⟨x, hxe⟩ : ∃ x : Cnt, (⟨x1, x2, x3, z⟩ : Cnt) = x := ⟨_, rfl⟩
  have hxk : ∀ c, cmp3 c ⟨x1, x2, x3, x4⟩ = cmp3 c x := fun c => by rw [← hxe]; rfl
  have hxc : cCnt x = [AI x1, AI x2, AI x3, AI z] := by rw [← hxe]; rfl
  have hxn : x.nu = z := by rw [← hxe]
  rw [hxe]
  refine zen Tryz.func71 (by kernel_rfl) rfl Tryz.ntmps71 rfl (by simp) ?_; refine a_seq ?_; refine a_reg ?_; (repeat (first | refine gZ pk ?_ | (show AL _ _ _ _ _ _ _; first | refine jB (fun u => ?_)))); refine zfb 0 4 rfl rfl ?_
  repeat (first | refine gA pk ?_)
  refine a_loop3 (fun (k : Nat) (b : Bool) (v : Value) => [(0, cntsA l), (2, AI z), (4, .ip [AI x1, AI x2, AI x3, AI x4]), (7, .lit v), (8, AB b), (9, AI k)]) (fun k b v => [(v, .row 132 4 ((chOut l x k b).map cCnt))])
    (fun k b v => k ≤ l.length ∧ (b = true → ∃ c ∈ l.take k, ¬ klt c x) ∧ (b = false → ∀ c ∈ l.take k, klt c x)) (fun k _ _ => l.length - k) 0 false (.slice none 0 0) ⟨Nat.zero_le _, fun h => (by cases h), fun _ => (by simp)⟩ ?_ (.free .nil) ?_
  · exact subQ
  · rintro k b v ⟨hk, hb1, hb2⟩
    have hol := chOut_len l x k b
    have ho : ((chOut l x k b).map cCnt).length = (chOut l x k b).length := by simp
    rcases Nat.lt_or_ge k l.length with h | h
    · have hy := List.getElem?_eq_getElem h
      have hcm := hm _ (List.getElem_mem h)
      have s1 := refcompare_spec _ ⟨x1, x2, x3, x4⟩ hcm.1 hx
      rw [hxk] at s1
      have e1 := cmp3_eq l[k] x
      have e2 := cmp3_lt l[k] x
      have hts := take_snoc hy
      have hpre : b = true → klt x l[k] := fun hb => by
        obtain ⟨d, hd, hdx⟩ := hb1 hb
        obtain ⟨i, hi, rfl⟩ := List.mem_iff_getElem.1 hd
        simp only [List.length_take] at hi
        rw [List.getElem_take] at hdx
        have := List.pairwise_iff_getElem.1 hs i k (by omega) h (by omega)
        rcases klt_tri l[i] x with a | a | a
        · exact absurd a hdx
        · exact keq_klt (keq_symm a) this
        · exact klt_trans a this
      generalize l[k] = c at *
      generalize hzz : cmp3 c x = w at *
      obtain ⟨c1, c2, c3, c4⟩ := c
      simp only at hcm
      have xk : (l.map cCnt)[(k : Int).toNat]? = some [AI c1, AI c2, AI c3, AI c4] := zmp (f := cCnt) hy
      have hmemk : (⟨c1, c2, c3, c4⟩ : Cnt) ∈ l.take (k + 1) := by rw [hts]; simp
      rcases klt_tri (⟨c1, c2, c3, c4⟩ : Cnt) x with hq | hq | hq
      · -- less: it stays, nothing is done yet
        have hw := e2.2 hq
        cases b with
        | true => exact absurd (hpre rfl) (klt_asym hq)
        | false =>
          have hnew : chOut l x (k + 1) false = chOut l x k false ++ [⟨c1, c2, c3, c4⟩] := by show l.take (k + 1) = l.take k ++ _; exact hts
          have hall : ∀ d ∈ l.take (k + 1), klt d x := fun d hd => by
            rw [hts] at hd
            rcases List.mem_append.1 hd with hd | hd
            · exact hb2 rfl d hd
            · simp at hd; rw [hd]; exact hq
          generalize chOut l x k false = O at *
          repeat (first | refine gA pk ?_ | (show AL _ _ _ _ _ _ _; first | refine jX tok xk ?_ | refine jP s1 ?_ | refine jL tok (fun u => ?_) | refine jS tok 0 ?_ | refine jO tok 0 ?_))
          (first | refine s_build1 tok rfl rfl rfl rfl rfl rfl rfl rfl (fun u => ?_) | refine s_build1M tok rfl rfl rfl rfl rfl rfl rfl (fun u => ?_) | refine zba tok rfl rfl rfl rfl rfl rfl rfl rfl (by decide) (fun u => ?_)); refine s_append1 tok 1 rfl rfl rfl rfl rfl rfl (by decide) rfl rfl rfl rfl (by omega) (by omega) (fun v' => ?_)
          repeat (first | refine gA pk ?_)
          refine ⟨k + 1, false, v', ⟨by omega, fun h => by (cases h), fun _ => hall⟩, by omega, by exact subQ, ?_⟩
          rw [hnew, List.map_append]
          exact .drop (OSub.refl _)
      · -- equal
        have hw := e1.2 hq
        cases b with
        | true => exact absurd hq (fun a => klt_irr (hpre rfl) (keq_symm a))
        | false =>
          have hall := hb2 rfl
          have hadd : addC (l.take (k + 1)) x = l.take k ++ (if c4 + z = 0 then [] else [⟨c1, c2, c3, c4 + z⟩]) := by
            rw [hts, addC_all hall, addC, if_neg (fun a => klt_irr a hq), if_pos hq, hxn]
            split
            · rfl
            · simp only [addN, hxn]
          have hdone : ∃ d ∈ l.take (k + 1), ¬ klt d x := ⟨_, hmemk, fun a => klt_irr a hq⟩
          have hO : chOut l x k false = l.take k := rfl
          have hO2 : chOut l x (k + 1) true = addC (l.take (k + 1)) x := rfl
          by_cases h0 : c4 + z = 0
          · rw [if_pos h0, List.append_nil] at hadd
            rw [hadd, ← hO] at hO2
            generalize chOut l x k false = O at *
            repeat (first | refine gA pk ?_ | (show AL _ _ _ _ _ _ _; first | refine jX tok xk ?_ | refine jP s1 ?_ | refine jL tok (fun u => ?_) | refine jS tok 0 ?_ | refine jO tok 0 ?_ | refine jS tok 0 ?_))
            refine ⟨k + 1, true, v, ⟨by omega, fun _ => hdone, fun h => by (cases h)⟩, by omega, by exact subQ, ?_⟩
            rw [hO2]
            exact .drop (OSub.refl _)
          · rw [if_neg h0, ← hO] at hadd
            rw [hadd] at hO2
            generalize chOut l x k false = O at *
            repeat (first | refine gA pk ?_ | (show AL _ _ _ _ _ _ _; first | refine jX tok xk ?_ | refine jP s1 ?_ | refine jL tok (fun u => ?_) | refine jS tok 0 ?_ | refine jO tok 0 ?_ | refine jS tok 0 ?_))
            (first | refine s_build1 tok rfl rfl rfl rfl rfl rfl rfl rfl (fun u => ?_) | refine s_build1M tok rfl rfl rfl rfl rfl rfl rfl (fun u => ?_) | refine zba tok rfl rfl rfl rfl rfl rfl rfl rfl (by decide) (fun u => ?_)); refine s_append1 tok 1 rfl rfl rfl rfl rfl rfl (by decide) rfl rfl rfl rfl (by omega) (by omega) (fun v' => ?_)
            repeat (first | refine gA pk ?_)
            refine ⟨k + 1, true, v', ⟨by omega, fun _ => hdone, fun h => by (cases h)⟩, by omega, by exact subQ, ?_⟩
            rw [hO2, List.map_append]
            exact .drop (OSub.refl _)
      · -- greater
        have hw : 0 < w := by
          have a1 : ¬ w < 0 := fun a => klt_asym hq (e2.1 a)
          have a2 : ¬ w = 0 := fun a => klt_irr hq (keq_symm (e1.1 a))
          omega
        have hdone : ∃ d ∈ l.take (k + 1), ¬ klt d x := ⟨_, hmemk, klt_asym hq⟩
        cases b with
        | true =>
          have hnew : chOut l x (k + 1) true = chOut l x k true ++ [⟨c1, c2, c3, c4⟩] := by
            show addC (l.take (k + 1)) x = addC (l.take k) x ++ _
            rw [hts, addC_some (hb1 rfl)]
          generalize chOut l x k true = O at *
          repeat (first | refine gA pk ?_ | (show AL _ _ _ _ _ _ _; first | refine jX tok xk ?_ | refine jP s1 ?_ | refine jL tok (fun u => ?_) | refine jS tok 0 ?_ | refine jO tok 0 ?_))
          (first | refine s_build1 tok rfl rfl rfl rfl rfl rfl rfl rfl (fun u => ?_) | refine s_build1M tok rfl rfl rfl rfl rfl rfl rfl (fun u => ?_) | refine zba tok rfl rfl rfl rfl rfl rfl rfl rfl (by decide) (fun u => ?_)); refine s_append1 tok 1 rfl rfl rfl rfl rfl rfl (by decide) rfl rfl rfl rfl (by omega) (by omega) (fun v' => ?_)
          repeat (first | refine gA pk ?_)
          refine ⟨k + 1, true, v', ⟨by omega, fun _ => hdone, fun h => by (cases h)⟩, by omega, by exact subQ, ?_⟩
          rw [hnew, List.map_append]
          exact .drop (OSub.refl _)
        | false =>
          have hnew : chOut l x (k + 1) true = chOut l x k false ++ [x] ++ [⟨c1, c2, c3, c4⟩] := by
            show addC (l.take (k + 1)) x = l.take k ++ [x] ++ _
            rw [hts, addC_all (hb2 rfl), addC, if_neg (klt_asym hq), if_neg (fun a => klt_irr hq (keq_symm a)), List.append_assoc]
            rfl
          generalize chOut l x k false = O at *
          repeat (first | refine gA pk ?_ | (show AL _ _ _ _ _ _ _; first | refine jX tok xk ?_ | refine jP s1 ?_ | refine jO tok 0 ?_))
          (first | refine s_build1 tok rfl rfl rfl rfl rfl rfl rfl rfl (fun u => ?_) | refine s_build1M tok rfl rfl rfl rfl rfl rfl rfl (fun u => ?_) | refine zba tok rfl rfl rfl rfl rfl rfl rfl rfl (by decide) (fun u => ?_)); refine s_append1 tok 0 rfl rfl rfl rfl rfl rfl (by decide) rfl rfl rfl rfl (by omega) (by omega) (fun v1 => ?_)
          repeat (first | refine gA pk ?_ | (show AL _ _ _ _ _ _ _; first | refine jX tok xk ?_ | refine jP s1 ?_ | refine jL tok (fun u => ?_) | refine jS tok 0 ?_ | refine jO tok 0 ?_))
          refine zba tok rfl rfl rfl rfl rfl rfl rfl rfl (by decide) (fun u => ?_)
          refine s_append1 tok 1 rfl rfl rfl rfl rfl rfl (by decide) rfl rfl rfl rfl (by simp only [List.length_append, List.length_cons, List.length_nil, ho]; omega) (by simp only [List.length_append, List.length_cons, List.length_nil, ho]; omega) (fun v2 => ?_)
          repeat (first | refine gA pk ?_)
          refine ⟨k + 1, true, v2, ⟨by omega, fun _ => hdone, fun h => by (cases h)⟩, by omega, by exact subQ, ?_⟩
          rw [hnew, List.map_append, List.map_append, List.map_cons, List.map_nil, hxc]
          exact .drop (OSub.refl _)
    · obtain rfl : k = l.length := by omega
      rw [List.take_length] at hb1 hb2
      cases b with
      | true =>
        have hO : chOut l x l.length true = addC l x := by show addC (l.take l.length) x = _; rw [List.take_length]
        rw [hO]
        repeat (first | refine gA pk ?_)
        exact finF 0 (x := .lit _) (.inr rfl) rfl rfl FZ.here ⟨rfl, rfl⟩
      | false =>
        have hO : addC l x = chOut l x l.length false ++ [x] := by
          have := addC_all (hb2 rfl) ([] : List Cnt)
          rw [List.append_nil] at this
          rw [this]
          show l ++ [x] = l.take l.length ++ [x]
          rw [List.take_length]
        rw [hO]
        generalize chOut l x l.length false = O at *
        rw [show cntsA (O ++ [x]) = .im 4 (O.map cCnt ++ [[AI x1, AI x2, AI x3, AI z]]) by rw [← hxc]; simp]
        repeat (first | refine gA pk ?_)
        (first | refine s_build1 tok rfl rfl rfl rfl rfl rfl rfl rfl (fun u => ?_) | refine s_build1M tok rfl rfl rfl rfl rfl rfl rfl (fun u => ?_) | refine zba tok rfl rfl rfl rfl rfl rfl rfl rfl (by decide) (fun u => ?_)); refine s_append1 tok 0 rfl rfl rfl rfl rfl rfl (by decide) rfl rfl rfl rfl (by omega) (by omega) (fun v1 => ?_)
        repeat (first | refine gA pk ?_)
        exact finF 0 (x := .lit _) (.inr rfl) rfl rfl FZ.here ⟨rfl, rfl⟩
end Go.Proofs.YtimfponihbfimaaGreat
end
