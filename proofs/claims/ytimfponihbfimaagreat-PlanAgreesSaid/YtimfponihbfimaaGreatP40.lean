/- Parts of a proof. -/
import Derived.Test.YtimfponihbfimaaGreatP33
import Derived.Test.YtimfponihbfimaaGreatP34
import Derived.Test.YtimfponihbfimaaGreatP35
import Derived.Test.YtimfponihbfimaaGreatP36
import Derived.Test.YtimfponihbfimaaGreatP37
import Derived.Test.YtimfponihbfimaaGreatP39
set_option linter.unusedVariables false
set_option linter.unusedSimpArgs false
section
namespace Go.Proofs.YtimfponihbfimaaGreat
open Go.Sj Go.Sj.Typ Go.Sj.Sta Go.Sj.Inc
set_option maxRecDepth 8000
set_option maxHeartbeats 16000000
theorem ltM_f {x y : Mo} : ltM x y = false ↔ 0 ≤ cmpM x y := by
  unfold ltM
  rw [decide_eq_false_iff_not]
  omega
theorem ltM_t {x y : Mo} : ltM x y = true ↔ cmpM x y < 0 := by
  unfold ltM
  rw [decide_eq_true_iff]
theorem swo_ltM : Sort.SWO ltM := ⟨fun x => ltM_f.2 (by rw [cmpM_self]; exact Int.le_refl _), fun x y z h k => ltM_t.2 (cmpM_lt_trans (ltM_t.1 h) (ltM_t.1 k)), fun x y z h k => by
  rw [ltM_f] at *
  have h1 := cmpM_anti x y
  have h2 := cmpM_anti y z
  have h3 := cmpM_anti x z
  have h4 := cmpM_trans (a := z) (b := y) (c := x) (by omega) (by omega)
  omega⟩
theorem permIn_ok {a b : Nat} {d d' : Array Mo} (h : Sort.PermIn a b d d') (hb : b ≤ d.size) (hd : AllB d) : AllB d' ∧ d'.size = d.size := by
  refine ⟨⟨by rw [h.1]; exact hd.n, fun i => ?_⟩, h.1⟩
  rcases Nat.lt_or_ge i a with h1 | h1
  · rw [h.2.1 i (.inl h1)]
    exact hd.el i
  · rcases Nat.lt_or_ge i b with h2 | h2
    · exact Sort.permIn_all d d' a b MoB hb h (fun j _ _ => hd.el j) i h1 h2
    · rw [h.2.1 i (.inr h2)]
      exact hd.el i
theorem partE_ok (d : Array Mo) (hd : AllB d) (a b p : Nat) (hab : a < b) (hb : b ≤ d.size) : AllB (Sort.partitionEqual ltM d a b p).2 ∧ (Sort.partitionEqual ltM d a b p).2.size = d.size ∧ a < (Sort.partitionEqual ltM d a b p).1 ∧ (Sort.partitionEqual ltM d a b p).1 ≤ b := by
  have h := Sort.partEqLoop_spec (lt := ltM) a b _ (a + 1) (b - 1) (Sort.swp d a p) (Nat.le_refl _) (by omega) (by omega) (by omega) (by rw [zsw]; exact hb) (fun t h1 h2 => by omega) (fun t h1 h2 => by omega)
  have h2 := permIn_ok h.2.2.1 (by rw [zsw]; exact hb) (hd.swp a p)
  rw [zsw] at h2
  exact ⟨h2.1, h2.2, h.1, h.2.1⟩
theorem pins_ok (a b : Nat) : ∀ (s i : Nat) (d : Array Mo), AllB d → AllB (Sort.partialIns ltM a b s i d).1 ∧ (Sort.partialIns ltM a b s i d).1.size = d.size
  | 0, i, d, hd => by rw [Sort.partialIns]; exact ⟨hd, rfl⟩
  | s + 1, i, d, hd => by
    rw [Sort.partialIns_succ]
    generalize Sort.scanSorted ltM d b i = I
    have h0 := hd.swp I (I - 1)
    have h0s := zsw d I (I - 1)
    generalize Sort.swp d I (I - 1) = D at *
    split
    · exact ⟨hd, rfl⟩
    · split
      · exact ⟨hd, rfl⟩
      · have h1 : AllB (Sort.fixDown ltM a I D) ∧ (Sort.fixDown ltM a I D).size = D.size := by
          unfold Sort.fixDown
          split
          · exact shD_ok _ _ h0
          · exact ⟨h0, rfl⟩
        generalize Sort.fixDown ltM a I D = D1 at *
        have h2 : AllB (Sort.fixUp ltM b I D1) ∧ (Sort.fixUp ltM b I D1).size = D1.size := by
          unfold Sort.fixUp
          split
          · exact shU_ok b _ _ _ (Nat.le_refl _) h1.1
          · exact ⟨h1.1, rfl⟩
        generalize Sort.fixUp ltM b I D1 = D2 at *
        have h3 := pins_ok a b s I D2 h2.1
        exact ⟨h3.1, by rw [h3.2, h2.2, h1.2, h0s]⟩
theorem pdqS_spec : ∀ (m : Nat) (d : Array Mo), AllB d → ∀ (a b limit : Nat), b - a ≤ m → a ≤ b → b ≤ d.size → limit ≤ 64 → ∀ v : Value,
    ACalls Tryz.prog 80 [.lit v, AI a, AI b, AI limit, cmpF] [(v, rowM d)]
      (fun y M => y = .tup [] ∧ (AllB (Sort.pdq ltM d a b limit true true) ∧ (Sort.pdq ltM d a b limit true true).size = d.size) ∧ M = [(v, rowM (Sort.pdq ltM d a b limit true true))]) := by
  intro m
  induction m using Nat.strongRecOn with
  | _ m ih =>
  intro d hd a b limit hm hab hb hlim v
  have hn := hd.n
  obtain ⟨R, hR⟩ : ∃ R, Sort.pdq ltM d a b limit true true = R := ⟨_, rfl⟩
  rw [hR]
  generalize hsz : d.size = n at *
  refine zen Tryz.func80 (by kernel_rfl) rfl Tryz.ntmps80 rfl (by simp) ?_
  repeat (first | refine gA pk ?_)
  refine zlx (fun x : ((Nat × Nat) × Nat) × (Bool × Bool) × Array Mo => [(0, .lit v), (1, AI x.1.1.1), (2, AI x.1.1.2), (3, AI x.1.2), (4, cmpF), (10, AB x.2.1.1), (11, AB x.2.1.2)]) (fun x => [(v, rowM x.2.2)]) (fun x => x.1.1.1 ≤ x.1.1.2 ∧ x.1.1.2 ≤ n ∧ x.1.2 ≤ 64 ∧ x.1.1.2 - x.1.1.1 ≤ m ∧ AllB x.2.2 ∧ x.2.2.size = n ∧ Sort.pdq ltM x.2.2 x.1.1.1 x.1.1.2 x.1.2 x.2.1.1 x.2.1.2 = R) (fun x => x.1.1.2 - x.1.1.1) (((a, b), limit), (true, true), d) ⟨hab, hb, hlim, hm, hd, hsz, hR⟩ ?_ (OSub.refl _) ?_
  · exact subQ
  clear hR hd hsz hm hab hb hlim
  clear d a b limit
  rintro ⟨⟨⟨a, b⟩, limit⟩, ⟨wb, wp⟩, e⟩ ⟨k1, k2, k3, k4, k5, k6, k7⟩
  simp only at k1 k2 k3 k4 k5 k6 k7
  dsimp only
  rw [Sort.pdq] at k7
  refine a_block ?_
  refine a_seq ?_
  refine a_reg ?_
  repeat (first | refine gY pk ?_)
  by_cases h12 : b - a ≤ 12
  · rw [if_pos h12] at k7
    have s1 := ins_spec e k5 a b k1 (by omega) v
    have ok := permIn_ok (Sort.insertionSort_holds swo_ltM e a b k1 (by omega)).1 (by omega) k5
    rw [k6] at ok
    rw [k7] at s1 ok
    repeat (first | refine gA pk ?_ | (show AL _ _ _ _ _ _ _; first | refine s_pe (x := cmpF) tok rfl rfl rfl rfl ?_ | refine zsc (Lc := [(v, rowM e)]) (Lr := []) rfl rfl rfl rfl rfl s1 (SubL.of_eq rfl) (List.Perm.refl _) ?_; rintro _ _ ⟨rfl, rfl⟩))
    exact fin (x := .tup []) (.inr rfl) rfl (Sub.refl _) ⟨rfl, ok, rfl⟩ (OSub.refl _)
  rw [if_neg h12] at k7
  by_cases h0 : limit = 0
  · rw [if_pos h0] at k7
    have s1 := heap_spec e k5 a b (by omega) (by omega) v
    have ok := permIn_ok (Sort.heapSort_holds swo_ltM e a b k1 (by omega)).1 (by omega) k5
    rw [k6] at ok
    rw [k7] at s1 ok
    repeat (first | refine gA pk ?_ | (show AL _ _ _ _ _ _ _; first | refine s_pe (x := cmpF) tok rfl rfl rfl rfl ?_ | refine zsc (Lc := [(v, rowM e)]) (Lr := []) rfl rfl rfl rfl rfl s1 (SubL.of_eq rfl) (List.Perm.refl _) ?_; rintro _ _ ⟨rfl, rfl⟩))
    exact fin (x := .tup []) (.inr rfl) rfl (Sub.refl _) ⟨rfl, ok, rfl⟩ (OSub.refl _)
  rw [if_neg h0] at k7
  refine a_seq ?_
  refine a_seq ?_
  refine a_reg ?_
  repeat (first | refine gY pk ?_)
  refine a_condF rfl ?_
  refine a_skip ?_
  refine a_seq ?_
  refine a_seq ?_
  refine a_reg ?_
  repeat (first | refine gY pk ?_)
  refine a_condF rfl ?_
  refine a_skip ?_
  dsimp only at k7
  generalize hd1 : (if (!wb) = true then Sort.breakPatterns e a b else e) = e1 at k7
  generalize hl1 : (if (!wb) = true then limit - 1 else limit) = l1 at k7
  have t0 : AllB e1 ∧ e1.size = n ∧ l1 ≤ 64 := by
    cases wb with
    | true =>
      rw [if_neg (by decide)] at hd1 hl1
      subst hd1 hl1
      exact ⟨k5, k6, k3⟩
    | false =>
      rw [if_pos (by decide)] at hd1 hl1
      have := permIn_ok (Sort.breakPatterns_holds e a b k1 (by omega)) (by omega) k5
      rw [hd1] at this
      exact ⟨this.1, by rw [this.2, k6], by omega⟩
  obtain ⟨t1, t2, t3⟩ := t0
  refine a_mid (fun st L => GoTo 148 st L (lk [(0, .lit v), (1, AI a), (2, AI b), (3, AI l1), (4, cmpF), (10, AB wb), (11, AB wp), (12, AI ((b : Int) - a))]) [(v, rowM e1)]) ?_ (fun st L h => zgt h ?_)
  · clear k7
    cases wb with
    | true =>
      rw [if_neg (by decide)] at hd1 hl1
      subst hd1 hl1
      repeat (first | refine gA pk ?_)
      exact GoTo.sub (by exact subQ) (OSub.refl _)
    | false =>
      rw [if_pos (by decide)] at hd1 hl1
      have s1 := break_spec e k5 a b k1 (by omega) v
      rw [hd1] at s1
      repeat (first | refine gA pk ?_ | (show AL _ _ _ _ _ _ _; first | refine s_pe (x := cmpF) tok rfl rfl rfl rfl ?_ | refine zsc (Lc := [(v, rowM e)]) (Lr := []) rfl rfl rfl rfl rfl s1 (SubL.of_eq rfl) (List.Perm.refl _) ?_; rintro _ _ ⟨rfl, rfl⟩))
      subst hl1
      rw [show ((limit : Int) - 1) = ((limit - 1 : Nat) : Int) by omega]
      exact GoTo.sub (by exact subQ) (OSub.refl _)
  have s2 := piv_spec e1 t1 a b (by omega) (by omega) v
  have cb := Sort.choosePivot_holds ltM e1 a b (by omega)
  generalize Sort.choosePivot ltM e1 a b = c at *
  obtain ⟨pv, hint⟩ := c
  dsimp only at k7 s2 cb
  refine a_seq ?_
  refine a_reg ?_
  repeat (first | refine gY pk ?_ | (show AL _ _ _ _ _ _ _; first | refine s_pe (x := cmpF) tok rfl rfl rfl rfl ?_ | refine zsc (Lc := [(v, rowM e1)]) (Lr := []) rfl rfl rfl rfl rfl s2 (SubL.of_eq rfl) (List.Perm.refl _) ?_; rintro _ _ ⟨rfl, rfl⟩))
  generalize hd2 : (if hint = Sort.Hint.decreasing then Sort.reverseRange e1 a b else e1) = e2 at k7
  generalize hp2 : (if hint = Sort.Hint.decreasing then b - 1 - (pv - a) else pv) = p2 at k7
  generalize hh2 : (if hint = Sort.Hint.decreasing then Sort.Hint.increasing else hint) = h2 at k7
  have t4 : AllB e2 ∧ e2.size = n ∧ a ≤ p2 ∧ p2 < b := by
    by_cases hx : hint = Sort.Hint.decreasing
    · rw [if_pos hx] at hd2 hp2
      have := permIn_ok (Sort.reverseRange_holds e1 a b k1 (by omega)) (by omega) t1
      rw [hd2] at this
      exact ⟨this.1, by rw [this.2, t2], by omega, by omega⟩
    · rw [if_neg hx] at hd2 hp2
      subst hd2 hp2
      exact ⟨t1, t2, cb⟩
  obtain ⟨t5, t6, t7, t8⟩ := t4
  refine a_mid (fun st L => GoTo 148 st L (lk [(0, .lit v), (1, AI a), (2, AI b), (3, AI l1), (4, cmpF), (10, AB wb), (11, AB wp), (12, AI ((b : Int) - a)), (13, AI p2), (14, AI (hintC h2))]) [(v, rowM e2)]) ?_ (fun st L h => zgt h ?_)
  · clear k7 s2
    by_cases hx : hint = Sort.Hint.decreasing
    · rw [if_pos hx] at hd2 hp2 hh2
      subst hx
      have s3 := rev_spec e1 t1 a b (by omega) (by omega) v cmpF
      rw [hd2] at s3
      subst hh2
      simp only [hintC]
      repeat (first | refine gA pk ?_ | (show AL _ _ _ _ _ _ _; first | refine s_pe (x := cmpF) tok rfl rfl rfl rfl ?_ | refine zsc (Lc := [(v, rowM e1)]) (Lr := []) rfl rfl rfl rfl rfl s3 (SubL.of_eq rfl) (List.Perm.refl _) ?_; rintro _ _ ⟨rfl, rfl⟩))
      rw [show ((b : Int) - 1 - ((pv : Int) - a)) = (p2 : Int) by omega]
      exact GoTo.sub (by exact subQ) (OSub.refl _)
    · rw [if_neg hx] at hd2 hp2 hh2
      subst hd2 hp2 hh2
      cases hint
      · simp only [hintC]
        repeat (first | refine gA pk ?_)
        exact GoTo.sub (by exact subQ) (OSub.refl _)
      · simp only [hintC]
        repeat (first | refine gA pk ?_)
        exact GoTo.sub (by exact subQ) (OSub.refl _)
      · exact absurd rfl hx
  generalize hpi : (if (wb && wp && decide (h2 = Sort.Hint.increasing)) = true then Sort.partialInsertionSort ltM e2 a b else (e2, false)) = pi at k7
  obtain ⟨e3, fl⟩ := pi
  dsimp only at k7
  have t9 : AllB e3 ∧ e3.size = n := by
    split at hpi
    · have := pins_ok a b 5 (a + 1) e2 t5
      change AllB (Sort.partialInsertionSort ltM e2 a b).1 ∧ (Sort.partialInsertionSort ltM e2 a b).1.size = _ at this
      rw [hpi] at this
      exact ⟨this.1, by rw [this.2, t6]⟩
    · cases hpi
      exact ⟨t5, t6⟩
  have s4 := pins_spec e2 t5 a b (by omega) (by omega) v
  refine a_mid (fun st L => fl = false ∧ GoTo 148 st L (lk [(0, .lit v), (1, AI a), (2, AI b), (3, AI l1), (4, cmpF), (10, AB wb), (11, AB wp), (12, AI ((b : Int) - a)), (13, AI p2)]) [(v, rowM e3)]) ?_ (fun st L h => ?_)
  · by_cases hF : (wb && wp && decide (h2 = Sort.Hint.increasing)) = true
    · rw [if_pos hF] at hpi
      have h3 : wb = true ∧ wp = true ∧ h2 = Sort.Hint.increasing := by
        cases wb <;> cases wp <;> cases h2 <;> simp at hF ⊢
      obtain ⟨rfl, rfl, rfl⟩ := h3
      simp only [hintC]
      rw [hpi] at s4
      dsimp only at s4
      cases fl with
      | true =>
        rw [if_pos rfl] at k7
        rw [k7] at s4 t9
        clear hpi
        repeat (first | refine gA pk ?_ | (show AL _ _ _ _ _ _ _; first | refine s_pe (x := cmpF) tok rfl rfl rfl rfl ?_ | refine zsc (Lc := [(v, rowM e2)]) (Lr := []) rfl rfl rfl rfl rfl s4 (SubL.of_eq rfl) (List.Perm.refl _) ?_; rintro _ _ ⟨rfl, rfl⟩))
        exact fin (x := .tup []) (.inr rfl) rfl (Sub.refl _) ⟨rfl, t9, rfl⟩ (OSub.refl _)
      | false =>
        clear hpi k7
        repeat (first | refine gA pk ?_ | (show AL _ _ _ _ _ _ _; first | refine s_pe (x := cmpF) tok rfl rfl rfl rfl ?_ | refine zsc (Lc := [(v, rowM e2)]) (Lr := []) rfl rfl rfl rfl rfl s4 (SubL.of_eq rfl) (List.Perm.refl _) ?_; rintro _ _ ⟨rfl, rfl⟩))
        exact ⟨by trivial, GoTo.sub (by exact subQ) (OSub.refl _)⟩
    · rw [if_neg hF] at hpi
      cases hpi
      clear k7 s4
      cases wb <;> cases wp <;> cases h2
      all_goals try (exfalso; revert hF; decide)
      all_goals
        simp only [hintC]
        repeat (first | refine gA pk ?_)
        exact ⟨by trivial, GoTo.sub (by exact subQ) (OSub.refl _)⟩
  obtain ⟨hfl, h⟩ := h
  refine zgt h ?_
  subst hfl
  rw [if_neg (by decide)] at k7
  obtain ⟨t9, t10⟩ := t9
  refine a_mid (fun st L => (decide (a > 0) && !ltM e3[a - 1]! e3[p2]!) = false ∧ GoTo 148 st L (lk [(0, .lit v), (1, AI a), (2, AI b), (3, AI l1), (4, cmpF), (10, AB wb), (11, AB wp), (12, AI ((b : Int) - a)), (13, AI p2)]) [(v, rowM e3)]) ?_ (fun st L h => ?_)
  · rcases Nat.eq_zero_or_pos a with ha | ha
    · clear k7
      subst ha
      refine a_seq ?_
      refine zrg ((List.range 17).map fun i => if inL [13] i = true then .eff else if inL [7, 8, 11, 12] i = true then .read else .pure) [] [0, 1, 2, 3, 4, 5, 6, 7, 8, 9, 10, 11, 12, 13, 14, 15, 16] .stop mixed rfl rfl (by decide +kernel) ?_
      repeat' (first | (with_reducible show AG _ _ _ _ _ _ _ _ _ _; first | exact zgn | refine zgs ?_ | refine znd ?_ ?_) | (show AMid _ _ _ _; first | refine zmf ?_ | refine zmg (by first | exact OSub.refl _ | exact .drop (OSub.refl _) | exact .drop (.drop (OSub.refl _))) ?_) | refine gY pk ?_ | fail)
      repeat (first | refine gA pk ?_)
      exact ⟨rfl, GoTo.sub (by exact subQ) (OSub.refl _)⟩
    · skip
      have c1 := zat (d := e3) (z := ((a : Int) - 1)) (j := a - 1) (by omega) (by omega)
      have c2 := zat (d := e3) (z := (p2 : Int)) (j := p2) (by omega) (by omega)
      have cc := icmp e3 t9 (a - 1) (p2)
      have cl : ltM e3[a - 1]! e3[p2]! = decide (cmpM e3[a - 1]! e3[p2]! < 0) := rfl
      rw [cl, decide_eq_true ha] at k7 ⊢
      generalize hz : cmpM e3[a - 1]! e3[p2]! = z at *
      by_cases hz0 : z < 0
      · clear k7
        rw [decide_eq_true hz0]
        refine a_seq ?_
        refine zrg ((List.range 17).map fun i => if inL [13] i = true then .eff else if inL [7, 8, 11, 12] i = true then .read else .pure) [] [0, 1, 2, 3, 4, 5, 6, 7, 8, 9, 10, 11, 12, 13, 14, 15, 16] .stop mixed rfl rfl (by decide +kernel) ?_
        repeat' (first | (with_reducible show AG _ _ _ _ _ _ _ _ _ _; first | exact zgn | refine zgs ?_ | refine znd ?_ ?_) | (show AMid _ _ _ _; first | refine zmf ?_ | refine zmg (by first | exact OSub.refl _ | exact .drop (OSub.refl _) | exact .drop (.drop (OSub.refl _))) ?_) | refine gY pk ?_ | (show AL _ _ _ _ _ _ _; first | refine zim tok 0 rfl rfl rfl rfl (by decide) rfl rfl rfl rfl rfl rfl (by omega) (by first | omega | (simp only [Array.size_setIfInBounds]; omega)) ?_ | refine zlm tok 0 rfl rfl rfl rfl (by decide) rfl (fun _ _ => rfl) rfl rfl c1 ?_ | refine zlm tok 0 rfl rfl rfl rfl (by decide) rfl (fun _ _ => rfl) rfl rfl c2 ?_ | refine jP cc ?_) | fail)
        repeat (first | refine gA pk ?_)
        exact ⟨by trivial, GoTo.sub (by exact subQ) (OSub.refl _)⟩
      · rw [decide_eq_false hz0] at k7 ⊢
        rw [if_pos (by decide)] at k7
        have s5 := partE_spec e3 t9 a b p2 (by omega) (by omega) t7 t8 v
        have ok := partE_ok e3 t9 a b p2 (by omega) (by omega)
        generalize Sort.partitionEqual ltM e3 a b p2 = q at *
        obtain ⟨mid, e4⟩ := q
        dsimp only at k7 s5 ok
        obtain ⟨o1, o2, o3, o4⟩ := ok
        rw [dif_pos ⟨o3, o4⟩] at k7
        refine a_seq ?_
        refine zrg ((List.range 17).map fun i => if inL [13] i = true then .eff else if inL [7, 8, 11, 12] i = true then .read else .pure) [] [0, 1, 2, 3, 4, 5, 6, 7, 8, 9, 10, 11, 12, 13, 14, 15, 16] .stop mixed rfl rfl (by decide +kernel) ?_
        repeat' (first | (with_reducible show AG _ _ _ _ _ _ _ _ _ _; first | exact zgn | refine zgs ?_ | refine znd ?_ ?_) | (show AMid _ _ _ _; first | refine zmf ?_ | refine zmg (by first | exact OSub.refl _ | exact .drop (OSub.refl _) | exact .drop (.drop (OSub.refl _))) ?_) | refine gY pk ?_ | (show AL _ _ _ _ _ _ _; first | refine zim tok 0 rfl rfl rfl rfl (by decide) rfl rfl rfl rfl rfl rfl (by omega) (by first | omega | (simp only [Array.size_setIfInBounds]; omega)) ?_ | refine zlm tok 0 rfl rfl rfl rfl (by decide) rfl (fun _ _ => rfl) rfl rfl c1 ?_ | refine zlm tok 0 rfl rfl rfl rfl (by decide) rfl (fun _ _ => rfl) rfl rfl c2 ?_ | refine jP cc ?_) | fail)
        repeat (first | refine gA pk ?_ | (show AL _ _ _ _ _ _ _; first | refine s_pe (x := cmpF) tok rfl rfl rfl rfl ?_ | refine zsc (Lc := [(v, rowM e3)]) (Lr := []) rfl rfl rfl rfl rfl s5 (SubL.of_eq rfl) (List.Perm.refl _) ?_; rintro _ _ ⟨rfl, rfl⟩))
        exact ⟨(((mid, b), l1), (wb, wp), e4), ⟨o4, k2, t3, by show b - mid ≤ m; omega, o1, by show e4.size = n; omega, k7⟩, by show b - mid < b - a; omega, by exact subQ, OSub.refl _⟩
  obtain ⟨hG, h⟩ := h
  refine zgt h ?_
  rw [hG, if_neg (by decide)] at k7
  clear hG
  have s6 := partC_spec e3 t9 a b p2 (by omega) (by omega) t7 t8 v
  have pm := Sort.partition_holds ltM swo_ltM e3 a b p2 t7 t8 (by omega)
  have ok := permIn_ok pm.2.2.1 (by omega) t9
  replace pm := (show _ ∧ _ from ⟨pm.1, pm.2.1⟩)
  generalize Sort.partition ltM e3 a b p2 = q at *
  obtain ⟨mid, ap, e4⟩ := q
  dsimp only at k7 s6 ok pm
  obtain ⟨o1, o2⟩ := ok
  obtain ⟨o3, o4⟩ := pm
  rw [dif_pos ⟨o3, o4⟩] at k7
  by_cases hlr : mid - a < b - mid
  · rw [if_pos hlr] at k7
    have s7 := ih (mid - a) (by omega) e4 o1 a mid l1 (Nat.le_refl _) o3 (by omega) t3 v
    generalize Sort.pdq ltM e4 a mid l1 true true = D at *
    by_cases hbal : mid - a ≥ (b - a) / 8
    · rw [decide_eq_true hbal] at k7
      repeat (first | refine gA pk ?_ | (show AL _ _ _ _ _ _ _; first | refine s_pe (x := cmpF) tok rfl rfl rfl rfl ?_ | refine zsc (Lc := [(v, rowM e3)]) (Lr := []) rfl rfl rfl rfl rfl s6 (SubL.of_eq rfl) (List.Perm.refl _) ?_; rintro _ _ ⟨rfl, rfl⟩ | refine zsc (Lc := [(v, rowM e4)]) (Lr := []) rfl rfl rfl rfl rfl s7 (SubL.of_eq rfl) (List.Perm.refl _) ?_; rintro _ _ ⟨rfl, ⟨w1, w2⟩, rfl⟩ | refine s_quo rfl rfl rfl rfl rfl rfl (by omega) (by omega) (IntWalk.i64_in _ (by omega)) ?_))
      rw [show ((mid : Int) + 1) = ((mid + 1 : Nat) : Int) by omega]
      exact ⟨(((mid + 1, b), l1), (true, ap), D), ⟨by show mid + 1 ≤ b; omega, k2, t3, by show b - (mid + 1) ≤ m; omega, w1, by show D.size = n; omega, k7⟩, by show b - (mid + 1) < b - a; omega, by exact subQ, OSub.refl _⟩
    · rw [decide_eq_false hbal] at k7
      repeat (first | refine gA pk ?_ | (show AL _ _ _ _ _ _ _; first | refine s_pe (x := cmpF) tok rfl rfl rfl rfl ?_ | refine zsc (Lc := [(v, rowM e3)]) (Lr := []) rfl rfl rfl rfl rfl s6 (SubL.of_eq rfl) (List.Perm.refl _) ?_; rintro _ _ ⟨rfl, rfl⟩ | refine zsc (Lc := [(v, rowM e4)]) (Lr := []) rfl rfl rfl rfl rfl s7 (SubL.of_eq rfl) (List.Perm.refl _) ?_; rintro _ _ ⟨rfl, ⟨w1, w2⟩, rfl⟩ | refine s_quo rfl rfl rfl rfl rfl rfl (by omega) (by omega) (IntWalk.i64_in _ (by omega)) ?_))
      rw [show ((mid : Int) + 1) = ((mid + 1 : Nat) : Int) by omega]
      exact ⟨(((mid + 1, b), l1), (false, ap), D), ⟨by show mid + 1 ≤ b; omega, k2, t3, by show b - (mid + 1) ≤ m; omega, w1, by show D.size = n; omega, k7⟩, by show b - (mid + 1) < b - a; omega, by exact subQ, OSub.refl _⟩
  · rw [if_neg hlr] at k7
    have s7 := ih (b - (mid + 1)) (by omega) e4 o1 (mid + 1) b l1 (Nat.le_refl _) (by omega) (by omega) t3 v
    rw [show ((mid + 1 : Nat) : Int) = (mid : Int) + 1 by omega] at s7
    generalize Sort.pdq ltM e4 (mid + 1) b l1 true true = D at *
    by_cases hbal : b - mid ≥ (b - a) / 8
    · rw [decide_eq_true hbal] at k7
      repeat (first | refine gA pk ?_ | (show AL _ _ _ _ _ _ _; first | refine s_pe (x := cmpF) tok rfl rfl rfl rfl ?_ | refine zsc (Lc := [(v, rowM e3)]) (Lr := []) rfl rfl rfl rfl rfl s6 (SubL.of_eq rfl) (List.Perm.refl _) ?_; rintro _ _ ⟨rfl, rfl⟩ | refine zsc (Lc := [(v, rowM e4)]) (Lr := []) rfl rfl rfl rfl rfl s7 (SubL.of_eq rfl) (List.Perm.refl _) ?_; rintro _ _ ⟨rfl, ⟨w1, w2⟩, rfl⟩ | refine s_quo rfl rfl rfl rfl rfl rfl (by omega) (by omega) (IntWalk.i64_in _ (by omega)) ?_))
      exact ⟨(((a, mid), l1), (true, ap), D), ⟨o3, by show mid ≤ n; omega, t3, by show mid - a ≤ m; omega, w1, by show D.size = n; omega, k7⟩, by show mid - a < b - a; omega, by exact subQ, OSub.refl _⟩
    · rw [decide_eq_false hbal] at k7
      repeat (first | refine gA pk ?_ | (show AL _ _ _ _ _ _ _; first | refine s_pe (x := cmpF) tok rfl rfl rfl rfl ?_ | refine zsc (Lc := [(v, rowM e3)]) (Lr := []) rfl rfl rfl rfl rfl s6 (SubL.of_eq rfl) (List.Perm.refl _) ?_; rintro _ _ ⟨rfl, rfl⟩ | refine zsc (Lc := [(v, rowM e4)]) (Lr := []) rfl rfl rfl rfl rfl s7 (SubL.of_eq rfl) (List.Perm.refl _) ?_; rintro _ _ ⟨rfl, ⟨w1, w2⟩, rfl⟩ | refine s_quo rfl rfl rfl rfl rfl rfl (by omega) (by omega) (IntWalk.i64_in _ (by omega)) ?_))
      exact ⟨(((a, mid), l1), (false, ap), D), ⟨o3, by show mid ≤ n; omega, t3, by show mid - a ≤ m; omega, w1, by show D.size = n; omega, k7⟩, by show mid - a < b - a; omega, by exact subQ, OSub.refl _⟩
end Go.Proofs.YtimfponihbfimaaGreat
end
