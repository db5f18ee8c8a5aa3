/- Parts of a proof. -/
import Derived.Test.YtimfponihbfimaaGreatP32
set_option linter.unusedVariables false
set_option linter.unusedSimpArgs false
section
namespace Go.Proofs.YtimfponihbfimaaGreat
open Go.Sj Go.Sj.Typ Go.Sj.Sta Go.Sj.Inc
set_option maxRecDepth 8000
set_option maxHeartbeats 16000000
set_option maxRecDepth 40000
theorem partE_spec (d : Array Mo) (hd : AllB d) (a b pivot : Nat) (hab : a < b) (hb : b ≤ d.size) (hp1 : a ≤ pivot) (hp2 : pivot < b) (v : Value) :
    ACalls Tryz.prog 130 [.lit v, AI a, AI b, AI pivot, cmpF] [(v, rowM d)] (fun y M => y = AI ((Sort.partitionEqual ltM d a b pivot).1 : Nat) ∧ M = [(v, rowM (Sort.partitionEqual ltM d a b pivot).2)]) := by
  have hn := hd.n
  obtain ⟨n, rfl⟩ : ∃ n, b = n + 1 := ⟨b - 1, by omega⟩
  have hr : Sort.partitionEqual ltM d a (n + 1) pivot = Sort.partEqLoop ltM a (a + 1) n (Sort.swp d a pivot) := rfl
  generalize Sort.partitionEqual ltM d a (n + 1) pivot = r at *
  refine zen Tryz.func130 (by kernel_rfl) rfl Tryz.ntmps130 rfl (by simp) ?_
  repeat (first | refine gN pk ?_)
  have s1 := zat (d := d) (z := (a : Int)) (j := a) (by omega) (by omega)
  have s2 := zat (d := d) (z := (pivot : Int)) (j := pivot) (by omega) (by omega)
  have se1 : ((a : Int) : Int).toNat = a := by omega
  have se2 : ((pivot : Int) : Int).toNat = pivot := by omega
  have sw : (d.setIfInBounds (a) d[pivot]!).setIfInBounds (pivot) d[a]! = Sort.swp d (a) (pivot) := rfl
  have sk := hd.swp (a) (pivot)
  have sn := zsw d (a) (pivot)
  generalize Sort.swp d (a) (pivot) = sF at *
  generalize d[a]! = sx at *
  generalize d[pivot]! = sy at *
  refine zrg ((List.range 16).map fun i => if inL [13, 15] i = true then .eff else if inL [6, 7, 10, 11, 12, 14] i = true then .read else .pure) [] [0, 1, 2, 3, 4, 5, 6, 7, 8, 9, 10, 11, 12, 13, 14, 15] .stop mixed rfl rfl (by decide +kernel) ?_
  repeat' (first | (with_reducible show AG _ _ _ _ _ _ _ _ _ _; first | exact zgn | refine zgs ?_ | refine znd ?_ ?_) | (show AMid _ _ _ _; first | refine zmf ?_ | refine zmg (by first | exact OSub.refl _ | exact .drop (OSub.refl _) | exact .drop (.drop (OSub.refl _))) ?_) | refine gY pk ?_ | (show AL _ _ _ _ _ _ _; first | refine zim tok 0 rfl rfl rfl rfl (by decide) rfl rfl rfl rfl rfl rfl (by omega) (by first | omega | (simp only [Array.size_setIfInBounds]; omega)) ?_ | refine zlm tok 0 rfl rfl rfl rfl (by decide) rfl (fun _ _ => rfl) rfl rfl s1 ?_ | refine zlm tok 0 rfl rfl rfl rfl (by decide) rfl (fun _ _ => rfl) rfl rfl s2 ?_ | refine s_storeMo tok 0 rfl rfl rfl rfl rfl rfl rfl rfl (by first | omega | (simp only [Array.size_setIfInBounds]; omega)) ?_) | fail)
  rw [se1, se2, sw]
  clear se1 se2 sw s1 s2
  repeat (first | refine gA pk ?_)
  rw [show (((n + 1 : Nat) : Int) - 1) = n by omega]
  refine zlx (fun x : (Nat × Nat) × Array Mo => [(0, .lit v), (1, AI a), (4, cmpF), (11, AI x.1.1), (12, AI x.1.2)]) (fun x => [(v, rowM x.2)]) (fun x => a + 1 ≤ x.1.1 ∧ x.1.1 ≤ x.1.2 + 2 ∧ a ≤ x.1.2 ∧ x.1.2 ≤ n ∧ AllB x.2 ∧ x.2.size = d.size ∧ r = Sort.partEqLoop ltM a x.1.1 x.1.2 x.2) (fun x => x.1.2 + 2 - x.1.1) ((a + 1, n), sF) ⟨Nat.le_refl _, by show a + 1 ≤ n + 2; omega, by show a ≤ n; omega, Nat.le_refl _, sk, by show sF.size = _; omega, hr⟩ ?_ (OSub.refl _) ?_
  · exact subQ
  · rintro ⟨⟨i, j⟩, e⟩ ⟨k0, k1, k2, k3, k4, k5, k6⟩
    simp only at k0 k1 k2 k3 k4 k5 k6
    dsimp only
    rw [Sort.partEqLoop_eq] at k6
    clear hr
    obtain ⟨u1, u2, -, -⟩ := Sort.scanUp_spec (fun x => !ltM e[a]! x) e j _ i rfl
    obtain ⟨w1, w2, -, -⟩ := Sort.scanDown_spec (fun x => ltM e[a]! x) e (Sort.scanUp (fun x => !ltM e[a]! x) e j i) j
    generalize hU : Sort.scanUp (fun x => !ltM e[a]! x) e j i = U at *
    generalize hW : Sort.scanDown (fun x => ltM e[a]! x) e U j = W at *
    have u3 : U ≤ j + 2 := by
      rcases Nat.lt_or_ge (j + 1) i with h | h
      · have : U = i := by rw [← hU, Sort.scanUp, if_neg (by simp; omega)]
        omega
      · have := u2 h
        omega
    clear u2 w2
    refine a_block ?_
    refine a_mid (fun st L => GoTo 90 st L (lk [(0, .lit v), (1, AI a), (4, cmpF), (11, AI ((U : Nat) : Int)), (12, AI ((j : Nat) : Int))]) [(v, rowM e)]) ?_ (fun st L h => zgt h ?_)
    · clear k6 hW
      repeat (first | refine gA pk ?_)
      refine zlx (fun x : Nat => [(0, .lit v), (1, AI a), (4, cmpF), (11, AI x), (12, AI ((j : Nat) : Int))]) (fun _ => [(v, rowM e)]) (fun x => i ≤ x ∧ x ≤ j + 2 ∧ Sort.scanUp (fun x => !ltM e[a]! x) e j x = U) (fun x => j + 2 - x) i ⟨Nat.le_refl _, by omega, hU⟩ ?_ (OSub.refl _) ?_
      · exact subQ
      · rintro i ⟨h1, h2, h3⟩
        rw [Sort.scanUp] at h3
        change (if (decide (i ≤ j) && !decide (cmpM e[a]! e[i]! < 0)) = true then _ else i) = U at h3
        by_cases hi : i ≤ j
        · rw [decide_eq_true hi, Bool.true_and] at h3
          have c1 := zat (d := e) (z := (a : Int)) (j := a) (by omega) (by omega)
          have c2 := zat (d := e) (z := (i : Int)) (j := i) (by omega) (by omega)
          have cc := icmp e k4 (a) (i)
          have cl : ltM e[a]! e[i]! = decide (cmpM e[a]! e[i]! < 0) := rfl
          generalize cmpM e[a]! e[i]! = z at *
          repeat (first | refine gN pk ?_)
          refine zrg ((List.range 17).map fun i => if inL [13] i = true then .eff else if inL [7, 8, 11, 12] i = true then .read else .pure) [] [0, 1, 2, 3, 4, 5, 6, 7, 8, 9, 10, 11, 12, 13, 14, 15, 16] .stop mixed rfl rfl (by decide +kernel) ?_
          by_cases hz : z < 0
          · rw [if_neg (by simp [hz])] at h3
            subst h3
            repeat' (first | (with_reducible show AG _ _ _ _ _ _ _ _ _ _; first | exact zgn | refine zgs ?_ | refine znd ?_ ?_) | (show AMid _ _ _ _; first | refine zmf ?_ | refine zmg (by first | exact OSub.refl _ | exact .drop (OSub.refl _) | exact .drop (.drop (OSub.refl _))) ?_) | refine gY pk ?_ | (show AL _ _ _ _ _ _ _; first | refine zim tok 0 rfl rfl rfl rfl (by decide) rfl rfl rfl rfl rfl rfl (by omega) (by first | omega | (simp only [Array.size_setIfInBounds]; omega)) ?_ | refine zlm tok 0 rfl rfl rfl rfl (by decide) rfl (fun _ _ => rfl) rfl rfl c1 ?_ | refine zlm tok 0 rfl rfl rfl rfl (by decide) rfl (fun _ _ => rfl) rfl rfl c2 ?_ | refine jP cc ?_) | fail)
            repeat (first | refine gA pk ?_)
            exact GoTo.sub (by exact subQ) (OSub.refl _)
          · rw [if_pos (by simp [hz])] at h3
            repeat' (first | (with_reducible show AG _ _ _ _ _ _ _ _ _ _; first | exact zgn | refine zgs ?_ | refine znd ?_ ?_) | (show AMid _ _ _ _; first | refine zmf ?_ | refine zmg (by first | exact OSub.refl _ | exact .drop (OSub.refl _) | exact .drop (.drop (OSub.refl _))) ?_) | refine gY pk ?_ | (show AL _ _ _ _ _ _ _; first | refine zim tok 0 rfl rfl rfl rfl (by decide) rfl rfl rfl rfl rfl rfl (by omega) (by first | omega | (simp only [Array.size_setIfInBounds]; omega)) ?_ | refine zlm tok 0 rfl rfl rfl rfl (by decide) rfl (fun _ _ => rfl) rfl rfl c1 ?_ | refine zlm tok 0 rfl rfl rfl rfl (by decide) rfl (fun _ _ => rfl) rfl rfl c2 ?_ | refine jP cc ?_) | fail)
            repeat (first | refine gA pk ?_)
            exact ⟨i + 1, ⟨by omega, by omega, h3⟩, by omega, by exact subQ, OSub.refl _⟩
        · rw [decide_eq_false hi, Bool.false_and, if_neg (by decide)] at h3
          subst h3
          repeat (first | refine gN pk ?_)
          refine zrg ((List.range 17).map fun i => if inL [13] i = true then .eff else if inL [7, 8, 11, 12] i = true then .read else .pure) [] [0, 1, 2, 3, 4, 5, 6, 7, 8, 9, 10, 11, 12, 13, 14, 15, 16] .stop mixed rfl rfl (by decide +kernel) ?_
          repeat' (first | (with_reducible show AG _ _ _ _ _ _ _ _ _ _; first | exact zgn | refine zgs ?_ | refine znd ?_ ?_) | (show AMid _ _ _ _; first | refine zmf ?_ | refine zmg (by first | exact OSub.refl _ | exact .drop (OSub.refl _) | exact .drop (.drop (OSub.refl _))) ?_) | refine gY pk ?_ | fail)
          repeat (first | refine gA pk ?_)
          exact GoTo.sub (by exact subQ) (OSub.refl _)
    refine a_mid (fun st L => GoTo 90 st L (lk [(0, .lit v), (1, AI a), (4, cmpF), (11, AI ((U : Nat) : Int)), (12, AI ((W : Nat) : Int))]) [(v, rowM e)]) ?_ (fun st L h => zgt h ?_)
    · clear k6 hU
      repeat (first | refine gA pk ?_)
      refine zlx (fun x : Nat => [(0, .lit v), (1, AI a), (4, cmpF), (11, AI ((U : Nat) : Int)), (12, AI x)]) (fun _ => [(v, rowM e)]) (fun x => x ≤ j ∧ U ≤ x + 2 ∧ Sort.scanDown (fun x => ltM e[a]! x) e U x = W) (fun x => x) j ⟨Nat.le_refl _, by omega, hW⟩ ?_ (OSub.refl _) ?_
      · exact subQ
      · rintro j ⟨h1, h2, h3⟩
        by_cases hi : U ≤ j
        · obtain ⟨j, rfl⟩ : ∃ j', j = j' + 1 := ⟨j - 1, by omega⟩
          rw [Sort.scanDown] at h3
          change (if (decide (U ≤ j + 1) && decide (cmpM e[a]! e[j + 1]! < 0)) = true then _ else j + 1) = W at h3
          rw [decide_eq_true hi, Bool.true_and] at h3
          have c1 := zat (d := e) (z := (a : Int)) (j := a) (by omega) (by omega)
          have c2 := zat (d := e) (z := ((j + 1 : Nat) : Int)) (j := j + 1) (by omega) (by omega)
          have cc := icmp e k4 (a) (j + 1)
          have cl : ltM e[a]! e[j + 1]! = decide (cmpM e[a]! e[j + 1]! < 0) := rfl
          generalize cmpM e[a]! e[j + 1]! = z at *
          repeat (first | refine gN pk ?_)
          refine zrg ((List.range 16).map fun i => if inL [13] i = true then .eff else if inL [7, 8, 11, 12] i = true then .read else .pure) [] [0, 1, 2, 3, 4, 5, 6, 7, 8, 9, 10, 11, 12, 13, 14, 15] .stop mixed rfl rfl (by decide +kernel) ?_
          by_cases hz : z < 0
          · rw [if_pos (by simp [hz])] at h3
            repeat' (first | (with_reducible show AG _ _ _ _ _ _ _ _ _ _; first | exact zgn | refine zgs ?_ | refine znd ?_ ?_) | (show AMid _ _ _ _; first | refine zmf ?_ | refine zmg (by first | exact OSub.refl _ | exact .drop (OSub.refl _) | exact .drop (.drop (OSub.refl _))) ?_) | refine gY pk ?_ | (show AL _ _ _ _ _ _ _; first | refine zim tok 0 rfl rfl rfl rfl (by decide) rfl rfl rfl rfl rfl rfl (by omega) (by first | omega | (simp only [Array.size_setIfInBounds]; omega)) ?_ | refine zlm tok 0 rfl rfl rfl rfl (by decide) rfl (fun _ _ => rfl) rfl rfl c1 ?_ | refine zlm tok 0 rfl rfl rfl rfl (by decide) rfl (fun _ _ => rfl) rfl rfl c2 ?_ | refine jP cc ?_) | fail)
            repeat (first | refine gA pk ?_)
            refine ⟨j, ⟨by omega, by omega, h3⟩, by omega, ?_, OSub.refl _⟩
            rw [show (((j + 1 : Nat) : Int) - 1) = j by omega]
            exact subQ
          · rw [if_neg (by simp [hz])] at h3
            subst h3
            repeat' (first | (with_reducible show AG _ _ _ _ _ _ _ _ _ _; first | exact zgn | refine zgs ?_ | refine znd ?_ ?_) | (show AMid _ _ _ _; first | refine zmf ?_ | refine zmg (by first | exact OSub.refl _ | exact .drop (OSub.refl _) | exact .drop (.drop (OSub.refl _))) ?_) | refine gY pk ?_ | (show AL _ _ _ _ _ _ _; first | refine zim tok 0 rfl rfl rfl rfl (by decide) rfl rfl rfl rfl rfl rfl (by omega) (by first | omega | (simp only [Array.size_setIfInBounds]; omega)) ?_ | refine zlm tok 0 rfl rfl rfl rfl (by decide) rfl (fun _ _ => rfl) rfl rfl c1 ?_ | refine zlm tok 0 rfl rfl rfl rfl (by decide) rfl (fun _ _ => rfl) rfl rfl c2 ?_ | refine jP cc ?_) | fail)
            repeat (first | refine gA pk ?_)
            exact GoTo.sub (by exact subQ) (OSub.refl _)
        · have h4 : Sort.scanDown (fun x => ltM e[a]! x) e U j = j := by
            cases j with
            | zero => rfl
            | succ j => rw [Sort.scanDown, decide_eq_false hi, Bool.false_and, if_neg (by decide)]
          rw [h4] at h3
          subst h3
          repeat (first | refine gN pk ?_)
          refine zrg ((List.range 16).map fun i => if inL [13] i = true then .eff else if inL [7, 8, 11, 12] i = true then .read else .pure) [] [0, 1, 2, 3, 4, 5, 6, 7, 8, 9, 10, 11, 12, 13, 14, 15] .stop mixed rfl rfl (by decide +kernel) ?_
          repeat' (first | (with_reducible show AG _ _ _ _ _ _ _ _ _ _; first | exact zgn | refine zgs ?_ | refine znd ?_ ?_) | (show AMid _ _ _ _; first | refine zmf ?_ | refine zmg (by first | exact OSub.refl _ | exact .drop (OSub.refl _) | exact .drop (.drop (OSub.refl _))) ?_) | refine gY pk ?_ | fail)
          repeat (first | refine gA pk ?_)
          exact GoTo.sub (by exact subQ) (OSub.refl _)
    clear hU
    by_cases hUW : U > W
    · rw [if_pos hUW] at k6
      subst k6
      repeat (first | refine gA pk ?_)
      exact fin (x := AI U) (.inr rfl) rfl (Sub.refl _) ⟨rfl, rfl⟩ (OSub.refl _)
    · rw [if_neg hUW] at k6
      have q1 := zat (d := e) (z := (U : Int)) (j := U) (by omega) (by omega)
      have q2 := zat (d := e) (z := (W : Int)) (j := W) (by omega) (by omega)
      have qe1 : ((U : Int) : Int).toNat = U := by omega
      have qe2 : ((W : Int) : Int).toNat = W := by omega
      have qw : (e.setIfInBounds (U) e[W]!).setIfInBounds (W) e[U]! = Sort.swp e (U) (W) := rfl
      have qk := k4.swp (U) (W)
      have qn := zsw e (U) (W)
      generalize Sort.swp e (U) (W) = qF at *
      generalize e[U]! = qx at *
      generalize e[W]! = qy at *
      repeat (first | refine gN pk ?_)
      refine zrg ((List.range 16).map fun i => if inL [13, 15] i = true then .eff else if inL [6, 7, 10, 11, 12, 14] i = true then .read else .pure) [] [0, 1, 2, 3, 4, 5, 6, 7, 8, 9, 10, 11, 12, 13, 14, 15] .stop mixed rfl rfl (by decide +kernel) ?_
      repeat' (first | (with_reducible show AG _ _ _ _ _ _ _ _ _ _; first | exact zgn | refine zgs ?_ | refine znd ?_ ?_) | (show AMid _ _ _ _; first | refine zmf ?_ | refine zmg (by first | exact OSub.refl _ | exact .drop (OSub.refl _) | exact .drop (.drop (OSub.refl _))) ?_) | refine gY pk ?_ | (show AL _ _ _ _ _ _ _; first | refine zim tok 0 rfl rfl rfl rfl (by decide) rfl rfl rfl rfl rfl rfl (by omega) (by first | omega | (simp only [Array.size_setIfInBounds]; omega)) ?_ | refine zlm tok 0 rfl rfl rfl rfl (by decide) rfl (fun _ _ => rfl) rfl rfl q1 ?_ | refine zlm tok 0 rfl rfl rfl rfl (by decide) rfl (fun _ _ => rfl) rfl rfl q2 ?_ | refine s_storeMo tok 0 rfl rfl rfl rfl rfl rfl rfl rfl (by first | omega | (simp only [Array.size_setIfInBounds]; omega)) ?_) | fail)
      rw [qe1, qe2, qw]
      repeat (first | refine gA pk ?_)
      refine ⟨((U + 1, W - 1), qF), ⟨by show a + 1 ≤ U + 1; omega, by show U + 1 ≤ W - 1 + 2; omega, by show a ≤ W - 1; omega, by show W - 1 ≤ n; omega, qk, by show qF.size = _; omega, k6⟩, by show W - 1 + 2 - (U + 1) < j + 2 - i; omega, ?_, OSub.refl _⟩
      rw [show ((W : Int) - 1) = ((W - 1 : Nat) : Int) by omega]
      exact subQ
end Go.Proofs.YtimfponihbfimaaGreat
end
