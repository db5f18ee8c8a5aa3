/- Parts of a proof. -/
import Derived.Test.YtimfponihbfimaaGreatP32
set_option linter.unusedVariables false
set_option linter.unusedSimpArgs false
section
namespace Go.Proofs.YtimfponihbfimaaGreat
open Go.Sj Go.Sj.Typ Go.Sj.Sta Go.Sj.Inc
set_option maxRecDepth 8000
set_option maxHeartbeats 16000000
theorem scanS_rng (d : Array Mo) (b : Nat) : ∀ (m i : Nat), b - i ≤ m → i ≤ b → i ≤ Sort.scanSorted ltM d b i ∧ Sort.scanSorted ltM d b i ≤ b
  | 0, i, h, hi => by
    rw [Sort.scanSorted, if_neg (by simp; omega)]
    omega
  | m + 1, i, h, hi => by
    rw [Sort.scanSorted]
    split
    · rename_i hc
      simp only [Bool.and_eq_true, decide_eq_true_eq] at hc
      have := scanS_rng d b m (i + 1) (by omega) (by omega)
      omega
    · omega
theorem shD_ok : ∀ (j : Nat) (d : Array Mo), AllB d → AllB (Sort.shiftDown ltM j d) ∧ (Sort.shiftDown ltM j d).size = d.size
  | 0, d, hd => ⟨hd, rfl⟩
  | j + 1, d, hd => by
    rw [Sort.shiftDown]
    split
    · exact ⟨hd, rfl⟩
    · have := shD_ok j _ (hd.swp (j + 1) j)
      exact ⟨this.1, by rw [this.2, zsw]⟩
theorem shU_ok (b : Nat) : ∀ (m j : Nat) (d : Array Mo), b - j ≤ m → AllB d → AllB (Sort.shiftUp ltM b j d) ∧ (Sort.shiftUp ltM b j d).size = d.size
  | 0, j, d, h, hd => by
    rw [Sort.shiftUp, if_neg (by omega)]
    exact ⟨hd, rfl⟩
  | m + 1, j, d, h, hd => by
    rw [Sort.shiftUp]
    split
    · split
      · exact ⟨hd, rfl⟩
      · have := shU_ok b m (j + 1) _ (by omega) (hd.swp j (j - 1))
        exact ⟨this.1, by rw [this.2, zsw]⟩
    · exact ⟨hd, rfl⟩
theorem pins_spec (d : Array Mo) (hd : AllB d) (a b : Nat) (hab : a < b) (hb : b ≤ d.size) (v : Value) :
    ACalls Tryz.prog 129 [.lit v, AI a, AI b, cmpF] [(v, rowM d)] (fun y M => y = AB (Sort.partialInsertionSort ltM d a b).2 ∧ M = [(v, rowM (Sort.partialInsertionSort ltM d a b).1)]) := by
  have hn := hd.n
  have hr : Sort.partialInsertionSort ltM d a b = Sort.partialIns ltM a b 5 (a + 1) d := rfl
  generalize Sort.partialInsertionSort ltM d a b = r at *
  refine zen Tryz.func129 (by kernel_rfl) rfl Tryz.ntmps129 rfl (by simp) ?_
  repeat (first | refine gA pk ?_)
  refine zlx (fun x : (Nat × Nat) × Array Mo => [(0, .lit v), (1, AI a), (2, AI b), (3, cmpF), (9, AI x.1.2), (10, AI (5 - (x.1.1 : Int)))]) (fun x => [(v, rowM x.2)]) (fun x => x.1.1 ≤ 5 ∧ a + 1 ≤ x.1.2 ∧ x.1.2 ≤ b ∧ AllB x.2 ∧ x.2.size = d.size ∧ r = Sort.partialIns ltM a b x.1.1 x.1.2 x.2) (fun x => x.1.1) ((5, a + 1), d) ⟨Nat.le_refl _, Nat.le_refl _, by show a + 1 ≤ b; omega, hd, rfl, hr⟩ ?_ (OSub.refl _) ?_
  · exact subQ
  · rintro ⟨⟨s, i⟩, e⟩ ⟨k0, k1, k2, k3, k4, k5⟩
    simp only at k0 k1 k2 k3 k4 k5
    dsimp only
    clear hr
    cases s with
    | zero =>
      rw [Sort.partialIns] at k5
      subst k5
      repeat (first | refine gA pk ?_)
      exact fin (x := AB false) (.inr rfl) rfl (Sub.refl _) ⟨rfl, rfl⟩ (OSub.refl _)
    | succ s =>
      rw [Sort.partialIns] at k5
      simp only at k5
      have hS := scanS_rng e b _ i (Nat.le_refl _) k2
      generalize hI : Sort.scanSorted ltM e b i = I at *
      obtain ⟨u1, u2⟩ := hS
      refine a_seq ?_
      refine a_seq ?_
      refine a_reg ?_
      repeat (first | refine gY pk ?_)
      refine a_condT rfl ?_
      refine a_skip ?_
      refine a_seq ?_
      refine a_block ?_
      refine a_mid (fun st L => GoTo 141 st L (lk [(0, .lit v), (1, AI a), (2, AI b), (3, cmpF), (9, AI I), (10, AI (5 - ((s + 1 : Nat) : Int)))]) [(v, rowM e)]) ?_ (fun st L h => zgt h ?_)
      · clear k5
        repeat (first | refine gA pk ?_)
        refine zlx (fun x : Nat => [(0, .lit v), (1, AI a), (2, AI b), (3, cmpF), (9, AI x), (10, AI (5 - ((s + 1 : Nat) : Int)))]) (fun _ => [(v, rowM e)]) (fun x => i ≤ x ∧ x ≤ b ∧ Sort.scanSorted ltM e b x = I) (fun x => b - x) i ⟨Nat.le_refl _, k2, hI⟩ ?_ (OSub.refl _) ?_
        · exact subQ
        · rintro x ⟨h1, h2, h3⟩
          rw [Sort.scanSorted] at h3
          change (if (decide (x < b) && !decide (cmpM e[x]! e[x - 1]! < 0)) = true then _ else x) = I at h3
          by_cases hi : x < b
          · rw [decide_eq_true hi, Bool.true_and] at h3
            have c1 := zat (d := e) (z := (x : Int)) (j := x) (by omega) (by omega)
            have c2 := zat (d := e) (z := ((x : Int) - 1)) (j := x - 1) (by omega) (by omega)
            have cc := icmp e k3 (x) (x - 1)
            have cl : ltM e[x]! e[x - 1]! = decide (cmpM e[x]! e[x - 1]! < 0) := rfl
            generalize cmpM e[x]! e[x - 1]! = z at *
            repeat (first | refine gN pk ?_)
            refine zrg ((List.range 18).map fun i => if inL [14] i = true then .eff else if inL [7, 8, 12, 13] i = true then .read else .pure) [] [0, 1, 2, 3, 4, 5, 6, 7, 8, 9, 10, 11, 12, 13, 14, 15, 16, 17] .stop mixed rfl rfl (by decide +kernel) ?_
            by_cases hz : z < 0
            · rw [if_neg (by simp [hz])] at h3
              subst h3
              repeat' (first | (with_reducible show AG _ _ _ _ _ _ _ _ _ _; first | exact zgn | refine zgs ?_ | refine znd ?_ ?_) | (show AMid _ _ _ _; first | refine zmf ?_ | refine zmg (by first | exact OSub.refl _ | exact .drop (OSub.refl _) | exact .drop (.drop (OSub.refl _))) ?_) | refine gY pk ?_ | (show AL _ _ _ _ _ _ _; first | refine zim tok 0 rfl rfl rfl rfl (by decide) rfl rfl rfl rfl rfl rfl (by omega) (by first | omega | (simp only [Array.size_setIfInBounds]; omega)) ?_ | refine zlm tok 0 rfl rfl rfl rfl (by decide) rfl (fun _ _ => rfl) rfl rfl c1 ?_ | refine zlm tok 0 rfl rfl rfl rfl (by decide) rfl (fun _ _ => rfl) rfl rfl c2 ?_ | refine jP cc ?_) | fail)
              repeat (first | refine gA pk ?_)
              exact GoTo.sub (by exact subQ) (OSub.refl _)
            · rw [if_pos (by simp [hz])] at h3
              repeat' (first | (with_reducible show AG _ _ _ _ _ _ _ _ _ _; first | exact zgn | refine zgs ?_ | refine znd ?_ ?_) | (show AMid _ _ _ _; first | refine zmf ?_ | refine zmg (by first | exact OSub.refl _ | exact .drop (OSub.refl _) | exact .drop (.drop (OSub.refl _))) ?_) | refine gY pk ?_ | (show AL _ _ _ _ _ _ _; first | refine zim tok 0 rfl rfl rfl rfl (by decide) rfl rfl rfl rfl rfl rfl (by omega) (by first | omega | (simp only [Array.size_setIfInBounds]; omega)) ?_ | refine zlm tok 0 rfl rfl rfl rfl (by decide) rfl (fun _ _ => rfl) rfl rfl c1 ?_ | refine zlm tok 0 rfl rfl rfl rfl (by decide) rfl (fun _ _ => rfl) rfl rfl c2 ?_ | refine jP cc ?_) | fail)
              repeat (first | refine gA pk ?_)
              exact ⟨x + 1, ⟨by omega, by omega, h3⟩, by omega, by exact subQ, OSub.refl _⟩
          · rw [decide_eq_false hi, Bool.false_and, if_neg (by decide)] at h3
            subst h3
            repeat (first | refine gN pk ?_)
            refine zrg ((List.range 18).map fun i => if inL [14] i = true then .eff else if inL [7, 8, 12, 13] i = true then .read else .pure) [] [0, 1, 2, 3, 4, 5, 6, 7, 8, 9, 10, 11, 12, 13, 14, 15, 16, 17] .stop mixed rfl rfl (by decide +kernel) ?_
            repeat' (first | (with_reducible show AG _ _ _ _ _ _ _ _ _ _; first | exact zgn | refine zgs ?_ | refine znd ?_ ?_) | (show AMid _ _ _ _; first | refine zmf ?_ | refine zmg (by first | exact OSub.refl _ | exact .drop (OSub.refl _) | exact .drop (.drop (OSub.refl _))) ?_) | refine gY pk ?_ | fail)
            repeat (first | refine gA pk ?_)
            exact GoTo.sub (by exact subQ) (OSub.refl _)
      clear hI
      by_cases hIb : I = b
      · rw [if_pos hIb] at k5
        subst k5
        repeat (first | refine gA pk ?_)
        exact fin (x := AB true) (.inr rfl) rfl (Sub.refl _) ⟨rfl, rfl⟩ (OSub.refl _)
      rw [if_neg hIb] at k5
      by_cases h50 : b - a < 50
      · rw [if_pos h50] at k5
        subst k5
        repeat (first | refine gA pk ?_)
        exact fin (x := AB false) (.inr rfl) rfl (Sub.refl _) ⟨rfl, rfl⟩ (OSub.refl _)
      rw [if_neg h50] at k5
      have s1 := zat (d := e) (z := (I : Int)) (j := I) (by omega) (by omega)
      have s2 := zat (d := e) (z := ((I : Int) - 1)) (j := I - 1) (by omega) (by omega)
      have se1 : ((I : Int) : Int).toNat = I := by omega
      have se2 : (((I : Int) - 1) : Int).toNat = I - 1 := by omega
      have sw : (e.setIfInBounds (I) e[I - 1]!).setIfInBounds (I - 1) e[I]! = Sort.swp e (I) (I - 1) := rfl
      have sk := k3.swp (I) (I - 1)
      have sn := zsw e (I) (I - 1)
      generalize Sort.swp e (I) (I - 1) = sF at *
      generalize e[I]! = sx at *
      generalize e[I - 1]! = sy at *
      repeat (first | refine gN pk ?_)
      refine zrg ((List.range 18).map fun i => if inL [15, 17] i = true then .eff else if inL [8, 9, 12, 13, 14, 16] i = true then .read else .pure) [] [0, 1, 2, 3, 4, 5, 6, 7, 8, 9, 10, 11, 12, 13, 14, 15, 16, 17] .stop mixed rfl rfl (by decide +kernel) ?_
      repeat' (first | (with_reducible show AG _ _ _ _ _ _ _ _ _ _; first | exact zgn | refine zgs ?_ | refine znd ?_ ?_) | (show AMid _ _ _ _; first | refine zmf ?_ | refine zmg (by first | exact OSub.refl _ | exact .drop (OSub.refl _) | exact .drop (.drop (OSub.refl _))) ?_) | refine gY pk ?_ | (show AL _ _ _ _ _ _ _; first | refine zim tok 0 rfl rfl rfl rfl (by decide) rfl rfl rfl rfl rfl rfl (by omega) (by first | omega | (simp only [Array.size_setIfInBounds]; omega)) ?_ | refine zlm tok 0 rfl rfl rfl rfl (by decide) rfl (fun _ _ => rfl) rfl rfl s1 ?_ | refine zlm tok 0 rfl rfl rfl rfl (by decide) rfl (fun _ _ => rfl) rfl rfl s2 ?_ | refine s_storeMo tok 0 rfl rfl rfl rfl rfl rfl rfl rfl (by first | omega | (simp only [Array.size_setIfInBounds]; omega)) ?_) | fail)
      rw [se1, se2, sw]
      clear se1 se2 sw s1 s2
      generalize hD1 : (if I - a ≥ 2 then Sort.shiftDown ltM (I - 1) sF else sF) = D1 at k5
      generalize hD2 : (if b - I ≥ 2 then Sort.shiftUp ltM b (I + 1) D1 else D1) = D2 at k5
      have o1 : AllB D1 ∧ D1.size = d.size := by
        rw [← hD1]
        split
        · have := shD_ok (I - 1) sF sk
          exact ⟨this.1, by omega⟩
        · exact ⟨sk, by omega⟩
      have o2 : AllB D2 ∧ D2.size = d.size := by
        rw [← hD2]
        split
        · have := shU_ok b _ (I + 1) D1 (Nat.le_refl _) o1.1
          exact ⟨this.1, by omega⟩
        · exact o1
      refine a_mid (fun st L => GoTo 141 st L (lk [(0, .lit v), (1, AI a), (2, AI b), (3, cmpF), (9, AI I), (10, AI (5 - ((s + 1 : Nat) : Int)))]) [(v, rowM D1)]) ?_ (fun st L h => zgt h ?_)
      · clear k5 hD2 o2
        by_cases h : I - a ≥ 2
        · rw [if_pos h] at hD1
          repeat (first | refine gA pk ?_)
          rw [show ((I : Int) - 1) = ((I - 1 : Nat) : Int) by omega]
          refine zlx (fun x : Nat × Array Mo => [(0, .lit v), (1, AI a), (2, AI b), (3, cmpF), (9, AI I), (10, AI (5 - ((s + 1 : Nat) : Int))), (11, AI x.1)]) (fun x => [(v, rowM x.2)]) (fun x => x.1 ≤ I - 1 ∧ AllB x.2 ∧ x.2.size = d.size ∧ Sort.shiftDown ltM x.1 x.2 = D1) (fun x => x.1) (I - 1, sF) ⟨Nat.le_refl _, sk, by show sF.size = _; omega, hD1⟩ ?_ (OSub.refl _) ?_
          · exact subQ
          · rintro ⟨j, f⟩ ⟨m1, m2, m3, m4⟩
            simp only at m1 m2 m3 m4
            dsimp only
            cases j with
            | zero =>
              rw [Sort.shiftDown] at m4
              subst m4
              repeat (first | refine gA pk ?_)
              exact GoTo.sub (by exact subQ) (OSub.refl _)
            | succ j =>
              rw [Sort.shiftDown] at m4
              have c1 := zat (d := f) (z := ((j + 1 : Nat) : Int)) (j := j + 1) (by omega) (by omega)
              have c2 := zat (d := f) (z := (((j + 1 : Nat) : Int) - 1)) (j := j) (by omega) (by omega)
              have cc := icmp f m2 (j + 1) (j)
              have cl : ltM f[j + 1]! f[j]! = decide (cmpM f[j + 1]! f[j]! < 0) := rfl
              rw [cl] at m4
              generalize hz : cmpM f[j + 1]! f[j]! = z at *
              by_cases hz0 : z < 0
              · rw [if_neg (by simp [hz0])] at m4
                repeat (first | refine gN pk ?_)
                refine zrg ((List.range 13).map fun i => if inL [10] i = true then .eff else if inL [3, 4, 8, 9] i = true then .read else .pure) [] [0, 1, 2, 3, 4, 5, 6, 7, 8, 9, 10, 11, 12] .stop mixed rfl rfl (by decide +kernel) ?_
                repeat' (first | (with_reducible show AG _ _ _ _ _ _ _ _ _ _; first | exact zgn | refine zgs ?_ | refine znd ?_ ?_) | (show AMid _ _ _ _; first | refine zmf ?_ | refine zmg (by first | exact OSub.refl _ | exact .drop (OSub.refl _) | exact .drop (.drop (OSub.refl _))) ?_) | refine gY pk ?_ | (show AL _ _ _ _ _ _ _; first | refine zim tok 0 rfl rfl rfl rfl (by decide) rfl rfl rfl rfl rfl rfl (by omega) (by first | omega | (simp only [Array.size_setIfInBounds]; omega)) ?_ | refine zlm tok 0 rfl rfl rfl rfl (by decide) rfl (fun _ _ => rfl) rfl rfl c1 ?_ | refine zlm tok 0 rfl rfl rfl rfl (by decide) rfl (fun _ _ => rfl) rfl rfl c2 ?_ | refine jP cc ?_) | fail)
                clear cl cc hz c1 c2
                have q1 := zat (d := f) (z := ((j + 1 : Nat) : Int)) (j := j + 1) (by omega) (by omega)
                have q2 := zat (d := f) (z := (((j + 1 : Nat) : Int) - 1)) (j := j) (by omega) (by omega)
                have qe1 : (((j + 1 : Nat) : Int) : Int).toNat = j + 1 := by omega
                have qe2 : ((((j + 1 : Nat) : Int) - 1) : Int).toNat = j := by omega
                have qw : (f.setIfInBounds (j + 1) f[j]!).setIfInBounds (j) f[j + 1]! = Sort.swp f (j + 1) (j) := rfl
                have qk := m2.swp (j + 1) (j)
                have qn := zsw f (j + 1) (j)
                generalize Sort.swp f (j + 1) (j) = qF at *
                generalize f[j + 1]! = qx at *
                generalize f[j]! = qy at *
                repeat (first | refine gN pk ?_)
                refine zrg ((List.range 18).map fun i => if inL [15, 17] i = true then .eff else if inL [8, 9, 12, 13, 14, 16] i = true then .read else .pure) [] [0, 1, 2, 3, 4, 5, 6, 7, 8, 9, 10, 11, 12, 13, 14, 15, 16, 17] .stop mixed rfl rfl (by decide +kernel) ?_
                repeat' (first | (with_reducible show AG _ _ _ _ _ _ _ _ _ _; first | exact zgn | refine zgs ?_ | refine znd ?_ ?_) | (show AMid _ _ _ _; first | refine zmf ?_ | refine zmg (by first | exact OSub.refl _ | exact .drop (OSub.refl _) | exact .drop (.drop (OSub.refl _))) ?_) | refine gY pk ?_ | (show AL _ _ _ _ _ _ _; first | refine zim tok 0 rfl rfl rfl rfl (by decide) rfl rfl rfl rfl rfl rfl (by omega) (by first | omega | (simp only [Array.size_setIfInBounds]; omega)) ?_ | refine zlm tok 0 rfl rfl rfl rfl (by decide) rfl (fun _ _ => rfl) rfl rfl q1 ?_ | refine zlm tok 0 rfl rfl rfl rfl (by decide) rfl (fun _ _ => rfl) rfl rfl q2 ?_ | refine s_storeMo tok 0 rfl rfl rfl rfl rfl rfl rfl rfl (by first | omega | (simp only [Array.size_setIfInBounds]; omega)) ?_) | fail)
                rw [qe1, qe2, qw]
                repeat (first | refine gA pk ?_)
                refine ⟨(j, qF), ⟨by show j ≤ I - 1; omega, qk, by show qF.size = _; omega, m4⟩, by show j < j + 1; omega, ?_, OSub.refl _⟩
                rw [show (((j + 1 : Nat) : Int) - 1) = j by omega]
                exact subQ
              · rw [if_pos (by simp [hz0])] at m4
                subst m4
                repeat (first | refine gN pk ?_)
                refine zrg ((List.range 13).map fun i => if inL [10] i = true then .eff else if inL [3, 4, 8, 9] i = true then .read else .pure) [] [0, 1, 2, 3, 4, 5, 6, 7, 8, 9, 10, 11, 12] .stop mixed rfl rfl (by decide +kernel) ?_
                repeat' (first | (with_reducible show AG _ _ _ _ _ _ _ _ _ _; first | exact zgn | refine zgs ?_ | refine znd ?_ ?_) | (show AMid _ _ _ _; first | refine zmf ?_ | refine zmg (by first | exact OSub.refl _ | exact .drop (OSub.refl _) | exact .drop (.drop (OSub.refl _))) ?_) | refine gY pk ?_ | (show AL _ _ _ _ _ _ _; first | refine zim tok 0 rfl rfl rfl rfl (by decide) rfl rfl rfl rfl rfl rfl (by omega) (by first | omega | (simp only [Array.size_setIfInBounds]; omega)) ?_ | refine zlm tok 0 rfl rfl rfl rfl (by decide) rfl (fun _ _ => rfl) rfl rfl c1 ?_ | refine zlm tok 0 rfl rfl rfl rfl (by decide) rfl (fun _ _ => rfl) rfl rfl c2 ?_ | refine jP cc ?_) | fail)
                repeat (first | refine gA pk ?_)
                exact GoTo.sub (by exact subQ) (OSub.refl _)
        · rw [if_neg h] at hD1
          subst hD1
          repeat (first | refine gA pk ?_)
          exact GoTo.sub (by exact subQ) (OSub.refl _)
      clear hD1
      obtain ⟨o3, o4⟩ := o1
      refine a_mid (fun st L => GoTo 141 st L (lk [(0, .lit v), (1, AI a), (2, AI b), (3, cmpF), (9, AI I), (10, AI (5 - ((s + 1 : Nat) : Int))), (104, AB (decide (b - I ≥ 2)))]) [(v, rowM D1)]) ?_ (fun st L h => zgt h ?_)
      · clear k5 o2 hD2
        by_cases h : b - I ≥ 2
        · rw [decide_eq_true h]
          repeat (first | refine gA pk ?_)
          exact GoTo.sub (by exact subQ) (OSub.refl _)
        · rw [decide_eq_false h]
          repeat (first | refine gA pk ?_)
          exact GoTo.sub (by exact subQ) (OSub.refl _)
      refine AWp.mono (Q := fun e st L => e = .normal ∧ GoTo 141 st L (lk [(0, .lit v), (1, AI a), (2, AI b), (3, cmpF), (9, AI I), (10, AI (5 - ((s + 1 : Nat) : Int)))]) [(v, rowM D2)]) ?_ (fun e' st L h => ?_)
      · clear k5 o2
        by_cases h : b - I ≥ 2
        · rw [if_pos h] at hD2
          rw [decide_eq_true h]
          repeat (first | refine gA pk ?_)
          rw [show ((I : Int) + 1) = ((I + 1 : Nat) : Int) by omega]
          refine zlx (fun x : Nat × Array Mo => [(0, .lit v), (1, AI a), (2, AI b), (3, cmpF), (9, AI I), (10, AI (5 - ((s + 1 : Nat) : Int))), (12, AI x.1)]) (fun x => [(v, rowM x.2)]) (fun x => I + 1 ≤ x.1 ∧ x.1 ≤ b ∧ AllB x.2 ∧ x.2.size = d.size ∧ Sort.shiftUp ltM b x.1 x.2 = D2) (fun x => b - x.1) (I + 1, D1) ⟨Nat.le_refl _, by show I + 1 ≤ b; omega, o3, o4, hD2⟩ ?_ (OSub.refl _) ?_
          · exact subQ
          · rintro ⟨j, f⟩ ⟨m1, m5, m2, m3, m4⟩
            simp only at m1 m2 m3 m4 m5
            dsimp only
            rw [Sort.shiftUp] at m4
            by_cases hj : j < b
            · rw [if_pos hj] at m4
              have c1 := zat (d := f) (z := (j : Int)) (j := j) (by omega) (by omega)
              have c2 := zat (d := f) (z := ((j : Int) - 1)) (j := j - 1) (by omega) (by omega)
              have cc := icmp f m2 (j) (j - 1)
              have cl : ltM f[j]! f[j - 1]! = decide (cmpM f[j]! f[j - 1]! < 0) := rfl
              rw [cl] at m4
              generalize hz : cmpM f[j]! f[j - 1]! = z at *
              by_cases hz0 : z < 0
              · rw [if_neg (by simp [hz0])] at m4
                repeat (first | refine gN pk ?_)
                refine zrg ((List.range 13).map fun i => if inL [10] i = true then .eff else if inL [3, 4, 8, 9] i = true then .read else .pure) [] [0, 1, 2, 3, 4, 5, 6, 7, 8, 9, 10, 11, 12] .stop mixed rfl rfl (by decide +kernel) ?_
                repeat' (first | (with_reducible show AG _ _ _ _ _ _ _ _ _ _; first | exact zgn | refine zgs ?_ | refine znd ?_ ?_) | (show AMid _ _ _ _; first | refine zmf ?_ | refine zmg (by first | exact OSub.refl _ | exact .drop (OSub.refl _) | exact .drop (.drop (OSub.refl _))) ?_) | refine gY pk ?_ | (show AL _ _ _ _ _ _ _; first | refine zim tok 0 rfl rfl rfl rfl (by decide) rfl rfl rfl rfl rfl rfl (by omega) (by first | omega | (simp only [Array.size_setIfInBounds]; omega)) ?_ | refine zlm tok 0 rfl rfl rfl rfl (by decide) rfl (fun _ _ => rfl) rfl rfl c1 ?_ | refine zlm tok 0 rfl rfl rfl rfl (by decide) rfl (fun _ _ => rfl) rfl rfl c2 ?_ | refine jP cc ?_) | fail)
                clear cl cc hz c1 c2
                have q1 := zat (d := f) (z := (j : Int)) (j := j) (by omega) (by omega)
                have q2 := zat (d := f) (z := ((j : Int) - 1)) (j := j - 1) (by omega) (by omega)
                have qe1 : ((j : Int) : Int).toNat = j := by omega
                have qe2 : (((j : Int) - 1) : Int).toNat = j - 1 := by omega
                have qw : (f.setIfInBounds (j) f[j - 1]!).setIfInBounds (j - 1) f[j]! = Sort.swp f (j) (j - 1) := rfl
                have qk := m2.swp (j) (j - 1)
                have qn := zsw f (j) (j - 1)
                generalize Sort.swp f (j) (j - 1) = qF at *
                generalize f[j]! = qx at *
                generalize f[j - 1]! = qy at *
                repeat (first | refine gN pk ?_)
                refine zrg ((List.range 18).map fun i => if inL [15, 17] i = true then .eff else if inL [8, 9, 12, 13, 14, 16] i = true then .read else .pure) [] [0, 1, 2, 3, 4, 5, 6, 7, 8, 9, 10, 11, 12, 13, 14, 15, 16, 17] .stop mixed rfl rfl (by decide +kernel) ?_
                repeat' (first | (with_reducible show AG _ _ _ _ _ _ _ _ _ _; first | exact zgn | refine zgs ?_ | refine znd ?_ ?_) | (show AMid _ _ _ _; first | refine zmf ?_ | refine zmg (by first | exact OSub.refl _ | exact .drop (OSub.refl _) | exact .drop (.drop (OSub.refl _))) ?_) | refine gY pk ?_ | (show AL _ _ _ _ _ _ _; first | refine zim tok 0 rfl rfl rfl rfl (by decide) rfl rfl rfl rfl rfl rfl (by omega) (by first | omega | (simp only [Array.size_setIfInBounds]; omega)) ?_ | refine zlm tok 0 rfl rfl rfl rfl (by decide) rfl (fun _ _ => rfl) rfl rfl q1 ?_ | refine zlm tok 0 rfl rfl rfl rfl (by decide) rfl (fun _ _ => rfl) rfl rfl q2 ?_ | refine s_storeMo tok 0 rfl rfl rfl rfl rfl rfl rfl rfl (by first | omega | (simp only [Array.size_setIfInBounds]; omega)) ?_) | fail)
                rw [qe1, qe2, qw]
                repeat (first | refine gA pk ?_)
                refine ⟨(j + 1, qF), ⟨by show I + 1 ≤ j + 1; omega, by show j + 1 ≤ b; omega, qk, by show qF.size = _; omega, m4⟩, by show b - (j + 1) < b - j; omega, ?_, OSub.refl _⟩
                exact subQ
              · rw [if_pos (by simp [hz0])] at m4
                subst m4
                repeat (first | refine gN pk ?_)
                refine zrg ((List.range 13).map fun i => if inL [10] i = true then .eff else if inL [3, 4, 8, 9] i = true then .read else .pure) [] [0, 1, 2, 3, 4, 5, 6, 7, 8, 9, 10, 11, 12] .stop mixed rfl rfl (by decide +kernel) ?_
                repeat' (first | (with_reducible show AG _ _ _ _ _ _ _ _ _ _; first | exact zgn | refine zgs ?_ | refine znd ?_ ?_) | (show AMid _ _ _ _; first | refine zmf ?_ | refine zmg (by first | exact OSub.refl _ | exact .drop (OSub.refl _) | exact .drop (.drop (OSub.refl _))) ?_) | refine gY pk ?_ | (show AL _ _ _ _ _ _ _; first | refine zim tok 0 rfl rfl rfl rfl (by decide) rfl rfl rfl rfl rfl rfl (by omega) (by first | omega | (simp only [Array.size_setIfInBounds]; omega)) ?_ | refine zlm tok 0 rfl rfl rfl rfl (by decide) rfl (fun _ _ => rfl) rfl rfl c1 ?_ | refine zlm tok 0 rfl rfl rfl rfl (by decide) rfl (fun _ _ => rfl) rfl rfl c2 ?_ | refine jP cc ?_) | fail)
                repeat (first | refine gA pk ?_)
                exact ⟨rfl, GoTo.sub (by exact subQ) (OSub.refl _)⟩
            · rw [if_neg hj] at m4
              subst m4
              repeat (first | refine gA pk ?_)
              exact ⟨rfl, GoTo.sub (by exact subQ) (OSub.refl _)⟩
        · rw [if_neg h] at hD2
          subst hD2
          rw [decide_eq_false h]
          repeat (first | refine gA pk ?_)
          exact ⟨rfl, GoTo.sub (by exact subQ) (OSub.refl _)⟩
      obtain ⟨rfl, h⟩ := h
      refine zgt h ?_
      repeat (first | refine gA pk ?_)
      refine ⟨((s, I), D2), ⟨by show s ≤ 5; omega, by show a + 1 ≤ I; omega, u2, o2.1, o2.2, k5⟩, by show s < s + 1; omega, ?_, OSub.refl _⟩
      rw [show (5 - ((s + 1 : Nat) : Int) + 1) = 5 - (s : Int) by omega]
      exact subQ
end Go.Proofs.YtimfponihbfimaaGreat
end
