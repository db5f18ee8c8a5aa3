/- Parts of a proof. -/
import Derived.Test.YtimfponihbfimaaGreatP32
set_option linter.unusedVariables false
set_option linter.unusedSimpArgs false
section
namespace Go.Proofs.YtimfponihbfimaaGreat
open Go.Sj Go.Sj.Typ Go.Sj.Sta Go.Sj.Inc
set_option maxRecDepth 8000
set_option maxHeartbeats 16000000
theorem sift_spec (d : Array Mo) (hd : AllB d) (lo hi first : Nat) (hb : first + hi ≤ d.size) (hlo : lo ≤ 1000000) (v : Value) :
    ACalls Tryz.prog 172 [.lit v, AI lo, AI hi, AI first, cmpF] [(v, rowM d)] (fun y M => y = .tup [] ∧ M = [(v, rowM (Sort.siftDown ltM hi first lo d))]) := by
  have hn := hd.n
  refine zen Tryz.func172 (by kernel_rfl) rfl Tryz.ntmps172 rfl (by simp) ?_
  repeat (first | refine gA pk ?_)
  refine zlx (fun x : Nat × Array Mo => [(0, .lit v), (2, AI hi), (3, AI first), (4, cmpF), (10, AI x.1)]) (fun x => [(v, rowM x.2)]) (fun x => AllB x.2 ∧ x.2.size = d.size ∧ Sort.siftDown ltM hi first x.1 x.2 = Sort.siftDown ltM hi first lo d ∧ x.1 ≤ 1000000) (fun x => hi - x.1) (lo, d) ⟨hd, rfl, rfl, hlo⟩ ?_ (OSub.refl _) ?_
  · exact subQ
  · rintro ⟨root, e⟩ ⟨h2, h3, h4, h5⟩
    simp only at h2 h3 h4 h5
    rw [Sort.siftDown] at h4
    by_cases c0 : 2 * root + 1 ≥ hi
    · rw [dif_pos c0] at h4
      rw [← h4]
      repeat (first | refine gA pk ?_)
      exact fin (x := .tup []) (.inl rfl) rfl (Sub.refl _) ⟨rfl, rfl⟩ (OSub.refl _)
    · rw [dif_neg c0] at h4
      by_cases c1 : 2 * root + 1 + 1 < hi
      · have g1 := zat (d := e) (z := (first : Int) + (2 * (root : Int) + 1)) (j := first + (2 * root + 1)) (by omega) (by omega)
        have g2 := zat (d := e) (z := (first : Int) + (2 * (root : Int) + 1) + 1) (j := first + (2 * root + 1) + 1) (by omega) (by omega)
        have hc := icmp e h2 (first + (2 * root + 1)) (first + (2 * root + 1) + 1)
        have hl : (decide (2 * root + 1 + 1 < hi) && ltM e[first + (2 * root + 1)]! e[first + (2 * root + 1) + 1]!) = decide (cmpM e[first + (2 * root + 1)]! e[first + (2 * root + 1) + 1]! < 0) := by rw [decide_eq_true c1, Bool.true_and]; rfl
        rw [hl] at h4
        clear hl
        generalize hz1 : cmpM e[first + (2 * root + 1)]! e[first + (2 * root + 1) + 1]! = z1 at *
        repeat (first | refine gN pk ?_)
        refine zrg ((List.range 22).map fun i => if inL [19] i = true then .eff else if inL [10, 11, 17, 18] i = true then .read else .pure) [] [0, 1, 2, 3, 4, 5, 6, 7, 8, 9, 10, 11, 12, 13, 14, 15, 16, 17, 18, 19, 20, 21] .stop mixed rfl rfl (by decide +kernel) ?_
        repeat' (first | (with_reducible show AG _ _ _ _ _ _ _ _ _ _; first | exact zgn | refine zgs ?_ | refine znd ?_ ?_) | (show AMid _ _ _ _; first | refine zmf ?_ | refine zmg (by first | exact OSub.refl _ | exact .drop (OSub.refl _) | exact .drop (.drop (OSub.refl _))) ?_) | refine gY pk ?_ | (show AL _ _ _ _ _ _ _; first | refine zim tok 0 rfl rfl rfl rfl (by decide) rfl rfl rfl rfl rfl rfl (by omega) (by first | omega | (simp only [Array.size_setIfInBounds]; omega)) ?_ | refine zlm tok 0 rfl rfl rfl rfl (by decide) rfl (fun _ _ => rfl) rfl rfl g1 ?_ | refine zlm tok 0 rfl rfl rfl rfl (by decide) rfl (fun _ _ => rfl) rfl rfl g2 ?_ | refine jP hc ?_) | fail)
        by_cases hz : z1 < 0
        · rw [if_pos (decide_eq_true hz)] at h4
          clear hc hz1 g1 g2
          have g3 := zat (d := e) (z := (first : Int) + (root : Int)) (j := first + root) (by omega) (by omega)
          have g4 := zat (d := e) (z := (first : Int) + (2 * (root : Int) + 1 + 1)) (j := first + (2 * root + 2)) (by omega) (by omega)
          have hc2 := icmp e h2 (first + root) (first + (2 * root + 2))
          have e1 : ((first : Int) + (root : Int)).toNat = first + root := by omega
          have e2 : ((first : Int) + (2 * (root : Int) + 1 + 1)).toNat = first + (2 * root + 2) := by omega
          have hsw : (e.setIfInBounds (first + root) e[first + (2 * root + 2)]!).setIfInBounds (first + (2 * root + 2)) e[first + root]! = Sort.swp e (first + root) (first + (2 * root + 2)) := rfl
          have hk := h2.swp (first + root) (first + (2 * root + 2))
          have hks := zsw e (first + root) (first + (2 * root + 2))
          have hl : (!ltM e[first + root]! e[first + (2 * root + 2)]!) = !decide (cmpM e[first + root]! e[first + (2 * root + 2)]! < 0) := rfl
          rw [hl] at h4
          generalize Sort.swp e (first + root) (first + (2 * root + 2)) = F at *
          generalize e[first + root]! = x2 at *
          generalize e[first + (2 * root + 2)]! = y2 at *
          generalize cmpM x2 y2 = z2 at *
          clear hl
          repeat (first | refine gN pk ?_)
          refine zrg ((List.range 16).map fun i => if inL [13] i = true then .eff else if inL [5, 6, 11, 12] i = true then .read else .pure) [] [0, 1, 2, 3, 4, 5, 6, 7, 8, 9, 10, 11, 12, 13, 14, 15] .stop mixed rfl rfl (by decide +kernel) ?_
          repeat' (first | (with_reducible show AG _ _ _ _ _ _ _ _ _ _; first | exact zgn | refine zgs ?_ | refine znd ?_ ?_) | (show AMid _ _ _ _; first | refine zmf ?_ | refine zmg (by first | exact OSub.refl _ | exact .drop (OSub.refl _) | exact .drop (.drop (OSub.refl _))) ?_) | refine gY pk ?_ | (show AL _ _ _ _ _ _ _; first | refine zim tok 0 rfl rfl rfl rfl (by decide) rfl rfl rfl rfl rfl rfl (by omega) (by first | omega | (simp only [Array.size_setIfInBounds]; omega)) ?_ | refine zlm tok 0 rfl rfl rfl rfl (by decide) rfl (fun _ _ => rfl) rfl rfl g3 ?_ | refine zlm tok 0 rfl rfl rfl rfl (by decide) rfl (fun _ _ => rfl) rfl rfl g4 ?_ | refine jP hc2 ?_) | fail)
          by_cases hz2 : z2 < 0
          · rw [decide_eq_true hz2, if_neg (by decide)] at h4
            rw [dif_pos (by omega)] at h4
            repeat (first | refine gN pk ?_)
            refine zrg ((List.range 24).map fun i => if inL [21, 23] i = true then .eff else if inL [12, 13, 18, 19, 20, 22] i = true then .read else .pure) [] [0, 1, 2, 3, 4, 5, 6, 7, 8, 9, 10, 11, 12, 13, 14, 15, 16, 17, 18, 19, 20, 21, 22, 23] .stop mixed rfl rfl (by decide +kernel) ?_
            repeat' (first | (with_reducible show AG _ _ _ _ _ _ _ _ _ _; first | exact zgn | refine zgs ?_ | refine znd ?_ ?_) | (show AMid _ _ _ _; first | refine zmf ?_ | refine zmg (by first | exact OSub.refl _ | exact .drop (OSub.refl _) | exact .drop (.drop (OSub.refl _))) ?_) | refine gY pk ?_ | (show AL _ _ _ _ _ _ _; first | refine zim tok 0 rfl rfl rfl rfl (by decide) rfl rfl rfl rfl rfl rfl (by omega) (by first | omega | (simp only [Array.size_setIfInBounds]; omega)) ?_ | refine zlm tok 0 rfl rfl rfl rfl (by decide) rfl (fun _ _ => rfl) rfl rfl g3 ?_ | refine zlm tok 0 rfl rfl rfl rfl (by decide) rfl (fun _ _ => rfl) rfl rfl g4 ?_ | refine s_storeMo tok 0 rfl rfl rfl rfl rfl rfl rfl rfl (by first | omega | (simp only [Array.size_setIfInBounds]; omega)) ?_) | fail)
            rw [e1, e2, hsw]
            repeat (first | refine gA pk ?_)
            refine ⟨(2 * root + 2, F), ⟨hk, by show F.size = _; omega, h4, by show 2 * root + 2 ≤ 1000000; omega⟩, by show hi - (2 * root + 2) < hi - root; omega, ?_, OSub.refl _⟩
            rw [show (2 * (root : Int) + 1 + 1 : Int) = ((2 * root + 2 : Nat) : Int) by omega]
            exact subQ
          · rw [decide_eq_false hz2, if_pos (by decide)] at h4
            rw [h4]
            repeat (first | refine gA pk ?_)
            exact fin (x := .tup []) (.inr rfl) rfl (Sub.refl _) ⟨rfl, rfl⟩ (OSub.refl _)
        · rw [if_neg (by rw [decide_eq_false hz]; decide)] at h4
          clear hc hz1 g1 g2
          have g3 := zat (d := e) (z := (first : Int) + (root : Int)) (j := first + root) (by omega) (by omega)
          have g4 := zat (d := e) (z := (first : Int) + (2 * (root : Int) + 1)) (j := first + (2 * root + 1)) (by omega) (by omega)
          have hc2 := icmp e h2 (first + root) (first + (2 * root + 1))
          have e1 : ((first : Int) + (root : Int)).toNat = first + root := by omega
          have e2 : ((first : Int) + (2 * (root : Int) + 1)).toNat = first + (2 * root + 1) := by omega
          have hsw : (e.setIfInBounds (first + root) e[first + (2 * root + 1)]!).setIfInBounds (first + (2 * root + 1)) e[first + root]! = Sort.swp e (first + root) (first + (2 * root + 1)) := rfl
          have hk := h2.swp (first + root) (first + (2 * root + 1))
          have hks := zsw e (first + root) (first + (2 * root + 1))
          have hl : (!ltM e[first + root]! e[first + (2 * root + 1)]!) = !decide (cmpM e[first + root]! e[first + (2 * root + 1)]! < 0) := rfl
          rw [hl] at h4
          generalize Sort.swp e (first + root) (first + (2 * root + 1)) = F at *
          generalize e[first + root]! = x2 at *
          generalize e[first + (2 * root + 1)]! = y2 at *
          generalize cmpM x2 y2 = z2 at *
          clear hl
          repeat (first | refine gN pk ?_)
          refine zrg ((List.range 16).map fun i => if inL [13] i = true then .eff else if inL [5, 6, 11, 12] i = true then .read else .pure) [] [0, 1, 2, 3, 4, 5, 6, 7, 8, 9, 10, 11, 12, 13, 14, 15] .stop mixed rfl rfl (by decide +kernel) ?_
          repeat' (first | (with_reducible show AG _ _ _ _ _ _ _ _ _ _; first | exact zgn | refine zgs ?_ | refine znd ?_ ?_) | (show AMid _ _ _ _; first | refine zmf ?_ | refine zmg (by first | exact OSub.refl _ | exact .drop (OSub.refl _) | exact .drop (.drop (OSub.refl _))) ?_) | refine gY pk ?_ | (show AL _ _ _ _ _ _ _; first | refine zim tok 0 rfl rfl rfl rfl (by decide) rfl rfl rfl rfl rfl rfl (by omega) (by first | omega | (simp only [Array.size_setIfInBounds]; omega)) ?_ | refine zlm tok 0 rfl rfl rfl rfl (by decide) rfl (fun _ _ => rfl) rfl rfl g3 ?_ | refine zlm tok 0 rfl rfl rfl rfl (by decide) rfl (fun _ _ => rfl) rfl rfl g4 ?_ | refine jP hc2 ?_) | fail)
          by_cases hz2 : z2 < 0
          · rw [decide_eq_true hz2, if_neg (by decide)] at h4
            skip
            repeat (first | refine gN pk ?_)
            refine zrg ((List.range 24).map fun i => if inL [21, 23] i = true then .eff else if inL [12, 13, 18, 19, 20, 22] i = true then .read else .pure) [] [0, 1, 2, 3, 4, 5, 6, 7, 8, 9, 10, 11, 12, 13, 14, 15, 16, 17, 18, 19, 20, 21, 22, 23] .stop mixed rfl rfl (by decide +kernel) ?_
            repeat' (first | (with_reducible show AG _ _ _ _ _ _ _ _ _ _; first | exact zgn | refine zgs ?_ | refine znd ?_ ?_) | (show AMid _ _ _ _; first | refine zmf ?_ | refine zmg (by first | exact OSub.refl _ | exact .drop (OSub.refl _) | exact .drop (.drop (OSub.refl _))) ?_) | refine gY pk ?_ | (show AL _ _ _ _ _ _ _; first | refine zim tok 0 rfl rfl rfl rfl (by decide) rfl rfl rfl rfl rfl rfl (by omega) (by first | omega | (simp only [Array.size_setIfInBounds]; omega)) ?_ | refine zlm tok 0 rfl rfl rfl rfl (by decide) rfl (fun _ _ => rfl) rfl rfl g3 ?_ | refine zlm tok 0 rfl rfl rfl rfl (by decide) rfl (fun _ _ => rfl) rfl rfl g4 ?_ | refine s_storeMo tok 0 rfl rfl rfl rfl rfl rfl rfl rfl (by first | omega | (simp only [Array.size_setIfInBounds]; omega)) ?_) | fail)
            rw [e1, e2, hsw]
            repeat (first | refine gA pk ?_)
            refine ⟨(2 * root + 1, F), ⟨hk, by show F.size = _; omega, h4, by show 2 * root + 1 ≤ 1000000; omega⟩, by show hi - (2 * root + 1) < hi - root; omega, ?_, OSub.refl _⟩
            rw [show (2 * (root : Int) + 1 : Int) = ((2 * root + 1 : Nat) : Int) by omega]
            exact subQ
          · rw [decide_eq_false hz2, if_pos (by decide)] at h4
            rw [h4]
            repeat (first | refine gA pk ?_)
            exact fin (x := .tup []) (.inr rfl) rfl (Sub.refl _) ⟨rfl, rfl⟩ (OSub.refl _)
      · have hl : (decide (2 * root + 1 + 1 < hi) && ltM e[first + (2 * root + 1)]! e[first + (2 * root + 1) + 1]!) = false := by rw [decide_eq_false c1, Bool.false_and]
        rw [hl, if_neg (by decide)] at h4
        clear hl
        repeat (first | refine gN pk ?_)
        refine zrg ((List.range 22).map fun i => if inL [19] i = true then .eff else if inL [10, 11, 17, 18] i = true then .read else .pure) [] [0, 1, 2, 3, 4, 5, 6, 7, 8, 9, 10, 11, 12, 13, 14, 15, 16, 17, 18, 19, 20, 21] .stop mixed rfl rfl (by decide +kernel) ?_
        repeat' (first | (with_reducible show AG _ _ _ _ _ _ _ _ _ _; first | exact zgn | refine zgs ?_ | refine znd ?_ ?_) | (show AMid _ _ _ _; first | refine zmf ?_ | refine zmg (by first | exact OSub.refl _ | exact .drop (OSub.refl _) | exact .drop (.drop (OSub.refl _))) ?_) | refine gY pk ?_ | fail)
        have g3 := zat (d := e) (z := (first : Int) + (root : Int)) (j := first + root) (by omega) (by omega)
        have g4 := zat (d := e) (z := (first : Int) + (2 * (root : Int) + 1)) (j := first + (2 * root + 1)) (by omega) (by omega)
        have hc2 := icmp e h2 (first + root) (first + (2 * root + 1))
        have e1 : ((first : Int) + (root : Int)).toNat = first + root := by omega
        have e2 : ((first : Int) + (2 * (root : Int) + 1)).toNat = first + (2 * root + 1) := by omega
        have hsw : (e.setIfInBounds (first + root) e[first + (2 * root + 1)]!).setIfInBounds (first + (2 * root + 1)) e[first + root]! = Sort.swp e (first + root) (first + (2 * root + 1)) := rfl
        have hk := h2.swp (first + root) (first + (2 * root + 1))
        have hks := zsw e (first + root) (first + (2 * root + 1))
        have hl : (!ltM e[first + root]! e[first + (2 * root + 1)]!) = !decide (cmpM e[first + root]! e[first + (2 * root + 1)]! < 0) := rfl
        rw [hl] at h4
        generalize Sort.swp e (first + root) (first + (2 * root + 1)) = F at *
        generalize e[first + root]! = x2 at *
        generalize e[first + (2 * root + 1)]! = y2 at *
        generalize cmpM x2 y2 = z2 at *
        clear hl
        repeat (first | refine gN pk ?_)
        refine zrg ((List.range 16).map fun i => if inL [13] i = true then .eff else if inL [5, 6, 11, 12] i = true then .read else .pure) [] [0, 1, 2, 3, 4, 5, 6, 7, 8, 9, 10, 11, 12, 13, 14, 15] .stop mixed rfl rfl (by decide +kernel) ?_
        repeat' (first | (with_reducible show AG _ _ _ _ _ _ _ _ _ _; first | exact zgn | refine zgs ?_ | refine znd ?_ ?_) | (show AMid _ _ _ _; first | refine zmf ?_ | refine zmg (by first | exact OSub.refl _ | exact .drop (OSub.refl _) | exact .drop (.drop (OSub.refl _))) ?_) | refine gY pk ?_ | (show AL _ _ _ _ _ _ _; first | refine zim tok 0 rfl rfl rfl rfl (by decide) rfl rfl rfl rfl rfl rfl (by omega) (by first | omega | (simp only [Array.size_setIfInBounds]; omega)) ?_ | refine zlm tok 0 rfl rfl rfl rfl (by decide) rfl (fun _ _ => rfl) rfl rfl g3 ?_ | refine zlm tok 0 rfl rfl rfl rfl (by decide) rfl (fun _ _ => rfl) rfl rfl g4 ?_ | refine jP hc2 ?_) | fail)
        by_cases hz2 : z2 < 0
        · rw [decide_eq_true hz2, if_neg (by decide)] at h4
          skip
          repeat (first | refine gN pk ?_)
          refine zrg ((List.range 24).map fun i => if inL [21, 23] i = true then .eff else if inL [12, 13, 18, 19, 20, 22] i = true then .read else .pure) [] [0, 1, 2, 3, 4, 5, 6, 7, 8, 9, 10, 11, 12, 13, 14, 15, 16, 17, 18, 19, 20, 21, 22, 23] .stop mixed rfl rfl (by decide +kernel) ?_
          repeat' (first | (with_reducible show AG _ _ _ _ _ _ _ _ _ _; first | exact zgn | refine zgs ?_ | refine znd ?_ ?_) | (show AMid _ _ _ _; first | refine zmf ?_ | refine zmg (by first | exact OSub.refl _ | exact .drop (OSub.refl _) | exact .drop (.drop (OSub.refl _))) ?_) | refine gY pk ?_ | (show AL _ _ _ _ _ _ _; first | refine zim tok 0 rfl rfl rfl rfl (by decide) rfl rfl rfl rfl rfl rfl (by omega) (by first | omega | (simp only [Array.size_setIfInBounds]; omega)) ?_ | refine zlm tok 0 rfl rfl rfl rfl (by decide) rfl (fun _ _ => rfl) rfl rfl g3 ?_ | refine zlm tok 0 rfl rfl rfl rfl (by decide) rfl (fun _ _ => rfl) rfl rfl g4 ?_ | refine s_storeMo tok 0 rfl rfl rfl rfl rfl rfl rfl rfl (by first | omega | (simp only [Array.size_setIfInBounds]; omega)) ?_) | fail)
          rw [e1, e2, hsw]
          repeat (first | refine gA pk ?_)
          refine ⟨(2 * root + 1, F), ⟨hk, by show F.size = _; omega, h4, by show 2 * root + 1 ≤ 1000000; omega⟩, by show hi - (2 * root + 1) < hi - root; omega, ?_, OSub.refl _⟩
          rw [show (2 * (root : Int) + 1 : Int) = ((2 * root + 1 : Nat) : Int) by omega]
          exact subQ
        · rw [decide_eq_false hz2, if_pos (by decide)] at h4
          rw [h4]
          repeat (first | refine gA pk ?_)
          exact fin (x := .tup []) (.inr rfl) rfl (Sub.refl _) ⟨rfl, rfl⟩ (OSub.refl _)
end Go.Proofs.YtimfponihbfimaaGreat
end
section
namespace Go.Proofs.YtimfponihbfimaaGreat
open Go.Sj Go.Sj.Typ Go.Sj.Sta Go.Sj.Inc
set_option maxRecDepth 8000
set_option maxHeartbeats 16000000
theorem sift_size (hi first : Nat) : ∀ (m root : Nat) (d : Array Mo), hi - root ≤ m → (Sort.siftDown ltM hi first root d).size = d.size
  | 0, root, d, h => by
    rw [Sort.siftDown, dif_pos (by omega)]
  | m + 1, root, d, h => by
    rw [Sort.siftDown]
    split
    · rfl
    · split
      · split
        · rfl
        · split
          · rw [sift_size hi first m _ _ (by omega), zsw]
          · rfl
      · split
        · rfl
        · rw [sift_size hi first m _ _ (by omega), zsw]
theorem sift_all (hi first : Nat) : ∀ (m root : Nat) (d : Array Mo), hi - root ≤ m → AllB d → AllB (Sort.siftDown ltM hi first root d)
  | 0, root, d, h, hd => by
    rw [Sort.siftDown, dif_pos (by omega)]
    exact hd
  | m + 1, root, d, h, hd => by
    rw [Sort.siftDown]
    split
    · exact hd
    · split
      · split
        · exact hd
        · split
          · exact sift_all hi first m _ _ (by omega) (hd.swp _ _)
          · exact hd
      · split
        · exact hd
        · exact sift_all hi first m _ _ (by omega) (hd.swp _ _)
theorem heap_spec (d : Array Mo) (hd : AllB d) (a b : Nat) (hab : a < b) (hb : b ≤ d.size) (v : Value) :
    ACalls Tryz.prog 125 [.lit v, AI a, AI b, cmpF] [(v, rowM d)] (fun y M => y = .tup [] ∧ M = [(v, rowM (Sort.heapSort ltM d a b))]) := by
  have hn := hd.n
  obtain ⟨n, rfl⟩ : ∃ n, b = a + n := ⟨b - a, by omega⟩
  have e0 : Sort.heapSort ltM d a (a + n) = Sort.heapPop ltM a n (Sort.heapBuild ltM n a ((n - 1) / 2 + 1) d) := by
    unfold Sort.heapSort
    rw [Nat.add_sub_cancel_left]
  rw [e0]
  have hq : ((n : Int) - 1) / 2 = (((n - 1) / 2 + 1 : Nat) : Int) - 1 := by omega
  generalize hK : (n - 1) / 2 + 1 = K at *
  have hKn : K ≤ n := by omega
  clear e0
  refine zen Tryz.func125 (by kernel_rfl) rfl Tryz.ntmps125 rfl (by simp) ?_
  repeat (first | refine gA pk ?_ | (show AL _ _ _ _ _ _ _; first | refine s_quo rfl rfl rfl rfl rfl rfl (by omega) (by omega) (IntWalk.i64_in _ (by omega)) ?_))
  rw [show (((a + n : Nat) : Int) - (a : Int)) = n by omega, hq]
  refine zlx (fun x : Nat × Array Mo => [(0, .lit v), (3, cmpF), (8, AI a), (9, AI 0), (10, AI n), (11, AI ((x.1 : Int) - 1))]) (fun x => [(v, rowM x.2)]) (fun x => x.1 ≤ K ∧ AllB x.2 ∧ x.2.size = d.size ∧ Sort.heapBuild ltM n a x.1 x.2 = Sort.heapBuild ltM n a K d) (fun x => x.1) (K, d) ⟨Nat.le_refl _, hd, rfl, rfl⟩ ?_ (OSub.refl _) ?_
  · exact subQ
  · rintro ⟨k, e⟩ ⟨h1, h2, h3, h4⟩
    simp only at h1 h2 h3 h4
    cases k with
    | succ k =>
      have s1 := sift_spec e h2 k n a (by omega) (by omega) v
      rw [show ((k : Nat) : Int) = ((k + 1 : Nat) : Int) - 1 by omega] at s1
      have h5 := sift_size n a n k e (by omega)
      have h6 := sift_all n a n k e (by omega) h2
      rw [Sort.heapBuild] at h4
      generalize Sort.siftDown ltM n a k e = F at *
      repeat (first | refine gA pk ?_ | (show AL _ _ _ _ _ _ _; first | refine zsc (Lc := [(v, rowM e)]) (Lr := []) rfl rfl rfl rfl rfl s1 (SubL.of_eq rfl) (List.Perm.refl _) ?_; rintro _ _ ⟨rfl, rfl⟩))
      refine ⟨(k, F), ⟨by show k ≤ K; omega, h6, by show F.size = _; omega, h4⟩, by show k < k + 1; omega, ?_, OSub.refl _⟩
      rw [show (((k + 1 : Nat) : Int) - 1 - 1) = (k : Int) - 1 by omega]
      exact subQ
    | zero =>
      rw [Sort.heapBuild] at h4
      rw [← h4]
      clear h4
      have e2 : ((n : Int) - 1) = ((n : Nat) : Int) - 1 := rfl
      repeat (first | refine gA pk ?_)
      refine zlx (fun x : Nat × Array Mo => [(0, .lit v), (3, cmpF), (8, AI a), (9, AI 0), (12, AI ((x.1 : Int) - 1))]) (fun x => [(v, rowM x.2)]) (fun x => x.1 ≤ n ∧ AllB x.2 ∧ x.2.size = d.size ∧ Sort.heapPop ltM a x.1 x.2 = Sort.heapPop ltM a n e) (fun x => x.1) (n, e) ⟨Nat.le_refl _, h2, h3, rfl⟩ ?_ (OSub.refl _) ?_
      · exact subQ
      · rintro ⟨k, f⟩ ⟨k1, k2, k3, k4⟩
        simp only at k1 k2 k3 k4
        cases k with
        | succ k =>
          rw [Sort.heapPop] at k4
          have s1 := zat (d := f) (z := (a : Int)) (j := a) (by omega) (by omega)
          have s2 := zat (d := f) (z := (a : Int) + (((k + 1 : Nat) : Int) - 1)) (j := a + k) (by omega) (by omega)
          have se1 : ((a : Int) : Int).toNat = a := by omega
          have se2 : ((a : Int) + (((k + 1 : Nat) : Int) - 1) : Int).toNat = a + k := by omega
          have sw : (f.setIfInBounds (a) f[a + k]!).setIfInBounds (a + k) f[a]! = Sort.swp f (a) (a + k) := rfl
          have sk := k2.swp (a) (a + k)
          have sn := zsw f (a) (a + k)
          generalize Sort.swp f (a) (a + k) = sF at *
          generalize f[a]! = sx at *
          generalize f[a + k]! = sy at *
          have s3 := sift_spec sF sk 0 k a (by omega) (by omega) v
          rw [show ((k : Nat) : Int) = ((k + 1 : Nat) : Int) - 1 by omega] at s3
          have h5 := sift_size k a k 0 sF (by omega)
          have h6 := sift_all k a k 0 sF (by omega) sk
          generalize Sort.siftDown ltM k a 0 sF = G at *
          repeat (first | refine gN pk ?_)
          refine zrg ((List.range 20).map fun i => if inL [17, 19] i = true then .eff else if inL [10, 11, 14, 15, 16, 18] i = true then .read else .pure) [] [0, 1, 2, 3, 4, 5, 6, 7, 8, 9, 10, 11, 12, 13, 14, 15, 16, 17, 18, 19] .stop mixed rfl rfl (by decide +kernel) ?_
          repeat' (first | (with_reducible show AG _ _ _ _ _ _ _ _ _ _; first | exact zgn | refine zgs ?_ | refine znd ?_ ?_) | (show AMid _ _ _ _; first | refine zmf ?_ | refine zmg (by first | exact OSub.refl _ | exact .drop (OSub.refl _) | exact .drop (.drop (OSub.refl _))) ?_) | refine gY pk ?_ | (show AL _ _ _ _ _ _ _; first | refine zim tok 0 rfl rfl rfl rfl (by decide) rfl rfl rfl rfl rfl rfl (by omega) (by first | omega | (simp only [Array.size_setIfInBounds]; omega)) ?_ | refine zlm tok 0 rfl rfl rfl rfl (by decide) rfl (fun _ _ => rfl) rfl rfl s1 ?_ | refine zlm tok 0 rfl rfl rfl rfl (by decide) rfl (fun _ _ => rfl) rfl rfl s2 ?_ | refine s_storeMo tok 0 rfl rfl rfl rfl rfl rfl rfl rfl (by first | omega | (simp only [Array.size_setIfInBounds]; omega)) ?_) | fail)
          rw [se1, se2, sw]
          repeat (first | refine gA pk ?_ | (show AL _ _ _ _ _ _ _; first | refine zsc (Lc := [(v, rowM sF)]) (Lr := []) rfl rfl rfl rfl rfl s3 (SubL.of_eq rfl) (List.Perm.refl _) ?_; rintro _ _ ⟨rfl, rfl⟩))
          refine ⟨(k, G), ⟨by show k ≤ n; omega, h6, by show G.size = _; omega, k4⟩, by show k < k + 1; omega, ?_, OSub.refl _⟩
          rw [show (((k + 1 : Nat) : Int) - 1 - 1) = (k : Int) - 1 by omega]
          exact subQ
        | zero =>
          rw [Sort.heapPop] at k4
          rw [← k4]
          repeat (first | refine gA pk ?_)
          exact fin (x := .tup []) (.inl rfl) rfl (Sub.refl _) ⟨rfl, rfl⟩ (OSub.refl _)
theorem rev_spec (d : Array Mo) (hd : AllB d) (a b : Nat) (hab : a < b) (hb : b ≤ d.size) (v : Value) (C : AV) :
    ACalls Tryz.prog 128 [.lit v, AI a, AI b, C] [(v, rowM d)] (fun y M => y = .tup [] ∧ M = [(v, rowM (Sort.reverseRange d a b))]) := by
  have hn := hd.n
  obtain ⟨n, rfl⟩ : ∃ n, b = n + 1 := ⟨b - 1, by omega⟩
  have e0 : Sort.reverseRange d a (n + 1) = Sort.reverseLoop a n d := rfl
  rw [e0]
  clear e0
  refine zen Tryz.func128 (by kernel_rfl) rfl Tryz.ntmps128 rfl (by simp) ?_
  repeat (first | refine gA pk ?_)
  rw [show (((n + 1 : Nat) : Int) - 1) = n by omega]
  refine zlx (fun x : (Nat × Nat) × Array Mo => [(0, .lit v), (8, AI x.1.1), (9, AI x.1.2)]) (fun x => [(v, rowM x.2)]) (fun x => x.1.2 ≤ n ∧ x.1.1 ≤ n + 1 ∧ AllB x.2 ∧ x.2.size = d.size ∧ Sort.reverseLoop x.1.1 x.1.2 x.2 = Sort.reverseLoop a n d) (fun x => x.1.2 - x.1.1) ((a, n), d) ⟨Nat.le_refl _, by show a ≤ n + 1; omega, hd, rfl, rfl⟩ ?_ (OSub.refl _) ?_
  · exact subQ
  · rintro ⟨⟨i, j⟩, e⟩ ⟨h0, h1, h2, h3, h4⟩
    simp only at h0 h1 h2 h3 h4
    dsimp only
    rw [Sort.reverseLoop] at h4
    rcases Nat.lt_or_ge i j with h | h
    · rw [if_pos h] at h4
      have s1 := zat (d := e) (z := (i : Int)) (j := i) (by omega) (by omega)
      have s2 := zat (d := e) (z := (j : Int)) (j := j) (by omega) (by omega)
      have se1 : ((i : Int) : Int).toNat = i := by omega
      have se2 : ((j : Int) : Int).toNat = j := by omega
      have sw : (e.setIfInBounds (i) e[j]!).setIfInBounds (j) e[i]! = Sort.swp e (i) (j) := rfl
      have sk := h2.swp (i) (j)
      have sn := zsw e (i) (j)
      generalize Sort.swp e (i) (j) = sF at *
      generalize e[i]! = sx at *
      generalize e[j]! = sy at *
      repeat (first | refine gN pk ?_)
      refine zrg ((List.range 16).map fun i => if inL [13, 15] i = true then .eff else if inL [6, 7, 10, 11, 12, 14] i = true then .read else .pure) [] [0, 1, 2, 3, 4, 5, 6, 7, 8, 9, 10, 11, 12, 13, 14, 15] .stop mixed rfl rfl (by decide +kernel) ?_
      repeat' (first | (with_reducible show AG _ _ _ _ _ _ _ _ _ _; first | exact zgn | refine zgs ?_ | refine znd ?_ ?_) | (show AMid _ _ _ _; first | refine zmf ?_ | refine zmg (by first | exact OSub.refl _ | exact .drop (OSub.refl _) | exact .drop (.drop (OSub.refl _))) ?_) | refine gY pk ?_ | (show AL _ _ _ _ _ _ _; first | refine zim tok 0 rfl rfl rfl rfl (by decide) rfl rfl rfl rfl rfl rfl (by omega) (by first | omega | (simp only [Array.size_setIfInBounds]; omega)) ?_ | refine zlm tok 0 rfl rfl rfl rfl (by decide) rfl (fun _ _ => rfl) rfl rfl s1 ?_ | refine zlm tok 0 rfl rfl rfl rfl (by decide) rfl (fun _ _ => rfl) rfl rfl s2 ?_ | refine s_storeMo tok 0 rfl rfl rfl rfl rfl rfl rfl rfl (by first | omega | (simp only [Array.size_setIfInBounds]; omega)) ?_) | fail)
      rw [se1, se2, sw]
      repeat (first | refine gA pk ?_)
      refine ⟨((i + 1, j - 1), sF), ⟨by show j - 1 ≤ n; omega, by show i + 1 ≤ n + 1; omega, sk, by show sF.size = _; omega, h4⟩, by show j - 1 - (i + 1) < j - i; omega, ?_, OSub.refl _⟩
      rw [show ((j : Int) - 1) = ((j - 1 : Nat) : Int) by omega]
      exact subQ
    · rw [if_neg (by omega)] at h4
      rw [← h4]
      repeat (first | refine gA pk ?_)
      exact fin (x := .tup []) (.inl rfl) rfl (Sub.refl _) ⟨rfl, rfl⟩ (OSub.refl _)
end Go.Proofs.YtimfponihbfimaaGreat
end
