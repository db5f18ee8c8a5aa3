/- Parts of a proof. -/
import Derived.Test.YtimfponihbfimaaGreatP32
set_option linter.unusedVariables false
set_option linter.unusedSimpArgs false
section
namespace Go.Proofs.YtimfponihbfimaaGreat
open Go.Sj Go.Sj.Typ Go.Sj.Sta Go.Sj.Inc
set_option maxRecDepth 8000
set_option maxHeartbeats 16000000
theorem order2_bd (d : Array Mo) (a b s : Nat) : ((Sort.order2 ltM d a b s).1 = a ∧ (Sort.order2 ltM d a b s).2.1 = b ∨ (Sort.order2 ltM d a b s).1 = b ∧ (Sort.order2 ltM d a b s).2.1 = a) ∧ (Sort.order2 ltM d a b s).2.2 ≤ s + 1 := by
  unfold Sort.order2
  split
  · exact ⟨.inr ⟨rfl, rfl⟩, Nat.le_refl _⟩
  · exact ⟨.inl ⟨rfl, rfl⟩, Nat.le_succ _⟩
theorem ord2_spec (d : Array Mo) (hd : AllB d) (a b s : Nat) (ha : a < d.size) (hb : b < d.size) (hs : s ≤ 1000000) (v p : Value) :
    ACalls Tryz.prog 193 [.lit v, AI a, AI b, .pt p 0 0 0, cmpF] [(v, rowM d), (p, .box [AI s])]
      (fun y M => y = .tup [AI ((Sort.order2 ltM d a b s).1 : Nat), AI ((Sort.order2 ltM d a b s).2.1 : Nat)] ∧ M = [(v, rowM d), (p, .box [AI ((Sort.order2 ltM d a b s).2.2 : Nat)])]) := by
  have hn := hd.n
  obtain ⟨r, hr⟩ : ∃ r, Sort.order2 ltM d a b s = r := ⟨_, rfl⟩
  rw [hr]
  unfold Sort.order2 at hr
  have c1 := zat (d := d) (z := (b : Int)) (j := b) (by omega) (by omega)
  have c2 := zat (d := d) (z := (a : Int)) (j := a) (by omega) (by omega)
  have cc := icmp d hd (b) (a)
  have cl : ltM d[b]! d[a]! = decide (cmpM d[b]! d[a]! < 0) := rfl
  rw [cl] at hr
  generalize cmpM d[b]! d[a]! = z at *
  clear cl
  refine zen Tryz.func193 (by kernel_rfl) rfl Tryz.ntmps193 rfl (by simp) ?_
  repeat (first | refine gN pk ?_)
  refine zrg ((List.range 11).map fun i => if inL [9] i = true then .eff else if inL [3, 4, 7, 8] i = true then .read else .pure) [] [0, 1, 2, 3, 4, 5, 6, 7, 8, 9, 10] .stop mixed rfl rfl (by decide +kernel) ?_
  by_cases hz : z < 0
  · rw [if_pos (decide_eq_true hz)] at hr
    subst hr
    repeat' (first | (with_reducible show AG _ _ _ _ _ _ _ _ _ _; first | exact zgn | refine zgs ?_ | refine znd ?_ ?_) | (show AMid _ _ _ _; first | refine zmf ?_ | refine zmg (by first | exact OSub.refl _ | exact .drop (OSub.refl _) | exact .drop (.drop (OSub.refl _))) ?_) | refine gY pk ?_ | (show AL _ _ _ _ _ _ _; first | refine zim tok 0 rfl rfl rfl rfl (by decide) rfl rfl rfl rfl rfl rfl (by omega) (by first | omega | (simp only [Array.size_setIfInBounds]; omega)) ?_ | refine zlm tok 0 rfl rfl rfl rfl (by decide) rfl (fun _ _ => rfl) rfl rfl c1 ?_ | refine zlm tok 0 rfl rfl rfl rfl (by decide) rfl (fun _ _ => rfl) rfl rfl c2 ?_ | refine jP cc ?_) | fail)
    repeat (first | refine gA pk ?_ | (show AL _ _ _ _ _ _ _; first | refine jO tok 1 ?_ | refine jS tok 1 ?_))
    exact fin (x := .tup [AI b, AI a]) (.inr rfl) rfl (Sub.refl _) ⟨rfl, rfl⟩ (OSub.refl _)
  · rw [if_neg (by rw [decide_eq_false hz]; decide)] at hr
    subst hr
    repeat' (first | (with_reducible show AG _ _ _ _ _ _ _ _ _ _; first | exact zgn | refine zgs ?_ | refine znd ?_ ?_) | (show AMid _ _ _ _; first | refine zmf ?_ | refine zmg (by first | exact OSub.refl _ | exact .drop (OSub.refl _) | exact .drop (.drop (OSub.refl _))) ?_) | refine gY pk ?_ | (show AL _ _ _ _ _ _ _; first | refine zim tok 0 rfl rfl rfl rfl (by decide) rfl rfl rfl rfl rfl rfl (by omega) (by first | omega | (simp only [Array.size_setIfInBounds]; omega)) ?_ | refine zlm tok 0 rfl rfl rfl rfl (by decide) rfl (fun _ _ => rfl) rfl rfl c1 ?_ | refine zlm tok 0 rfl rfl rfl rfl (by decide) rfl (fun _ _ => rfl) rfl rfl c2 ?_ | refine jP cc ?_) | fail)
    repeat (first | refine gA pk ?_)
    exact fin (x := .tup [AI a, AI b]) (.inr rfl) rfl (Sub.refl _) ⟨rfl, rfl⟩ (OSub.refl _)
theorem median_bd (d : Array Mo) (a b c s : Nat) : (Sort.median ltM d a b c s).2 ≤ s + 3 := by
  unfold Sort.median
  simp only []
  have h1 := (order2_bd d a b s).2
  have h2 := (order2_bd d (Sort.order2 ltM d a b s).2.1 c (Sort.order2 ltM d a b s).2.2).2
  have h3 := (order2_bd d (Sort.order2 ltM d a b s).1 (Sort.order2 ltM d (Sort.order2 ltM d a b s).2.1 c (Sort.order2 ltM d a b s).2.2).1 (Sort.order2 ltM d (Sort.order2 ltM d a b s).2.1 c (Sort.order2 ltM d a b s).2.2).2.2).2
  omega
theorem med_spec (d : Array Mo) (hd : AllB d) (a b c s : Nat) (ha : a < d.size) (hb : b < d.size) (hc : c < d.size) (hs : s ≤ 1000) (v p : Value) :
    ACalls Tryz.prog 176 [.lit v, AI a, AI b, AI c, .pt p 0 0 0, cmpF] [(v, rowM d), (p, .box [AI s])]
      (fun y M => y = AI ((Sort.median ltM d a b c s).1 : Nat) ∧ M = [(v, rowM d), (p, .box [AI ((Sort.median ltM d a b c s).2 : Nat)])]) := by
  obtain ⟨r, hr⟩ : ∃ r, Sort.median ltM d a b c s = r := ⟨_, rfl⟩
  rw [hr]
  unfold Sort.median at hr
  simp only [] at hr
  have s1 := ord2_spec d hd a b s ha hb (by omega) v p
  have b1 := order2_bd d a b s
  generalize Sort.order2 ltM d a b s = r1 at *
  obtain ⟨x1, x2, x3⟩ := r1
  simp only at b1 hr s1
  have s2 := ord2_spec d hd x2 c x3 (by omega) hc (by omega) v p
  have b2 := order2_bd d x2 c x3
  generalize Sort.order2 ltM d x2 c x3 = r2 at *
  obtain ⟨y1, y2, y3⟩ := r2
  simp only at b2 hr s2
  have s3 := ord2_spec d hd x1 y1 y3 (by omega) (by omega) (by omega) v p
  generalize Sort.order2 ltM d x1 y1 y3 = r3 at *
  obtain ⟨z1, z2, z3⟩ := r3
  simp only at hr s3
  subst hr
  clear b1 b2
  refine zen Tryz.func176 (by kernel_rfl) rfl Tryz.ntmps176 rfl (by simp) ?_
  repeat (first | refine gA pk ?_ | (show AL _ _ _ _ _ _ _; first | refine zsc (Lc := [(v, rowM d), (p, .box [AI s])]) (Lr := []) rfl rfl rfl rfl rfl s1 (SubL.of_eq rfl) (List.Perm.refl _) ?_; rintro _ _ ⟨rfl, rfl⟩ | refine zsc (Lc := [(v, rowM d), (p, .box [AI x3])]) (Lr := []) rfl rfl rfl rfl rfl s2 (SubL.of_eq rfl) (List.Perm.refl _) ?_; rintro _ _ ⟨rfl, rfl⟩ | refine zsc (Lc := [(v, rowM d), (p, .box [AI y3])]) (Lr := []) rfl rfl rfl rfl rfl s3 (SubL.of_eq rfl) (List.Perm.refl _) ?_; rintro _ _ ⟨rfl, rfl⟩))
  exact fin (x := AI z2) (.inr rfl) rfl (Sub.refl _) ⟨rfl, rfl⟩ (OSub.refl _)
theorem meda_spec (d : Array Mo) (hd : AllB d) (a s : Nat) (h1 : 1 ≤ a) (ha : a + 1 < d.size) (hs : s ≤ 1000) (v p : Value) :
    ACalls Tryz.prog 175 [.lit v, AI a, .pt p 0 0 0, cmpF] [(v, rowM d), (p, .box [AI s])]
      (fun y M => y = AI ((Sort.medianAdjacent ltM d a s).1 : Nat) ∧ M = [(v, rowM d), (p, .box [AI ((Sort.medianAdjacent ltM d a s).2 : Nat)])]) := by
  have hn := hd.n
  have s1 := med_spec d hd (a - 1) a (a + 1) s (by omega) (by omega) (by omega) hs v p
  unfold Sort.medianAdjacent
  rw [show ((a - 1 : Nat) : Int) = (a : Int) - 1 by omega, show ((a + 1 : Nat) : Int) = (a : Int) + 1 by omega] at s1
  generalize Sort.median ltM d (a - 1) a (a + 1) s = r at *
  obtain ⟨r1, r2⟩ := r
  refine zen Tryz.func175 (by kernel_rfl) rfl Tryz.ntmps175 rfl (by simp) ?_
  repeat (first | refine gA pk ?_ | (show AL _ _ _ _ _ _ _; first | refine zsc (Lc := [(v, rowM d), (p, .box [AI s])]) (Lr := []) rfl rfl rfl rfl rfl s1 (SubL.of_eq rfl) (List.Perm.refl _) ?_; rintro _ _ ⟨rfl, rfl⟩))
  exact fin (x := AI r1) (.inr rfl) rfl (Sub.refl _) ⟨rfl, rfl⟩ (OSub.refl _)
def hintC : Sort.Hint → Int
  | .unknown => 0
  | .increasing => 1
  | .decreasing => 2
theorem hintC_of (n : Nat) : hintC (if n = 0 then .increasing else if n = 12 then .decreasing else .unknown) = if n = 0 then 1 else if n = 12 then 2 else 0 := by
  split
  · rfl
  · split <;> rfl
theorem piv_spec (d : Array Mo) (hd : AllB d) (a b : Nat) (hab : a < b) (hb : b ≤ d.size) (v : Value) :
    ACalls Tryz.prog 127 [.lit v, AI a, AI b, cmpF] [(v, rowM d)]
      (fun y M => y = .tup [AI ((Sort.choosePivot ltM d a b).1 : Nat), AI (hintC (Sort.choosePivot ltM d a b).2)] ∧ M = [(v, rowM d)]) := by
  have hn := hd.n
  obtain ⟨r, hr⟩ : ∃ r, Sort.choosePivot ltM d a b = r := ⟨_, rfl⟩
  rw [hr]
  unfold Sort.choosePivot at hr
  simp only [] at hr
  obtain ⟨n, rfl⟩ : ∃ n, b = a + n := ⟨b - a, by omega⟩
  rw [Nat.add_sub_cancel_left] at hr
  have hq : ((a + n : Nat) : Int) - (a : Int) = n := by omega
  obtain ⟨q, hqq⟩ : ∃ q, n / 4 = q := ⟨_, rfl⟩
  rw [hqq] at hr
  have hqz : (n : Int) / 4 = (q : Int) := by omega
  have e1 : (a : Int) + (q : Int) * 1 = ((a + q * 1 : Nat) : Int) := by omega
  have e2 : (a : Int) + (q : Int) * 2 = ((a + q * 2 : Nat) : Int) := by omega
  have e3 : (a : Int) + (q : Int) * 3 = ((a + q * 3 : Nat) : Int) := by omega
  generalize hi : a + q * 1 = i at *
  generalize hj : a + q * 2 = j at *
  generalize hk : a + q * 3 = k at *
  generalize hm : (if n ≥ 8 then _ else (j, 0) : Nat × Nat) = m at hr
  subst hr
  obtain ⟨m1, m2⟩ := m
  simp only
  rw [hintC_of]
  refine zen Tryz.func127 (by kernel_rfl) rfl Tryz.ntmps127 rfl (by simp) ?_
  repeat (first | refine gN pk ?_ | (show AL _ _ _ _ _ _ _; first | refine s_quo rfl rfl rfl rfl rfl rfl (by omega) (by omega) (IntWalk.i64_in _ (by omega)) ?_ | refine jL tok (fun ux => ?_)))
  rw [hq, hqz, e1, e2, e3]
  by_cases h8 : n ≥ 8
  · rw [if_pos h8] at hm
    have q2 : 2 ≤ q := by omega
    by_cases h50 : n ≥ 50
    · rw [if_pos h50] at hm
      have g1 := Sort.medianAdjacent_mem ltM d i 0
      have f1 := median_bd d (i - 1) i (i + 1) 0
      have s1 := fun p => meda_spec d hd i 0 (by omega) (by omega) (by omega) v p
      change (Sort.medianAdjacent ltM d i 0).2 ≤ _ at f1
      generalize Sort.medianAdjacent ltM d i 0 = u at *
      obtain ⟨i1, i2⟩ := u
      simp only at hm g1 f1 s1
      have g2 := Sort.medianAdjacent_mem ltM d j i2
      have f2 := median_bd d (j - 1) j (j + 1) i2
      have s2 := fun p => meda_spec d hd j i2 (by omega) (by omega) (by omega) v p
      change (Sort.medianAdjacent ltM d j i2).2 ≤ _ at f2
      generalize Sort.medianAdjacent ltM d j i2 = u at *
      obtain ⟨j1, j2⟩ := u
      simp only at hm g2 f2 s2
      have g3 := Sort.medianAdjacent_mem ltM d k j2
      have f3 := median_bd d (k - 1) k (k + 1) j2
      have s3 := fun p => meda_spec d hd k j2 (by omega) (by omega) (by omega) v p
      change (Sort.medianAdjacent ltM d k j2).2 ≤ _ at f3
      generalize Sort.medianAdjacent ltM d k j2 = u at *
      obtain ⟨k1, k2⟩ := u
      simp only at hm g3 f3 s3
      have s4 := fun p => med_spec d hd i1 j1 k1 k2 (by omega) (by omega) (by omega) (by omega) v p
      rw [hm] at s4
      clear g1 g2 g3 f1 f2 f3 hm
      by_cases h0 : m2 = 0
      · rw [if_pos h0]
        repeat (first | refine gA pk ?_ | (show AL _ _ _ _ _ _ _; first | refine zsc (Lc := [(v, rowM d), (ux, .box [AI 0])]) (Lr := []) rfl rfl rfl rfl rfl (s1 ux) (SubL.of_eq rfl) (List.Perm.swap _ _ _) ?_; rintro _ _ ⟨rfl, rfl⟩ | refine zsc (Lc := [(v, rowM d), (ux, .box [AI i2])]) (Lr := []) rfl rfl rfl rfl rfl (s2 ux) (SubL.of_eq rfl) (List.Perm.refl _) ?_; rintro _ _ ⟨rfl, rfl⟩ | refine zsc (Lc := [(v, rowM d), (ux, .box [AI j2])]) (Lr := []) rfl rfl rfl rfl rfl (s3 ux) (SubL.of_eq rfl) (List.Perm.refl _) ?_; rintro _ _ ⟨rfl, rfl⟩ | refine zsc (Lc := [(v, rowM d), (ux, .box [AI k2])]) (Lr := []) rfl rfl rfl rfl rfl (s4 ux) (SubL.of_eq rfl) (List.Perm.refl _) ?_; rintro _ _ ⟨rfl, rfl⟩ | refine jO tok 1 ?_))
        exact fin (x := .tup [AI (m1 : Nat), AI 1]) (.inr rfl) rfl (Sub.refl _) ⟨rfl, rfl⟩ (OSub.keep (OSub.none _))
      · rw [if_neg h0]
        by_cases h12 : m2 = 12
        · rw [if_pos h12]
          repeat (first | refine gA pk ?_ | (show AL _ _ _ _ _ _ _; first | refine zsc (Lc := [(v, rowM d), (ux, .box [AI 0])]) (Lr := []) rfl rfl rfl rfl rfl (s1 ux) (SubL.of_eq rfl) (List.Perm.swap _ _ _) ?_; rintro _ _ ⟨rfl, rfl⟩ | refine zsc (Lc := [(v, rowM d), (ux, .box [AI i2])]) (Lr := []) rfl rfl rfl rfl rfl (s2 ux) (SubL.of_eq rfl) (List.Perm.refl _) ?_; rintro _ _ ⟨rfl, rfl⟩ | refine zsc (Lc := [(v, rowM d), (ux, .box [AI j2])]) (Lr := []) rfl rfl rfl rfl rfl (s3 ux) (SubL.of_eq rfl) (List.Perm.refl _) ?_; rintro _ _ ⟨rfl, rfl⟩ | refine zsc (Lc := [(v, rowM d), (ux, .box [AI k2])]) (Lr := []) rfl rfl rfl rfl rfl (s4 ux) (SubL.of_eq rfl) (List.Perm.refl _) ?_; rintro _ _ ⟨rfl, rfl⟩ | refine jO tok 1 ?_))
          exact fin (x := .tup [AI (m1 : Nat), AI 2]) (.inr rfl) rfl (Sub.refl _) ⟨rfl, rfl⟩ (OSub.keep (OSub.none _))
        · rw [if_neg h12]
          repeat (first | refine gA pk ?_ | (show AL _ _ _ _ _ _ _; first | refine zsc (Lc := [(v, rowM d), (ux, .box [AI 0])]) (Lr := []) rfl rfl rfl rfl rfl (s1 ux) (SubL.of_eq rfl) (List.Perm.swap _ _ _) ?_; rintro _ _ ⟨rfl, rfl⟩ | refine zsc (Lc := [(v, rowM d), (ux, .box [AI i2])]) (Lr := []) rfl rfl rfl rfl rfl (s2 ux) (SubL.of_eq rfl) (List.Perm.refl _) ?_; rintro _ _ ⟨rfl, rfl⟩ | refine zsc (Lc := [(v, rowM d), (ux, .box [AI j2])]) (Lr := []) rfl rfl rfl rfl rfl (s3 ux) (SubL.of_eq rfl) (List.Perm.refl _) ?_; rintro _ _ ⟨rfl, rfl⟩ | refine zsc (Lc := [(v, rowM d), (ux, .box [AI k2])]) (Lr := []) rfl rfl rfl rfl rfl (s4 ux) (SubL.of_eq rfl) (List.Perm.refl _) ?_; rintro _ _ ⟨rfl, rfl⟩ | refine jO tok 1 ?_))
          exact fin (x := .tup [AI (m1 : Nat), AI 0]) (.inr rfl) rfl (Sub.refl _) ⟨rfl, rfl⟩ (OSub.keep (OSub.none _))
    · rw [if_neg h50] at hm
      have s4 := fun p => med_spec d hd i j k 0 (by omega) (by omega) (by omega) (by omega) v p
      rw [hm] at s4
      clear hm
      by_cases h0 : m2 = 0
      · rw [if_pos h0]
        repeat (first | refine gA pk ?_ | (show AL _ _ _ _ _ _ _; first | refine zsc (Lc := [(v, rowM d), (ux, .box [AI 0])]) (Lr := []) rfl rfl rfl rfl rfl (s4 ux) (SubL.of_eq rfl) (List.Perm.swap _ _ _) ?_; rintro _ _ ⟨rfl, rfl⟩ | refine jO tok 1 ?_))
        exact fin (x := .tup [AI (m1 : Nat), AI 1]) (.inr rfl) rfl (Sub.refl _) ⟨rfl, rfl⟩ (OSub.keep (OSub.none _))
      · rw [if_neg h0]
        by_cases h12 : m2 = 12
        · rw [if_pos h12]
          repeat (first | refine gA pk ?_ | (show AL _ _ _ _ _ _ _; first | refine zsc (Lc := [(v, rowM d), (ux, .box [AI 0])]) (Lr := []) rfl rfl rfl rfl rfl (s4 ux) (SubL.of_eq rfl) (List.Perm.swap _ _ _) ?_; rintro _ _ ⟨rfl, rfl⟩ | refine jO tok 1 ?_))
          exact fin (x := .tup [AI (m1 : Nat), AI 2]) (.inr rfl) rfl (Sub.refl _) ⟨rfl, rfl⟩ (OSub.keep (OSub.none _))
        · rw [if_neg h12]
          repeat (first | refine gA pk ?_ | (show AL _ _ _ _ _ _ _; first | refine zsc (Lc := [(v, rowM d), (ux, .box [AI 0])]) (Lr := []) rfl rfl rfl rfl rfl (s4 ux) (SubL.of_eq rfl) (List.Perm.swap _ _ _) ?_; rintro _ _ ⟨rfl, rfl⟩ | refine jO tok 1 ?_))
          exact fin (x := .tup [AI (m1 : Nat), AI 0]) (.inr rfl) rfl (Sub.refl _) ⟨rfl, rfl⟩ (OSub.keep (OSub.none _))
  · rw [if_neg h8] at hm
    cases hm
    rw [if_pos rfl]
    repeat (first | refine gA pk ?_ | (show AL _ _ _ _ _ _ _; first | refine jO tok 0 ?_))
    exact fin (x := .tup [AI (j : Nat), AI 1]) (.inr rfl) rfl (Sub.refl _) ⟨rfl, rfl⟩ (OSub.drop (OSub.refl _))
end Go.Proofs.YtimfponihbfimaaGreat
end
