/- Parts of a proof. -/
import Derived.Test.YtddohheabpiljaaGreatE30
set_option linter.unusedVariables false
set_option linter.unusedSimpArgs false
section
namespace Go.Proofs.YtddohheabpiljaaGreat
open Go.Sj Go.Sj.Typ Go.Sj.Sta Go.Sj.Inc
set_option maxRecDepth 8000
set_option maxHeartbeats 16000000
theorem order2_bd (d : Array Mo) (a b s : Nat) : ((Sort.order2 ltM d a b s).1 = a ∧ (Sort.order2 ltM d a b s).2.1 = b ∨ (Sort.order2 ltM d a b s).1 = b ∧ (Sort.order2 ltM d a b s).2.1 = a) ∧ (Sort.order2 ltM d a b s).2.2 ≤ s + 1 := by
  unfold Sort.order2
  split
  · exact ⟨.inr ⟨rfl, rfl⟩, Nat.le_refl _⟩
  · exact ⟨.inl ⟨rfl, rfl⟩, Nat.le_succ _⟩
theorem ord2_spec (d : Array Mo) (hd : AllB d) (a b s : Nat) (ha : a < d.size) (hb : b < d.size) (hs : s ≤ 1000000) (v p : Value) :
    ACalls Tryz.prog 174 [.lit v, AI a, AI b, .pt p 0 0 0, cmpF] [(v, rowM d), (p, .box [AI s])]
      (fun y M => y = .tup [AI ((Sort.order2 ltM d a b s).1 : Nat), AI ((Sort.order2 ltM d a b s).2.1 : Nat)] ∧ M = [(v, rowM d), (p, .box [AI ((Sort.order2 ltM d a b s).2.2 : Nat)])]) := by
  have hn := hd.n
  obtain ⟨r, hr⟩ : ∃ r, Sort.order2 ltM d a b s = r := ⟨_, rfl⟩
  rw [hr]
  unfold Sort.order2 at hr
  have c1 := at_get (d := d) (z := (b : Int)) (j := b) (by omega) (by omega)
  have c2 := at_get (d := d) (z := (a : Int)) (j := a) (by omega) (by omega)
  have cc := icmp d hd (b) (a)
  have cl : ltM d[b]! d[a]! = decide (cmpM d[b]! d[a]! < 0) := rfl
  rw [cl] at hr
  generalize cmpM d[b]! d[a]! = z at *
  clear cl
  refine a_enter Tryz.func174 (by kernel_rfl) rfl Tryz.ntmps174 rfl (by simp) ?_
  repeat (first | refine gN pk ?_)
  refine a_regG ((List.range 11).map fun i => if inL [9] i = true then .eff else if inL [3, 4, 7, 8] i = true then .read else .pure) [] [0, 1, 2, 3, 4, 5, 6, 7, 8, 9, 10] .stop mixed rfl rfl (by decide +kernel) ?_
  by_cases hz : z < 0
  · rw [if_pos (decide_eq_true hz)] at hr
    subst hr
    repeat' (first | (with_reducible show AG _ _ _ _ _ _ _ _ _ _; first | exact ag_none | refine ag_stop ?_ | refine ag_nd ?_ ?_) | (show AMid _ _ _ _; first | refine amid_f ?_ | refine amid_g (by first | exact OSub.refl _ | exact .drop (OSub.refl _) | exact .drop (.drop (OSub.refl _))) ?_) | refine gY pk ?_ | (show AL _ _ _ _ _ _ _; first | refine s_indexMo tok 0 rfl rfl rfl rfl (by decide) rfl rfl rfl rfl rfl rfl (by omega) (by first | omega | (simp only [Array.size_setIfInBounds]; omega)) ?_ | refine s_loadMo tok 0 rfl rfl rfl rfl (by decide) rfl (fun _ _ => rfl) rfl rfl c1 ?_ | refine s_loadMo tok 0 rfl rfl rfl rfl (by decide) rfl (fun _ _ => rfl) rfl rfl c2 ?_ | refine jP cc ?_) | fail)
    repeat (first | refine gA pk ?_ | (show AL _ _ _ _ _ _ _; first | refine jO tok 1 ?_ | refine jS tok 1 ?_))
    exact fin (x := .tup [AI b, AI a]) (.inr rfl) rfl (Sub.refl _) ⟨rfl, rfl⟩ (OSub.refl _)
  · rw [if_neg (by rw [decide_eq_false hz]; decide)] at hr
    subst hr
    repeat' (first | (with_reducible show AG _ _ _ _ _ _ _ _ _ _; first | exact ag_none | refine ag_stop ?_ | refine ag_nd ?_ ?_) | (show AMid _ _ _ _; first | refine amid_f ?_ | refine amid_g (by first | exact OSub.refl _ | exact .drop (OSub.refl _) | exact .drop (.drop (OSub.refl _))) ?_) | refine gY pk ?_ | (show AL _ _ _ _ _ _ _; first | refine s_indexMo tok 0 rfl rfl rfl rfl (by decide) rfl rfl rfl rfl rfl rfl (by omega) (by first | omega | (simp only [Array.size_setIfInBounds]; omega)) ?_ | refine s_loadMo tok 0 rfl rfl rfl rfl (by decide) rfl (fun _ _ => rfl) rfl rfl c1 ?_ | refine s_loadMo tok 0 rfl rfl rfl rfl (by decide) rfl (fun _ _ => rfl) rfl rfl c2 ?_ | refine jP cc ?_) | fail)
    repeat (first | refine gA pk ?_)
    exact fin (x := .tup [AI a, AI b]) (.inr rfl) rfl (Sub.refl _) ⟨rfl, rfl⟩ (OSub.refl _)
theorem median_bd (d : Array Mo) (a b c s : Nat) : (Sort.median ltM d a b c s).2 ≤ s + 3 := by
  unfold Sort.median
  simp only []
  have h1 := (order2_bd d a b s).2
  have h2 := (order2_bd d (Sort.order2 ltM d a b s).2.1 c (Sort.order2 ltM d a b s).2.2).2
  have h3 := (order2_bd d (Sort.order2 ltM d a b s).1 (Sort.order2 ltM d (Sort.order2 ltM d a b s).2.1 c (Sort.order2 ltM d a b s).2.2).1 (Sort.order2 ltM d (Sort.order2 ltM d a b s).2.1 c (Sort.order2 ltM d a b s).2.2).2.2).2
  omega
theorem med_spec (d : Array Mo) (hd : AllB d) (a b c s : Nat) (ha : a < d.size) (hb : b < d.size) (hc : c < d.size) (hs : s ≤ 1000) (v p : Value) :
    ACalls Tryz.prog 163 [.lit v, AI a, AI b, AI c, .pt p 0 0 0, cmpF] [(v, rowM d), (p, .box [AI s])]
      (fun y M => y = AI ((Sort.median ltM d a b c s).1 : Nat) ∧ M = [(v, rowM d), (p, .box [AI ((Sort.median ltM d a b c s).2 : Nat)])]) := by
  obtain ⟨r, hr⟩ : ∃ r, Sort.median ltM d a b c s = r := ⟨_, rfl⟩
  rw [hr]
  unfold Sort.median at hr
  simp only [] at hr
  have s1 := ord2_spec d hd a b s ha hb (by omega) v p
  have b1 := order2_bd d a b s
  generalize Sort.order2 ltM d a b s = r1 at *
  obtain ⟨x1, x2, x3⟩ := r1
  simp only at b1 hr s1
  have s2 := ord2_spec d hd x2 c x3 (by omega) hc (by omega) v p
  have b2 := order2_bd d x2 c x3
  generalize Sort.order2 ltM d x2 c x3 = r2 at *
  obtain ⟨y1, y2, y3⟩ := r2
  simp only at b2 hr s2
  have s3 := ord2_spec d hd x1 y1 y3 (by omega) (by omega) (by omega) v p
  generalize Sort.order2 ltM d x1 y1 y3 = r3 at *
  obtain ⟨z1, z2, z3⟩ := r3
  simp only at hr s3
  subst hr
  clear b1 b2
  refine a_enter Tryz.func163 (by kernel_rfl) rfl Tryz.ntmps163 rfl (by simp) ?_
  repeat (first | refine gA pk ?_ | (show AL _ _ _ _ _ _ _; first | refine s_call (Lc := [(v, rowM d), (p, .box [AI s])]) (Lr := []) rfl rfl rfl rfl rfl s1 (SubL.of_eq rfl) (List.Perm.refl _) ?_; rintro _ _ ⟨rfl, rfl⟩ | refine s_call (Lc := [(v, rowM d), (p, .box [AI x3])]) (Lr := []) rfl rfl rfl rfl rfl s2 (SubL.of_eq rfl) (List.Perm.refl _) ?_; rintro _ _ ⟨rfl, rfl⟩ | refine s_call (Lc := [(v, rowM d), (p, .box [AI y3])]) (Lr := []) rfl rfl rfl rfl rfl s3 (SubL.of_eq rfl) (List.Perm.refl _) ?_; rintro _ _ ⟨rfl, rfl⟩))
  exact fin (x := AI z2) (.inr rfl) rfl (Sub.refl _) ⟨rfl, rfl⟩ (OSub.refl _)
theorem meda_spec (d : Array Mo) (hd : AllB d) (a s : Nat) (h1 : 1 ≤ a) (ha : a + 1 < d.size) (hs : s ≤ 1000) (v p : Value) :
    ACalls Tryz.prog 162 [.lit v, AI a, .pt p 0 0 0, cmpF] [(v, rowM d), (p, .box [AI s])]
      (fun y M => y = AI ((Sort.medianAdjacent ltM d a s).1 : Nat) ∧ M = [(v, rowM d), (p, .box [AI ((Sort.medianAdjacent ltM d a s).2 : Nat)])]) := by
  have hn := hd.n
  have s1 := med_spec d hd (a - 1) a (a + 1) s (by omega) (by omega) (by omega) hs v p
  unfold Sort.medianAdjacent
  rw [show ((a - 1 : Nat) : Int) = (a : Int) - 1 by omega, show ((a + 1 : Nat) : Int) = (a : Int) + 1 by omega] at s1
  generalize Sort.median ltM d (a - 1) a (a + 1) s = r at *
  obtain ⟨r1, r2⟩ := r
  refine a_enter Tryz.func162 (by kernel_rfl) rfl Tryz.ntmps162 rfl (by simp) ?_
  repeat (first | refine gA pk ?_ | (show AL _ _ _ _ _ _ _; first | refine s_call (Lc := [(v, rowM d), (p, .box [AI s])]) (Lr := []) rfl rfl rfl rfl rfl s1 (SubL.of_eq rfl) (List.Perm.refl _) ?_; rintro _ _ ⟨rfl, rfl⟩))
  exact fin (x := AI r1) (.inr rfl) rfl (Sub.refl _) ⟨rfl, rfl⟩ (OSub.refl _)
def hintC : Sort.Hint → Int
  | .unknown => 0
  | .increasing => 1
  | .decreasing => 2
theorem hintC_of (n : Nat) : hintC (if n = 0 then .increasing else if n = 12 then .decreasing else .unknown) = if n = 0 then 1 else if n = 12 then 2 else 0 := by
  split
  · rfl
  · split <;> rfl
theorem piv_spec (d : Array Mo) (hd : AllB d) (a b : Nat) (hab : a < b) (hb : b ≤ d.size) (v : Value) :
    ACalls Tryz.prog 135 [.lit v, AI a, AI b, cmpF] [(v, rowM d)]
      (fun y M => y = .tup [AI ((Sort.choosePivot ltM d a b).1 : Nat), AI (hintC (Sort.choosePivot ltM d a b).2)] ∧ M = [(v, rowM d)]) := by
  have hn := hd.n
  obtain ⟨r, hr⟩ : ∃ r, Sort.choosePivot ltM d a b = r := ⟨_, rfl⟩
  rw [hr]
  unfold Sort.choosePivot at hr
  simp only [] at hr
  obtain ⟨n, rfl⟩ : ∃ n, b = a + n := ⟨b - a, by omega⟩
  rw [Nat.add_sub_cancel_left] at hr
  have hq : ((a + n : Nat) : Int) - (a : Int) = n := by omega
  obtain ⟨q, hqq⟩ : ∃ q, n / 4 = q := ⟨_, rfl⟩
  rw [hqq] at hr
  have hqz : (n : Int) / 4 = (q : Int) := by omega
  have e1 : (a : Int) + (q : Int) * 1 = ((a + q * 1 : Nat) : Int) := by omega
  have e2 : (a : Int) + (q : Int) * 2 = ((a + q * 2 : Nat) : Int) := by omega
  have e3 : (a : Int) + (q : Int) * 3 = ((a + q * 3 : Nat) : Int) := by omega
  generalize hi : a + q * 1 = i at *
  generalize hj : a + q * 2 = j at *
  generalize hk : a + q * 3 = k at *
  generalize hm : (if n ≥ 8 then _ else (j, 0) : Nat × Nat) = m at hr
  subst hr
  obtain ⟨m1, m2⟩ := m
  simp only
  rw [hintC_of]
  refine a_enter Tryz.func135 (by kernel_rfl) rfl Tryz.ntmps135 rfl (by simp) ?_
  repeat (first | refine gN pk ?_ | (show AL _ _ _ _ _ _ _; first | refine s_quo rfl rfl rfl rfl rfl rfl (by omega) (by omega) (IntWalk.i64_in _ (by omega)) ?_ | refine jL tok (fun ux => ?_)))
  rw [hq, hqz, e1, e2, e3]
  by_cases h8 : n ≥ 8
  · rw [if_pos h8] at hm
    have q2 : 2 ≤ q := by omega
    by_cases h50 : n ≥ 50
    · rw [if_pos h50] at hm
      have g1 := Sort.medianAdjacent_mem ltM d i 0
      have f1 := median_bd d (i - 1) i (i + 1) 0
      have s1 := fun p => meda_spec d hd i 0 (by omega) (by omega) (by omega) v p
      change (Sort.medianAdjacent ltM d i 0).2 ≤ _ at f1
      generalize Sort.medianAdjacent ltM d i 0 = u at *
      obtain ⟨i1, i2⟩ := u
      simp only at hm g1 f1 s1
      have g2 := Sort.medianAdjacent_mem ltM d j i2
      have f2 := median_bd d (j - 1) j (j + 1) i2
      have s2 := fun p => meda_spec d hd j i2 (by omega) (by omega) (by omega) v p
      change (Sort.medianAdjacent ltM d j i2).2 ≤ _ at f2
      generalize Sort.medianAdjacent ltM d j i2 = u at *
      obtain ⟨j1, j2⟩ := u
      simp only at hm g2 f2 s2
      have g3 := Sort.medianAdjacent_mem ltM d k j2
      have f3 := median_bd d (k - 1) k (k + 1) j2
      have s3 := fun p => meda_spec d hd k j2 (by omega) (by omega) (by omega) v p
      change (Sort.medianAdjacent ltM d k j2).2 ≤ _ at f3
      generalize Sort.medianAdjacent ltM d k j2 = u at *
      obtain ⟨k1, k2⟩ := u
      simp only at hm g3 f3 s3
      have s4 := fun p => med_spec d hd i1 j1 k1 k2 (by omega) (by omega) (by omega) (by omega) v p
      rw [hm] at s4
      clear g1 g2 g3 f1 f2 f3 hm
      by_cases h0 : m2 = 0
      · rw [if_pos h0]
        repeat (first | refine gA pk ?_ | (show AL _ _ _ _ _ _ _; first | refine s_call (Lc := [(v, rowM d), (ux, .box [AI 0])]) (Lr := []) rfl rfl rfl rfl rfl (s1 ux) (SubL.of_eq rfl) (List.Perm.swap _ _ _) ?_; rintro _ _ ⟨rfl, rfl⟩ | refine s_call (Lc := [(v, rowM d), (ux, .box [AI i2])]) (Lr := []) rfl rfl rfl rfl rfl (s2 ux) (SubL.of_eq rfl) (List.Perm.refl _) ?_; rintro _ _ ⟨rfl, rfl⟩ | refine s_call (Lc := [(v, rowM d), (ux, .box [AI j2])]) (Lr := []) rfl rfl rfl rfl rfl (s3 ux) (SubL.of_eq rfl) (List.Perm.refl _) ?_; rintro _ _ ⟨rfl, rfl⟩ | refine s_call (Lc := [(v, rowM d), (ux, .box [AI k2])]) (Lr := []) rfl rfl rfl rfl rfl (s4 ux) (SubL.of_eq rfl) (List.Perm.refl _) ?_; rintro _ _ ⟨rfl, rfl⟩ | refine jO tok 1 ?_))
        exact fin (x := .tup [AI (m1 : Nat), AI 1]) (.inr rfl) rfl (Sub.refl _) ⟨rfl, rfl⟩ (OSub.keep (OSub.none _))
      · rw [if_neg h0]
        by_cases h12 : m2 = 12
        · rw [if_pos h12]
          repeat (first | refine gA pk ?_ | (show AL _ _ _ _ _ _ _; first | refine s_call (Lc := [(v, rowM d), (ux, .box [AI 0])]) (Lr := []) rfl rfl rfl rfl rfl (s1 ux) (SubL.of_eq rfl) (List.Perm.swap _ _ _) ?_; rintro _ _ ⟨rfl, rfl⟩ | refine s_call (Lc := [(v, rowM d), (ux, .box [AI i2])]) (Lr := []) rfl rfl rfl rfl rfl (s2 ux) (SubL.of_eq rfl) (List.Perm.refl _) ?_; rintro _ _ ⟨rfl, rfl⟩ | refine s_call (Lc := [(v, rowM d), (ux, .box [AI j2])]) (Lr := []) rfl rfl rfl rfl rfl (s3 ux) (SubL.of_eq rfl) (List.Perm.refl _) ?_; rintro _ _ ⟨rfl, rfl⟩ | refine s_call (Lc := [(v, rowM d), (ux, .box [AI k2])]) (Lr := []) rfl rfl rfl rfl rfl (s4 ux) (SubL.of_eq rfl) (List.Perm.refl _) ?_; rintro _ _ ⟨rfl, rfl⟩ | refine jO tok 1 ?_))
          exact fin (x := .tup [AI (m1 : Nat), AI 2]) (.inr rfl) rfl (Sub.refl _) ⟨rfl, rfl⟩ (OSub.keep (OSub.none _))
        · rw [if_neg h12]
          repeat (first | refine gA pk ?_ | (show AL _ _ _ _ _ _ _; first | refine s_call (Lc := [(v, rowM d), (ux, .box [AI 0])]) (Lr := []) rfl rfl rfl rfl rfl (s1 ux) (SubL.of_eq rfl) (List.Perm.swap _ _ _) ?_; rintro _ _ ⟨rfl, rfl⟩ | refine s_call (Lc := [(v, rowM d), (ux, .box [AI i2])]) (Lr := []) rfl rfl rfl rfl rfl (s2 ux) (SubL.of_eq rfl) (List.Perm.refl _) ?_; rintro _ _ ⟨rfl, rfl⟩ | refine s_call (Lc := [(v, rowM d), (ux, .box [AI j2])]) (Lr := []) rfl rfl rfl rfl rfl (s3 ux) (SubL.of_eq rfl) (List.Perm.refl _) ?_; rintro _ _ ⟨rfl, rfl⟩ | refine s_call (Lc := [(v, rowM d), (ux, .box [AI k2])]) (Lr := []) rfl rfl rfl rfl rfl (s4 ux) (SubL.of_eq rfl) (List.Perm.refl _) ?_; rintro _ _ ⟨rfl, rfl⟩ | refine jO tok 1 ?_))
          exact fin (x := .tup [AI (m1 : Nat), AI 0]) (.inr rfl) rfl (Sub.refl _) ⟨rfl, rfl⟩ (OSub.keep (OSub.none _))
    · rw [if_neg h50] at hm
      have s4 := fun p => med_spec d hd i j k 0 (by omega) (by omega) (by omega) (by omega) v p
      rw [hm] at s4
      clear hm
      by_cases h0 : m2 = 0
      · rw [if_pos h0]
        repeat (first | refine gA pk ?_ | (show AL _ _ _ _ _ _ _; first | refine s_call (Lc := [(v, rowM d), (ux, .box [AI 0])]) (Lr := []) rfl rfl rfl rfl rfl (s4 ux) (SubL.of_eq rfl) (List.Perm.swap _ _ _) ?_; rintro _ _ ⟨rfl, rfl⟩ | refine jO tok 1 ?_))
        exact fin (x := .tup [AI (m1 : Nat), AI 1]) (.inr rfl) rfl (Sub.refl _) ⟨rfl, rfl⟩ (OSub.keep (OSub.none _))
      · rw [if_neg h0]
        by_cases h12 : m2 = 12
        · rw [if_pos h12]
          repeat (first | refine gA pk ?_ | (show AL _ _ _ _ _ _ _; first | refine s_call (Lc := [(v, rowM d), (ux, .box [AI 0])]) (Lr := []) rfl rfl rfl rfl rfl (s4 ux) (SubL.of_eq rfl) (List.Perm.swap _ _ _) ?_; rintro _ _ ⟨rfl, rfl⟩ | refine jO tok 1 ?_))
          exact fin (x := .tup [AI (m1 : Nat), AI 2]) (.inr rfl) rfl (Sub.refl _) ⟨rfl, rfl⟩ (OSub.keep (OSub.none _))
        · rw [if_neg h12]
          repeat (first | refine gA pk ?_ | (show AL _ _ _ _ _ _ _; first | refine s_call (Lc := [(v, rowM d), (ux, .box [AI 0])]) (Lr := []) rfl rfl rfl rfl rfl (s4 ux) (SubL.of_eq rfl) (List.Perm.swap _ _ _) ?_; rintro _ _ ⟨rfl, rfl⟩ | refine jO tok 1 ?_))
          exact fin (x := .tup [AI (m1 : Nat), AI 0]) (.inr rfl) rfl (Sub.refl _) ⟨rfl, rfl⟩ (OSub.keep (OSub.none _))
  · rw [if_neg h8] at hm
    cases hm
    rw [if_pos rfl]
    repeat (first | refine gA pk ?_ | (show AL _ _ _ _ _ _ _; first | refine jO tok 0 ?_))
    exact fin (x := .tup [AI (j : Nat), AI 1]) (.inr rfl) rfl (Sub.refl _) ⟨rfl, rfl⟩ (OSub.drop (OSub.refl _))
end Go.Proofs.YtddohheabpiljaaGreat
end
section
namespace Go.Proofs.YtddohheabpiljaaGreat
open Go.Sj Go.Sj.Typ
set_option maxRecDepth 8000
set_option maxHeartbeats 4000000
def OkT (t : Tys) : Prop := ∀ n ∈ t.nodes, n.attrs.length ≤ 140737488355328
def AttO (a : Att) : Prop := a.name.size ≤ 40 ∧ a.names.length ≤ 25 ∧ ∀ s ∈ a.names, s.size ≤ 40
def NodO (n : Nod) : Prop := n.name.size ≤ 40 ∧ n.attrs.length ≤ 30 ∧ ∀ a ∈ n.attrs, AttO a
theorem take_allQ {α : Type} {p : α → Prop} {l : List α} {k : Nat} {x : α} (hx : l[k]? = some x) (h : ∀ y ∈ l.take k, p y) (hp : p x) : ∀ y ∈ l.take (k + 1), p y := by
  obtain ⟨hk, he⟩ := List.getElem?_eq_some_iff.1 hx
  intro y hy
  rw [List.take_succ_eq_append_getElem hk] at hy
  rcases List.mem_append.1 hy with h1 | h1
  · exact h y h1
  · obtain rfl := List.mem_singleton.1 h1
    rw [he]; exact hp
theorem Few_spec (t : Tys) (ht : OkT t) : ACalls Tryz.prog 56 [tysA t] [] (fun y L => (∃ b, y = AB b ∧ (b = true → Small t)) ∧ L = []) := by
  have ln : (t.nodes.map cNod).length = t.nodes.length := by simp
  have le : (t.edges.map cEdg).length = t.edges.length := by simp
  by_cases h1 : 20 < t.nodes.length ∨ 30 < t.edges.length
  · refine a_enter Tryz.func56 (by kernel_rfl) rfl Tryz.ntmps56 rfl (by simp) ?_; refine a_seq ?_; refine a_reg ?_; (repeat (first | refine gZ pk ?_ | (show AL _ _ _ _ _ _ _; first | refine jB (fun u => ?_)))); refine a_frzBox 0 1 rfl rfl ?_
    repeat' (first | refine gA pk ?_ | (show AL _ _ _ _ _ _ _; first | (refine s_cmp rfl rfl rfl rfl rfl rfl rfl (fun hb => ?_) (fun hb => ?_) <;> simp only [cmpP] at hb)) | fail)
    all_goals first | (exfalso; omega) | skip
    all_goals refine finQ ?_
    all_goals exact ⟨⟨false, rfl, by simp⟩, rfl⟩
  · refine a_enter Tryz.func56 (by kernel_rfl) rfl Tryz.ntmps56 rfl (by simp) ?_; refine a_seq ?_; refine a_reg ?_; (repeat (first | refine gZ pk ?_ | (show AL _ _ _ _ _ _ _; first | refine jB (fun u => ?_)))); refine a_frzBox 0 1 rfl rfl ?_
    repeat (first | refine gA pk ?_)
    refine a_loop2 (fun (i : Nat) (m : Int) => [(1, tysP t), (3, AI m), (4, AI i)]) (fun _ _ => []) (fun i m => i ≤ t.nodes.length ∧ (0 ≤ m ∧ m ≤ 30) ∧ ∀ n ∈ t.nodes.take i, NodO n) (fun i _ => t.nodes.length - i) 0 0 ⟨Nat.zero_le _, by omega, by simp⟩ ?_ (OSub.none _) ?_
    · exact subQ
    · rintro i m ⟨hi, ⟨hm0, hm1⟩, hinv⟩
      rcases Nat.lt_or_ge i t.nodes.length with h | h
      · have hx := List.getElem?_eq_getElem h
        have hat := ht _ (List.getElem_mem h)
        generalize t.nodes[i] = n at hx hat
        have xk : (t.nodes.map cNod)[(i : Int).toNat]? = some (cNod n) := map_get hx
        have la : (n.attrs.map cAtt).length = n.attrs.length := by simp
        by_cases h2 : 30 < m + n.attrs.length ∨ 40 < n.name.size
        · repeat' (first | refine gA pk ?_ | (show AL _ _ _ _ _ _ _; first | refine jX tok xk ?_ | (refine s_cmp rfl rfl rfl rfl rfl rfl rfl (fun hb => ?_) (fun hb => ?_) <;> simp only [cmpP] at hb)) | fail)
          all_goals first | (exfalso; omega) | skip
          all_goals refine finQ ?_
          all_goals exact ⟨⟨false, rfl, by simp⟩, rfl⟩
        · have h3 : m + n.attrs.length ≤ 30 := by omega
          repeat (first | refine gA pk ?_ | (show AL _ _ _ _ _ _ _; first | refine jX tok xk ?_))
          refine a_loopX (fun k : Nat => [(1, tysP t), (3, AI (m + (n.attrs.map cAtt).length)), (4, AI i), (5, AI k)]) (fun _ => []) (fun k => k ≤ n.attrs.length ∧ ∀ a ∈ n.attrs.take k, AttO a) (fun k => n.attrs.length - k) 0 ⟨Nat.zero_le _, by simp⟩ ?_ (OSub.none _) ?_
          · exact subQ
          · rintro k ⟨hk, hinv2⟩
            rcases Nat.lt_or_ge k n.attrs.length with h' | h'
            · have hy := List.getElem?_eq_getElem h'
              generalize n.attrs[k] = a at hy
              have yk : (n.attrs.map cAtt)[(k : Int).toNat]? = some (cAtt a) := map_get hy
              have lnm : (a.names.map cS).length = a.names.length := by simp
              by_cases h4 : 40 < a.name.size ∨ 25 < a.names.length
              · repeat' (first | refine gA pk ?_ | (show AL _ _ _ _ _ _ _; first | refine jX tok xk ?_ | refine jX tok yk ?_ | refine jL tok (fun u => ?_) | refine jS tok 0 ?_ | refine jO tok 0 ?_ | (refine s_cmp rfl rfl rfl rfl rfl rfl rfl (fun hb => ?_) (fun hb => ?_) <;> simp only [cmpP] at hb)) | fail)
                all_goals first | (exfalso; omega) | skip
                all_goals refine finQ ?_
                all_goals exact ⟨⟨false, rfl, by simp⟩, rfl⟩
              · (repeat (first | refine a_seq ?_ | refine a_block ?_)); refine a_reg ?_
                repeat (first | refine gZ pk ?_ | (show AL _ _ _ _ _ _ _; first | refine jX tok xk ?_))
                (repeat (first | refine a_seq ?_ | refine a_block ?_)); refine a_reg ?_
                repeat (first | refine gZ pk ?_ | (show AL _ _ _ _ _ _ _; first | refine jX tok xk ?_ | refine jX tok yk ?_ | refine jL tok (fun u => ?_) | refine jS tok 0 ?_))
                refine a_frzBox 0 6 rfl rfl ?_
                repeat (first | refine gA pk ?_)
                refine a_loopX (fun j : Nat => [(1, tysP t), (3, AI (m + (n.attrs.map cAtt).length)), (4, AI i), (5, AI k), (6, .ip (cAtt a)), (7, AI j)]) (fun _ => []) (fun j => j ≤ a.names.length ∧ ∀ s ∈ a.names.take j, s.size ≤ 40) (fun j => a.names.length - j) 0 ⟨Nat.zero_le _, by simp⟩ ?_ (OSub.none _) ?_
                · exact subQ
                · rintro j ⟨hj, hinv3⟩
                  rcases Nat.lt_or_ge j a.names.length with h5 | h5
                  · have hz := List.getElem?_eq_getElem h5
                    generalize a.names[j] = s at hz
                    have zk : (a.names.map cS)[(j : Int).toNat]? = some (cS s) := map_get hz
                    by_cases h6 : 40 < s.size
                    · repeat (first | refine gA pk ?_ | (show AL _ _ _ _ _ _ _; first | refine jX tok zk ?_))
                      refine finQ ?_
                      exact ⟨⟨false, rfl, by simp⟩, rfl⟩
                    · repeat (first | refine gA pk ?_ | (show AL _ _ _ _ _ _ _; first | refine jX tok zk ?_))
                      exact ⟨j + 1, ⟨by omega, take_allQ hz hinv3 (by omega)⟩, by omega, by exact subQ, OSub.none _⟩
                  · obtain rfl : j = a.names.length := by omega
                    rw [List.take_length] at hinv3
                    repeat (first | refine gA pk ?_)
                    exact ⟨k + 1, ⟨by omega, take_allQ hy hinv2 ⟨by omega, by omega, hinv3⟩⟩, by omega, by exact subQ, OSub.none _⟩
            · obtain rfl : k = n.attrs.length := by omega
              rw [List.take_length] at hinv2
              repeat (first | refine gA pk ?_ | (show AL _ _ _ _ _ _ _; first | refine jX tok xk ?_))
              exact ⟨i + 1, m + ((n.attrs.map cAtt).length : Int), ⟨by omega, by omega, take_allQ hx hinv ⟨by omega, by omega, hinv2⟩⟩, by omega, by exact subQ, OSub.none _⟩
      · obtain rfl : i = t.nodes.length := by omega
        rw [List.take_length] at hinv
        repeat (first | refine gA pk ?_)
        refine a_loopX (fun i : Nat => [(1, tysP t), (8, AI i)]) (fun _ => []) (fun i => i ≤ t.edges.length ∧ ∀ n ∈ t.edges.take i, n.name.size ≤ 40) (fun i => t.edges.length - i) 0 ⟨Nat.zero_le _, by simp⟩ ?_ (OSub.none _) ?_
        · exact subQ
        · rintro i ⟨hi, hinv2⟩
          rcases Nat.lt_or_ge i t.edges.length with h' | h'
          · have hx := List.getElem?_eq_getElem h'
            generalize t.edges[i] = n at hx
            have xk : (t.edges.map cEdg)[(i : Int).toNat]? = some (cEdg n) := map_get hx
            by_cases h2 : 40 < n.name.size
            · repeat (first | refine gA pk ?_ | (show AL _ _ _ _ _ _ _; first | refine jX tok xk ?_))
              refine finQ ?_
              exact ⟨⟨false, rfl, by simp⟩, rfl⟩
            · repeat (first | refine gA pk ?_ | (show AL _ _ _ _ _ _ _; first | refine jX tok xk ?_))
              exact ⟨i + 1, ⟨by omega, take_allQ hx hinv2 (by omega)⟩, by omega, by exact subQ, OSub.none _⟩
          · obtain rfl : i = t.edges.length := by omega
            rw [List.take_length] at hinv2
            repeat (first | refine gA pk ?_)
            refine finQ ?_
            exact ⟨⟨true, rfl, fun _ => ⟨by omega, by omega, hinv, hinv2⟩⟩, rfl⟩
end Go.Proofs.YtddohheabpiljaaGreat
end
section
namespace Go.Proofs.YtddohheabpiljaaGreat
open Go.Sj Go.Sj.Typ Go.Sj.Sta Go.Sj.Inc
set_option maxRecDepth 8000
set_option maxHeartbeats 16000000
theorem calls_subA {P : Program} {f : FuncId} {args args' : List AV} {L : Own} {R : AV → Own → Prop} (h : Go.Sj.ACalls P f args L R) (hs : SubL args' args) : Go.Sj.ACalls P f args' L R :=
  ⟨h.ok, fun σ F w vs a b => h.out σ F w vs a (hs.vrs b)⟩
end Go.Proofs.YtddohheabpiljaaGreat
end
section
namespace Go.Proofs.YtddohheabpiljaaGreat
open Go.Sj Go.Sj.Typ Go.Sj.Sta Go.Sj.Inc
set_option maxRecDepth 8000
set_option maxHeartbeats 16000000
def openB (n : Nat) (k : Int) : Bool := decide (k < -1) || decide ((n : Int) ≤ k)
theorem sopen1_spec (n : Nat) (k : Int) : Pure Tryz.prog 131 [AI k, .ip [AI n]] (AB (openB n k)) := by
  unfold openB
  by_cases h1 : k < -1
  · rw [decide_eq_true h1, Bool.true_or]
    refine a_enter Tryz.func131 (by kernel_rfl) rfl Tryz.ntmps131 rfl (by simp) ?_
    repeat (first | refine gA pk ?_)
    refine finQ ?_
    exact ⟨rfl, rfl⟩
  · rw [decide_eq_false h1, Bool.false_or]
    by_cases h2 : (n : Int) ≤ k
    all_goals
      first | rw [decide_eq_true h2] | rw [decide_eq_false h2]
      refine a_enter Tryz.func131 (by kernel_rfl) rfl Tryz.ntmps131 rfl (by simp) ?_
      repeat (first | refine gA pk ?_)
      refine finQ ?_
      exact ⟨rfl, rfl⟩
def openE (l : List Int) (n : Nat) : Int := if l.any (openB n) = true then 6 else 0
theorem sopen_spec (l : List Int) (hl : l.length ≤ 1000) (n : Nat) : Pure Tryz.prog 112 [ints l, AI n] (AI (openE l n)) := by
  have s1 := ContainsFuncI_spec l (by omega) 131 [.ip [AI n]] (openB n) (fun x _ => sopen1_spec n x)
  unfold openE
  generalize l.any (openB n) = b at *
  cases b
  · rw [if_neg (by decide)]
    refine a_enter Tryz.func112 (by kernel_rfl) rfl Tryz.ntmps112 rfl (by simp) ?_; refine a_seq ?_; refine a_reg ?_; (repeat (first | refine gZ pk ?_ | (show AL _ _ _ _ _ _ _; first | refine jB (fun u => ?_)))); refine a_frzBox 0 3 rfl rfl ?_
    repeat (first | refine gA pk ?_ | (show AL _ _ _ _ _ _ _; first | refine jP s1 ?_))
    refine finQ ?_
    exact ⟨rfl, rfl⟩
  · rw [if_pos rfl]
    refine a_enter Tryz.func112 (by kernel_rfl) rfl Tryz.ntmps112 rfl (by simp) ?_; refine a_seq ?_; refine a_reg ?_; (repeat (first | refine gZ pk ?_ | (show AL _ _ _ _ _ _ _; first | refine jB (fun u => ?_)))); refine a_frzBox 0 3 rfl rfl ?_
    repeat (first | refine gA pk ?_ | (show AL _ _ _ _ _ _ _; first | refine jP s1 ?_))
    refine finQ ?_
    exact ⟨rfl, rfl⟩
def seaP (t : Tys) (p g : Gr) (a b : List Int) (inj : Bool) : Sea := ⟨p, g, okT t, some a, some b, inj⟩
def extR (t : Tys) (p g : Gr) (a b : List Int) (inj : Bool) : List Mo × Int :=
  if validS t p g ≠ 0 then ([], validS t p g)
  else if a.length ≠ p.nodes.length ∨ b.length ≠ p.edges.length then ([], 20)
  else if openE a g.nodes.length ≠ 0 then ([], openE a g.nodes.length)
  else if openE b g.edges.length ≠ 0 then ([], openE b g.edges.length)
  else capR (matL (seaP t p g a b inj))
theorem sextend_spec (t : Tys) (ht : Small t) (p g : Gr) (hp : OkG p) (hg : OkG g) (a b : List Int) (ha : a.length ≤ 1000) (hb : b.length ≤ 1000) (inj : Bool) :
    Pure Tryz.prog 97 [tysA t, grA p, grA g, .agg [ints a, ints b], AB inj] (.tup [mosA (extR t p g a b inj).1, AI (extR t p g a b inj).2]) := by
  have s1 := svalid_spec t ht p g hp hg
  have lpn : (rowI p.nodes).length = p.nodes.length := by simp
  have lpe : (p.edges.map cEd).length = p.edges.length := by simp
  have lgn : (rowI g.nodes).length = g.nodes.length := by simp
  have lge : (g.edges.map cEd).length = g.edges.length := by simp
  have la : (rowI a).length = a.length := by simp
  have lb : (rowI b).length = b.length := by simp
  unfold extR
  by_cases h : validS t p g = 0
  · rw [if_neg (Decidable.not_not.2 h)]
    have hz := validS_zero h
    rw [h] at s1
    by_cases hab : a.length ≠ p.nodes.length ∨ b.length ≠ p.edges.length
    · rw [if_pos hab]
      by_cases h1 : a.length = p.nodes.length
      all_goals
        refine a_enter Tryz.func97 (by kernel_rfl) rfl Tryz.ntmps97 rfl (by simp) ?_
        refine a_seq ?_
        refine a_reg ?_
        repeat (first | refine gZ pk ?_ | (show AL _ _ _ _ _ _ _; first | refine jB (fun u => ?_)))
        refine a_frzBox 3 5 rfl rfl ?_
        refine a_frzBox 2 6 rfl rfl ?_
        refine a_frzBox 1 7 rfl rfl ?_
        refine a_frzBox 0 8 rfl rfl ?_
        repeat (first | refine gA pk ?_ | (show AL _ _ _ _ _ _ _; first | refine jP s1 ?_))
        refine fin (x := .tup [nilS, AI 20]) (.inr rfl) rfl (Sub.tup (m := [mosA [], AI 20]) ⟨Sub.nil 2, Sub.refl _, trivial⟩) ?_ (OSub.none _)
        exact ⟨rfl, rfl⟩
    · rw [if_neg hab]
      have s2 := sopen_spec a ha g.nodes.length
      have s3 := sopen_spec b hb g.edges.length
      have s4 := sall_spec t ht hz.1 (seaP t p g a b inj) ⟨⟨hz.2.1, hz.2.2.1, fun l hl => (by cases hl; show a.length = p.nodes.length; omega), fun l hl => (by cases hl; show b.length = p.edges.length; omega)⟩, rfl, typT_of hz.2.1 hz.2.2.2.1, typT_of hz.2.2.1 hz.2.2.2.2⟩
      change Pure _ _ [tysA t, grA p, grA g, .agg [ints a, ints b], AB inj] _ at s4
      generalize capR (matL (seaP t p g a b inj)) = r at *
      obtain ⟨r1, r2⟩ := r
      replace s2 : Pure Tryz.prog 112 [ints a, AI (rowI g.nodes).length] (AI (openE a g.nodes.length)) := by rw [lgn]; exact s2
      replace s3 : Pure Tryz.prog 112 [ints b, AI (g.edges.map cEd).length] (AI (openE b g.edges.length)) := by rw [lge]; exact s3
      by_cases h2 : openE a g.nodes.length = 0
      · rw [if_neg (Decidable.not_not.2 h2)]
        rw [h2] at s2
        by_cases h3 : openE b g.edges.length = 0
        · rw [if_neg (Decidable.not_not.2 h3)]
          rw [h3] at s3
          refine a_enter Tryz.func97 (by kernel_rfl) rfl Tryz.ntmps97 rfl (by simp) ?_
          refine a_seq ?_
          refine a_reg ?_
          repeat (first | refine gZ pk ?_ | (show AL _ _ _ _ _ _ _; first | refine jB (fun u => ?_)))
          refine a_frzBox 3 5 rfl rfl ?_
          refine a_frzBox 2 6 rfl rfl ?_
          refine a_frzBox 1 7 rfl rfl ?_
          refine a_frzBox 0 8 rfl rfl ?_
          repeat (first | refine gA pk ?_ | (show AL _ _ _ _ _ _ _; first | refine jP s1 ?_ | refine jP s2 ?_ | refine jP s3 ?_ | refine jP s4 ?_))
          refine finQ ?_
          exact ⟨rfl, rfl⟩
        · rw [if_pos h3]
          generalize openE b g.edges.length = e at *
          refine a_enter Tryz.func97 (by kernel_rfl) rfl Tryz.ntmps97 rfl (by simp) ?_
          refine a_seq ?_
          refine a_reg ?_
          repeat (first | refine gZ pk ?_ | (show AL _ _ _ _ _ _ _; first | refine jB (fun u => ?_)))
          refine a_frzBox 3 5 rfl rfl ?_
          refine a_frzBox 2 6 rfl rfl ?_
          refine a_frzBox 1 7 rfl rfl ?_
          refine a_frzBox 0 8 rfl rfl ?_
          repeat (first | refine gA pk ?_ | (show AL _ _ _ _ _ _ _; first | refine jP s1 ?_ | refine jP s2 ?_ | refine jP s3 ?_))
          refine fin (x := .tup [nilS, AI e]) (.inr rfl) rfl (Sub.tup (m := [mosA [], AI e]) ⟨Sub.nil 2, Sub.refl _, trivial⟩) ?_ (OSub.none _)
          exact ⟨rfl, rfl⟩
      · rw [if_pos h2]
        generalize openE a g.nodes.length = e at *
        refine a_enter Tryz.func97 (by kernel_rfl) rfl Tryz.ntmps97 rfl (by simp) ?_
        refine a_seq ?_
        refine a_reg ?_
        repeat (first | refine gZ pk ?_ | (show AL _ _ _ _ _ _ _; first | refine jB (fun u => ?_)))
        refine a_frzBox 3 5 rfl rfl ?_
        refine a_frzBox 2 6 rfl rfl ?_
        refine a_frzBox 1 7 rfl rfl ?_
        refine a_frzBox 0 8 rfl rfl ?_
        repeat (first | refine gA pk ?_ | (show AL _ _ _ _ _ _ _; first | refine jP s1 ?_ | refine jP s2 ?_))
        refine fin (x := .tup [nilS, AI e]) (.inr rfl) rfl (Sub.tup (m := [mosA [], AI e]) ⟨Sub.nil 2, Sub.refl _, trivial⟩) ?_ (OSub.none _)
        exact ⟨rfl, rfl⟩
  · rw [if_pos h]
    generalize validS t p g = e at *
    refine a_enter Tryz.func97 (by kernel_rfl) rfl Tryz.ntmps97 rfl (by simp) ?_
    refine a_seq ?_
    refine a_reg ?_
    repeat (first | refine gZ pk ?_ | (show AL _ _ _ _ _ _ _; first | refine jB (fun u => ?_)))
    refine a_frzBox 3 5 rfl rfl ?_
    refine a_frzBox 2 6 rfl rfl ?_
    refine a_frzBox 1 7 rfl rfl ?_
    refine a_frzBox 0 8 rfl rfl ?_
    repeat (first | refine gA pk ?_ | (show AL _ _ _ _ _ _ _; first | refine jP s1 ?_))
    refine fin (x := .tup [nilS, AI e]) (.inr rfl) rfl (Sub.tup (m := [mosA [], AI e]) ⟨Sub.nil 2, Sub.refl _, trivial⟩) ?_ (OSub.none _)
    exact ⟨rfl, rfl⟩
theorem iown_spec (l : List Mo) (hm : ∀ m ∈ l, MoB m) (hl : l.length ≤ 1000000) : Pure Tryz.prog 52 [mosA l] (mosA l) := by
  have ll : (l.map cMo).length = l.length := by simp
  refine a_enter Tryz.func52 (by kernel_rfl) rfl Tryz.ntmps52 rfl (by simp) ?_
  repeat (first | refine gA pk ?_)
  rw [ll]
  refine a_loopG2 (fun (i : Nat) (vo : Value) => [(3, .lit vo), (6, mosA l), (7, AI l.length), (8, AI i)]) (fun i vo => [(vo, .row 95 2 ((l.take i).map cMo))]) (fun i _ => i ≤ l.length) (fun i _ => l.length - i) 0 (.slice none 0 0) (Nat.zero_le _) (.sub (by exact subQ) (.free (OSub.none _))) ?_
  intro i vo hi
  have hlp : ((l.take i).map cMo).length = i := by rw [List.length_map, List.length_take]; omega
  rcases Nat.lt_or_ge i l.length with h | h
  · have hp := List.getElem?_eq_getElem h
    have hb := hm _ (List.getElem_mem h)
    generalize l[i] = m at hp hb
    obtain ⟨m1, m2⟩ := m
    obtain ⟨hb1, hb2⟩ := hb
    simp only at hb1 hb2
    have s1 := (CloneN_spec m1 (by omega)).pure
    have s2 := (CloneN_spec m2 (by omega)).pure
    have xk : (l.map cMo)[(i : Int).toNat]? = some [ints m1, ints m2] := map_get (f := cMo) hp
    have hset : (l.take (i + 1)).map cMo = (l.take i).map cMo ++ [[ints m1, ints m2]] := by rw [List.take_add_one, hp]; simp
    repeat (first | refine gN pk ?_ | (show AL _ _ _ _ _ _ _; first | refine jX tok xk ?_ | refine jL tok (fun ux => ?_) | refine jS tok 0 ?_ | refine jO tok 0 ?_))
    refine a_frzBox 0 5 rfl rfl ?_
    refine a_regG ((List.range 11).map fun i => if inL [3, 6, 8, 9] i = true then .eff else .pure) [] [0, 1, 2, 4, 5, 3, 6, 7, 8, 9, 10] .stop mixed rfl rfl (by decide +kernel) ?_
    repeat' (first | (with_reducible show AG _ _ _ _ _ _ _ _ _ _; first | exact ag_none | refine ag_stop ?_ | refine ag_nd ?_ ?_) | (show AMid _ _ _ _; first | refine amid_f ?_ | refine amid_g (by first | exact OSub.refl _ | exact .drop (OSub.refl _) | exact .drop (.drop (OSub.refl _))) ?_) | refine gY pk ?_ | (show AL _ _ _ _ _ _ _; first | refine jP s1 ?_ | refine jP s2 ?_ | refine s_build1A tok rfl rfl rfl rfl rfl rfl rfl rfl (by decide) (fun lv => ?_) | refine s_append1K tok 0 rfl rfl rfl rfl rfl rfl (by decide) rfl rfl rfl rfl (by omega) (by omega) (fun w hw => ?_)) | fail)
    repeat (first | refine gA pk ?_)
    exact ⟨i + 1, w, by omega, by omega, .sub (by exact subQ) (by rw [hset]; exact OSub.refl _)⟩
  · obtain rfl : i = l.length := by omega
    rw [List.take_length]
    refine a_frz 0 3 rfl rfl ?_
    repeat (first | refine gA pk ?_)
    refine finQ ?_
    exact ⟨rfl, rfl⟩
end Go.Proofs.YtddohheabpiljaaGreat
end
