/- Parts of a proof. -/
import Derived.Sort.AssemblyPlain
import Derived.Test.YtddohheabpiljaaGreatE28
import Derived.Test.YtddohheabpiljaaGreatE29
set_option linter.unusedVariables false
set_option linter.unusedSimpArgs false
section
namespace Go.Proofs.YtddohheabpiljaaGreat
open Go.Sj Go.Sj.Typ Go.Sj.Sta Go.Sj.Inc
set_option maxRecDepth 8000
set_option maxHeartbeats 16000000
abbrev moA (m : Mo) : AV := .agg [ints m.1, ints m.2]
theorem icompare_spec (a b : Mo) (ha : MoB a) (hb : MoB b) : Pure Tryz.prog 63 [moA a, moA b] (AI (cmpM a b)) := by
  obtain ⟨a1, a2⟩ := a
  obtain ⟨b1, b2⟩ := b
  obtain ⟨h1, h2⟩ := ha
  obtain ⟨h3, h4⟩ := hb
  simp only at h1 h2 h3 h4
  have s1 := Compare_spec a1 b1 (by omega) (by omega)
  have s2 := Compare_spec a2 b2 (by omega) (by omega)
  have s3 := Or_spec [Can.cmpL a1 b1, Can.cmpL a2 b2] (Nat.le_of_ble_eq_true rfl)
  have hr : cmpM (a1, a2) (b1, b2) = orL [Can.cmpL a1 b1, Can.cmpL a2 b2] := by
    unfold cmpM
    by_cases h : Can.cmpL a1 b1 = 0
    · by_cases h' : Can.cmpL a2 b2 = 0 <;> simp [orL, h, h']
    · simp [orL, h]
  rw [hr]
  generalize Can.cmpL a1 b1 = x at *
  generalize Can.cmpL a2 b2 = y at *
  refine a_enter Tryz.func63 (by kernel_rfl) rfl Tryz.ntmps63 rfl (by simp) ?_
  refine a_seq ?_
  refine a_reg ?_
  repeat (first | refine gZ pk ?_ | (show AL _ _ _ _ _ _ _; first | refine jB (fun u => ?_)))
  refine a_frzBox 1 2 rfl rfl ?_
  refine a_frzBox 0 3 rfl rfl ?_
  refine a_regG ((List.range 13).map fun i => if inL [4, 9, 10, 11] i = true then .eff else .pure) [] [0, 1, 2, 3, 5, 6, 7, 8, 4, 9, 10, 11, 12] .stop mixed rfl rfl (by decide +kernel) ?_
  repeat' (first | (with_reducible show AG _ _ _ _ _ _ _ _ _ _; first | exact ag_none | refine ag_stop ?_ | refine ag_nd ?_ ?_) | (show AMid _ _ _ _; first | refine amid_f ?_ | refine amid_g (by first | exact OSub.refl _ | exact .drop (OSub.refl _) | exact .drop (.drop (OSub.refl _))) ?_) | refine gY pk ?_ | (show AL _ _ _ _ _ _ _; first | refine jP s1 ?_ | refine jP s2 ?_ | refine s_frzNow 0 rfl rfl rfl (s_build tok rfl rfl rfl rfl rfl rfl rfl rfl (by decide) (by decide) (fun v => AL.nil ⟨v, rfl, rfl, rfl⟩)) ?_ | refine jP s3 ?_) | fail)
  repeat (first | refine gA pk ?_)
  refine finQ ?_
  exact ⟨rfl, rfl⟩
theorem isame_spec (a b : Mo) (ha : MoB a) (hb : MoB b) : Pure Tryz.prog 42 [moA a, moA b] (AB (decide (a = b))) := by
  have s1 := icompare_spec a b ha hb
  by_cases h : a = b
  · rw [decide_eq_true h]
    subst h
    rw [cmpM_self] at s1
    refine a_enter Tryz.func42 (by kernel_rfl) rfl Tryz.ntmps42 rfl (by simp) ?_
    refine a_seq ?_
    refine a_reg ?_
    repeat (first | refine gZ pk ?_ | (show AL _ _ _ _ _ _ _; first | refine jB (fun u => ?_)))
    refine a_frzBox 1 2 rfl rfl ?_
    refine a_frzBox 0 3 rfl rfl ?_
    repeat (first | refine gA pk ?_ | (show AL _ _ _ _ _ _ _; first | refine jP s1 ?_))
    refine finQ ?_
    exact ⟨rfl, rfl⟩
  · rw [decide_eq_false h]
    have hz : cmpM a b ≠ 0 := fun e => h (cmpM_eq e)
    generalize cmpM a b = z at *
    refine a_enter Tryz.func42 (by kernel_rfl) rfl Tryz.ntmps42 rfl (by simp) ?_
    refine a_seq ?_
    refine a_reg ?_
    repeat (first | refine gZ pk ?_ | (show AL _ _ _ _ _ _ _; first | refine jB (fun u => ?_)))
    refine a_frzBox 1 2 rfl rfl ?_
    refine a_frzBox 0 3 rfl rfl ?_
    repeat (first | refine gA pk ?_ | (show AL _ _ _ _ _ _ _; first | refine jP s1 ?_))
    refine finQ ?_
    exact ⟨rfl, rfl⟩
theorem iEqualM_spec (a b : List Mo) (ha : ∀ m ∈ a, MoB m) (hb : ∀ m ∈ b, MoB m) (hla : a.length ≤ 1000000) (hlb : b.length ≤ 1000000) : Pure Tryz.prog 41 [mosA a, mosA b, .fn (.func 42) [] []] (AB (decide (a = b))) := by
  have la : (a.map cMo).length = a.length := by simp
  have lb : (b.map cMo).length = b.length := by simp
  by_cases hl : a.length = b.length
  · refine a_enter Tryz.func41 (by kernel_rfl) rfl Tryz.ntmps41 rfl (by simp) ?_
    repeat (first | refine gA pk ?_)
    rw [la]
    refine a_loopX (fun k : Nat => [(1, mosA b), (2, .fn (.func 42) [] []), (15, mosA a), (16, AI a.length), (17, AI k)]) (fun _ => []) (fun k => k ≤ a.length ∧ a.take k = b.take k) (fun k => a.length - k) 0 ⟨Nat.zero_le _, rfl⟩ ?_ (OSub.none _) ?_
    · exact subQ
    · rintro k ⟨hk, he⟩
      rcases Nat.lt_or_ge k a.length with h | h
      · have h1 := List.getElem?_eq_getElem h
        have h2 := List.getElem?_eq_getElem (l := b) (i := k) (by omega)
        have s1 := isame_spec _ _ (ha _ (List.getElem_mem h)) (hb _ (List.getElem_mem (l := b) (n := k) (by omega)))
        generalize a[k] = x at h1 s1
        generalize b[k]'(by omega) = y at h2 s1
        have x1 : (a.map cMo)[(k : Int).toNat]? = some (cMo x) := map_get (f := cMo) h1
        have x2 : (b.map cMo)[(k : Int).toNat]? = some (cMo y) := map_get (f := cMo) h2
        have hne : x ≠ y → decide (a = b) = false := fun hxy => decide_eq_false (fun e => by rw [e, h2] at h1; cases h1; exact hxy rfl)
        by_cases e1 : x = y
        · rw [decide_eq_true e1] at s1
          subst e1
          have ht := take_nextE h1 h2 he
          repeat (first | refine gA pk ?_ | (show AL _ _ _ _ _ _ _; first | refine jX tok x1 ?_ | refine jX tok x2 ?_ | refine jL tok (fun u1 => ?_) | refine jS tok 0 ?_ | refine jO tok 0 ?_ | refine jO tok 1 ?_ | refine jP s1 ?_))
          exact ⟨k + 1, ⟨by omega, ht⟩, by omega, by exact subQ, OSub.none _⟩
        · rw [decide_eq_false e1] at s1
          rw [hne e1]
          repeat (first | refine gA pk ?_ | (show AL _ _ _ _ _ _ _; first | refine jX tok x1 ?_ | refine jX tok x2 ?_ | refine jL tok (fun u1 => ?_) | refine jS tok 0 ?_ | refine jO tok 0 ?_ | refine jO tok 1 ?_ | refine jP s1 ?_))
          refine finQ ?_
          exact ⟨rfl, rfl⟩
      · have : a = b := by
          have e1 : a.take k = a := List.take_of_length_le (by omega)
          have e2 : b.take k = b := List.take_of_length_le (by omega)
          rw [← e1, ← e2, he]
        rw [decide_eq_true this]
        repeat (first | refine gA pk ?_)
        refine finQ ?_
        exact ⟨rfl, rfl⟩
  · rw [decide_eq_false (fun e => hl (by rw [e]))]
    refine a_enter Tryz.func41 (by kernel_rfl) rfl Tryz.ntmps41 rfl (by simp) ?_
    repeat (first | refine gA pk ?_)
    refine finQ ?_
    exact ⟨rfl, rfl⟩
theorem iValid1_spec (a b : List Mo) (ha : ∀ m ∈ a, MoB m) (hb : ∀ m ∈ b, MoB m) (hla : a.length ≤ 1000000) (hlb : b.length ≤ 1000000) : Pure Tryz.prog 40 [mosA a, mosA b] (AB (decide (a = b))) := by
  have s1 := iEqualM_spec a b ha hb hla hlb
  generalize decide (a = b) = r at *
  refine a_enter Tryz.func40 (by kernel_rfl) rfl Tryz.ntmps40 rfl (by simp) ?_
  repeat (first | refine gA pk ?_ | (show AL _ _ _ _ _ _ _; first | refine jP s1 ?_))
  refine finQ ?_
  exact ⟨rfl, rfl⟩
theorem iEqualMs_spec (a b : List (List Mo)) (ha : ∀ l ∈ a, l.length ≤ 1000000 ∧ ∀ m ∈ l, MoB m) (hb : ∀ l ∈ b, l.length ≤ 1000000 ∧ ∀ m ∈ l, MoB m) (hla : a.length ≤ 1000000) (hlb : b.length ≤ 1000000) : Pure Tryz.prog 39 [mssA a, mssA b, .fn (.func 40) [] []] (AB (decide (a = b))) := by
  have la : (a.map cMos).length = a.length := by simp
  have lb : (b.map cMos).length = b.length := by simp
  by_cases hl : a.length = b.length
  · refine a_enter Tryz.func39 (by kernel_rfl) rfl Tryz.ntmps39 rfl (by simp) ?_
    repeat (first | refine gA pk ?_)
    rw [la]
    refine a_loopX (fun k : Nat => [(1, mssA b), (2, .fn (.func 40) [] []), (15, mssA a), (16, AI a.length), (17, AI k)]) (fun _ => []) (fun k => k ≤ a.length ∧ a.take k = b.take k) (fun k => a.length - k) 0 ⟨Nat.zero_le _, rfl⟩ ?_ (OSub.none _) ?_
    · exact subQ
    · rintro k ⟨hk, he⟩
      rcases Nat.lt_or_ge k a.length with h | h
      · have h1 := List.getElem?_eq_getElem h
        have h2 := List.getElem?_eq_getElem (l := b) (i := k) (by omega)
        have b1 := ha _ (List.getElem_mem h)
        have b2 := hb _ (List.getElem_mem (l := b) (n := k) (by omega))
        have s1 := iValid1_spec _ _ b1.2 b2.2 b1.1 b2.1
        clear b1 b2
        generalize a[k] = x at h1 s1
        generalize b[k]'(by omega) = y at h2 s1
        have x1 : (a.map cMos)[(k : Int).toNat]? = some (cMos x) := map_get (f := cMos) h1
        have x2 : (b.map cMos)[(k : Int).toNat]? = some (cMos y) := map_get (f := cMos) h2
        have hne : x ≠ y → decide (a = b) = false := fun hxy => decide_eq_false (fun e => by rw [e, h2] at h1; cases h1; exact hxy rfl)
        by_cases e1 : x = y
        · rw [decide_eq_true e1] at s1
          subst e1
          have ht := take_nextE h1 h2 he
          repeat (first | refine gA pk ?_ | (show AL _ _ _ _ _ _ _; first | refine jX tok x1 ?_ | refine jX tok x2 ?_ | refine jP s1 ?_))
          exact ⟨k + 1, ⟨by omega, ht⟩, by omega, by exact subQ, OSub.none _⟩
        · rw [decide_eq_false e1] at s1
          rw [hne e1]
          repeat (first | refine gA pk ?_ | (show AL _ _ _ _ _ _ _; first | refine jX tok x1 ?_ | refine jX tok x2 ?_ | refine jP s1 ?_))
          refine finQ ?_
          exact ⟨rfl, rfl⟩
      · have : a = b := by
          have e1 : a.take k = a := List.take_of_length_le (by omega)
          have e2 : b.take k = b := List.take_of_length_le (by omega)
          rw [← e1, ← e2, he]
        rw [decide_eq_true this]
        repeat (first | refine gA pk ?_)
        refine finQ ?_
        exact ⟨rfl, rfl⟩
  · rw [decide_eq_false (fun e => hl (by rw [e]))]
    refine a_enter Tryz.func39 (by kernel_rfl) rfl Tryz.ntmps39 rfl (by simp) ?_
    repeat (first | refine gA pk ?_)
    refine finQ ?_
    exact ⟨rfl, rfl⟩
theorem find_le {S : Sea} (hp : GV S.p) {m : Nat} {x : Mo} (hm : m = remS S [] []) (hx : x ∈ findL S m [] []) : MoB x := by
  have h := find_ok m [] [] hm (Nat.zero_le _) (Nat.zero_le _) (fun _ => rfl) x hx
  have h1 := hp.nl
  have h2 := hp.el
  exact ⟨by rw [h.nl]; omega, by rw [h.el]; omega⟩
theorem allR_le (t : Tys) (p g : Gr) (inj : Bool) : (allR t p g inj).1.length ≤ 1000000 ∧ ∀ m ∈ (allR t p g inj).1, MoB m := by
  unfold allR
  split
  · exact ⟨Nat.zero_le _, by simp⟩
  · rename_i h
    have hz := validS_zero (Decidable.not_not.1 h)
    unfold capR
    split
    · exact ⟨Nat.zero_le _, by simp⟩
    · rename_i h2
      exact ⟨by show (matL _).length ≤ _; omega, fun m hm => find_le (S := seaA t p g inj) hz.2.1 (by simp [remS, seaA]) hm⟩
theorem matsL_le (t : Tys) (ps : List Gr) (g : Gr) (inj : Bool) : ∀ l ∈ matsL t ps g inj, l.length ≤ 1000000 ∧ ∀ m ∈ l, MoB m := fun l hl => by
  obtain ⟨p, _, rfl⟩ := List.mem_map.1 hl
  exact allR_le t p g inj
structure WatOk (w : Wat) : Prop where
  ps : ∀ p ∈ w.ps, OkG p
  pl : w.ps.length ≤ 140737488355328
  g : OkG w.g
  ms : ∀ l ∈ w.ms, l.length ≤ 1000000 ∧ ∀ m ∈ l, MoB m
  ml : w.ms.length ≤ 1000000
theorem ivalid_spec (t : Tys) (ht : Small t) (w : Wat) (hw : WatOk w) : Pure Tryz.prog 15 [tysA t, watA w] (AI (wvalE t w)) := by
  have s1 := imats_spec t ht w.ps w.g w.inj hw.ps hw.pl hw.g
  unfold wvalE
  unfold matsR at s1
  by_cases he : matsE t w.ps w.g w.inj = 0
  · rw [if_neg (Decidable.not_not.2 he)] at s1 ⊢
    have hps := (matsE_zero he).2.1
    have hL := matsL_le t w.ps w.g w.inj
    have hLl : (matsL t w.ps w.g w.inj).length ≤ 1000000 := by unfold matsL; rw [List.length_map]; omega
    have s2 := iEqualMs_spec (matsL t w.ps w.g w.inj) w.ms hL hw.ms hLl hw.ml
    generalize matsL t w.ps w.g w.inj = L at *
    obtain ⟨ps, g, inj, ms⟩ := w
    simp only at s1 s2
    by_cases hq : L = ms
    all_goals
      first | rw [decide_eq_true hq] at s2 | rw [decide_eq_false hq] at s2
      first | rw [if_pos hq] | rw [if_neg hq]
      refine a_enter Tryz.func15 (by kernel_rfl) rfl Tryz.ntmps15 rfl (by simp) ?_
      refine a_seq ?_
      refine a_reg ?_
      repeat (first | refine gZ pk ?_ | (show AL _ _ _ _ _ _ _; first | refine jB (fun u => ?_)))
      refine a_frzBox 1 2 rfl rfl ?_
      refine a_frzBox 0 3 rfl rfl ?_
      repeat (first | refine gA pk ?_ | (show AL _ _ _ _ _ _ _; first | refine jP s1 ?_ | refine jP s2 ?_))
      refine finQ ?_
      exact ⟨rfl, rfl⟩
  · rw [if_pos he] at s1 ⊢
    generalize matsE t w.ps w.g w.inj = e at *
    obtain ⟨ps, g, inj, ms⟩ := w
    simp only at s1
    refine a_enter Tryz.func15 (by kernel_rfl) rfl Tryz.ntmps15 rfl (by simp) ?_
    refine a_seq ?_
    refine a_reg ?_
    repeat (first | refine gZ pk ?_ | (show AL _ _ _ _ _ _ _; first | refine jB (fun u => ?_)))
    refine a_frzBox 1 2 rfl rfl ?_
    refine a_frzBox 0 3 rfl rfl ?_
    repeat (first | refine gA pk ?_ | (show AL _ _ _ _ _ _ _; first | refine jP s1 ?_))
    refine finQ ?_
    exact ⟨rfl, rfl⟩
theorem gvalidW_spec (t : Tys) (ht : Small t) (w : Wat) (hw : WatOk w) : Pure Tryz.prog 20 [tysA t, watA w] (AI (wvalE t w)) := by
  have s1 := gmats_spec t ht w.ps w.g w.inj hw.ps hw.pl hw.g
  unfold wvalE
  unfold matsR at s1
  by_cases he : matsE t w.ps w.g w.inj = 0
  · rw [if_neg (Decidable.not_not.2 he)] at s1 ⊢
    have hps := (matsE_zero he).2.1
    have hL := matsL_le t w.ps w.g w.inj
    have hLl : (matsL t w.ps w.g w.inj).length ≤ 1000000 := by unfold matsL; rw [List.length_map]; omega
    have s2 := gSameMats_spec (matsL t w.ps w.g w.inj) w.ms hL hw.ms hLl hw.ml
    generalize matsL t w.ps w.g w.inj = L at *
    obtain ⟨ps, g, inj, ms⟩ := w
    simp only at s1 s2
    by_cases hq : L = ms
    all_goals
      first | rw [decide_eq_true hq] at s2 | rw [decide_eq_false hq] at s2
      first | rw [if_pos hq] | rw [if_neg hq]
      refine a_enter Tryz.func20 (by kernel_rfl) rfl Tryz.ntmps20 rfl (by simp) ?_
      refine a_seq ?_
      refine a_reg ?_
      repeat (first | refine gZ pk ?_ | (show AL _ _ _ _ _ _ _; first | refine jB (fun u => ?_)))
      refine a_frzBox 1 2 rfl rfl ?_
      refine a_frzBox 0 3 rfl rfl ?_
      repeat (first | refine gA pk ?_ | (show AL _ _ _ _ _ _ _; first | refine jP s1 ?_ | refine jP s2 ?_))
      refine finQ ?_
      exact ⟨rfl, rfl⟩
  · rw [if_pos he] at s1 ⊢
    generalize matsE t w.ps w.g w.inj = e at *
    obtain ⟨ps, g, inj, ms⟩ := w
    simp only at s1
    refine a_enter Tryz.func20 (by kernel_rfl) rfl Tryz.ntmps20 rfl (by simp) ?_
    refine a_seq ?_
    refine a_reg ?_
    repeat (first | refine gZ pk ?_ | (show AL _ _ _ _ _ _ _; first | refine jB (fun u => ?_)))
    refine a_frzBox 1 2 rfl rfl ?_
    refine a_frzBox 0 3 rfl rfl ?_
    repeat (first | refine gA pk ?_ | (show AL _ _ _ _ _ _ _; first | refine jP s1 ?_))
    refine finQ ?_
    exact ⟨rfl, rfl⟩
end Go.Proofs.YtddohheabpiljaaGreat
end
section
namespace Go.Proofs.YtddohheabpiljaaGreat
open Go.Sj Go.Sj.Typ Go.Sj.Sta Go.Sj.Inc
set_option maxRecDepth 8000
set_option maxHeartbeats 16000000
abbrev rowM (d : Array Mo) : OB := .row 95 2 (d.toList.map cMo)
abbrev cmpF : AV := .fn (.func 63) [] []
def ltM (a b : Mo) : Bool := decide (cmpM a b < 0)
structure AllB (d : Array Mo) : Prop where
  n : d.size ≤ 1000000
  el : ∀ i : Nat, MoB d[i]!
theorem get_pos (d : Array Mo) {k : Nat} (h : k < d.size) : d[k]! = d[k] := getElem!_pos d k h
theorem get_neg (d : Array Mo) {k : Nat} (h : ¬ k < d.size) : d[k]! = default := getElem!_neg d k h
theorem swp_get (d : Array Mo) (i j k : Nat) : ∃ k' : Nat, (Sort.swp d i j)[k]! = d[k']! := by
  have hs : (Sort.swp d i j).size = d.size := by simp [Sort.swp]
  by_cases hk : k < d.size
  · rw [get_pos _ (by rw [hs]; exact hk)]
    unfold Sort.swp
    by_cases h1 : j = k
    · subst h1
      exact ⟨i, by rw [Array.getElem_setIfInBounds_self]⟩
    · rw [Array.getElem_setIfInBounds_ne (h := h1) (hj := by simpa using hk)]
      by_cases h2 : i = k
      · subst h2
        exact ⟨j, by rw [Array.getElem_setIfInBounds_self]⟩
      · rw [Array.getElem_setIfInBounds_ne (h := h2) (hj := hk)]
        exact ⟨k, (get_pos d hk).symm⟩
  · exact ⟨k, by rw [get_neg _ (by rw [hs]; exact hk), get_neg _ hk]⟩
theorem swp_size (d : Array Mo) (i j : Nat) : (Sort.swp d i j).size = d.size := by simp [Sort.swp]
theorem AllB.swp {d : Array Mo} (h : AllB d) (i j : Nat) : AllB (Sort.swp d i j) := ⟨by rw [swp_size]; exact h.n, fun k => by
  obtain ⟨k', e⟩ := swp_get d i j k
  rw [e]
  exact h.el k'⟩
theorem at_get {d : Array Mo} {z : Int} {j : Nat} (h : z = j) (hj : j < d.size) : d.toList[z.toNat]? = some d[j]! := by
  rw [h, Int.toNat_natCast, get_pos d hj, List.getElem?_eq_getElem (by simpa using hj)]
  simp
theorem icmp (d : Array Mo) (h : AllB d) (i j : Nat) : Pure Tryz.prog 63 [.agg (cMo d[i]!), .agg (cMo d[j]!)] (AI (cmpM d[i]! d[j]!)) := icompare_spec _ _ (h.el i) (h.el j)
section
variable {P : Program} {N : Nat} {ops : List Oper} {Q : St → Own → Prop} {L : Own} {rest : List (Oper × Kd)} {l : List (Nat × AV)} {k : Kd} {q : Nat}
theorem s_loadMo {tt : List (TypeId × TD)} (ok : TOK P tt) (i : Nat) {o : Oper} {T : TypeId} {x : Operand} {d : TD} {v : Value} {E j : Nat} {D : Array Mo} {m : Mo}
    (ho : o.op = .load T x) (hdst : o.dst = some q) (hd : Nat.blt q N = true) (hg : guardA ops o (lk l) = some true) (hk : k ≠ .pure) (hT : lkT tt T = some d) (hp : ∀ a b : AV, partA d [a, b] 0 = some (.agg [a, b])) (hx : ev (lk l) x = .pt v 2 j 0) (hL : L[i]? = some (v, .row E 2 (D.toList.map cMo))) (hj : D.toList[j]? = some m)
    (n : AL P N ops Q rest (lk ((q, .agg (cMo m)) :: l)) L) : AL P N ops Q ((o, k) :: rest) (lk l) L :=
  s_ownLoad ok i ho hdst hd hg hk hT hx hL rfl (cells := cMo m) (by simp only [obAt, List.getElem?_map, hj]; rfl) (hp _ _) (by simp) n
theorem s_storeMo {tt : List (TypeId × TD)} (ok : TOK P tt) (i : Nat) {o : Oper} {T : TypeId} {x y : Operand} {d : TD} {v : Value} {E j : Nat} {D : Array Mo} {m : Mo}
    (ho : o.op = .store T x y) (hdst : o.dst = none) (hg : guardA ops o (lk l) = some true) (hT : lkT tt T = some d) (hd2 : d.size = 2) (hx : ev (lk l) x = .pt v 2 j 0) (hy : ev (lk l) y = .agg (cMo m)) (hL : L[i]? = some (v, .row E 2 (D.toList.map cMo))) (hj : j < D.size)
    (n : AL P N ops Q rest (lk l) (L.set i (v, .row E 2 ((D.setIfInBounds j m).toList.map cMo)))) : AL P N ops Q ((o, .eff) :: rest) (lk l) L := by
  have hget : (D.toList.map cMo)[j]? = some (cMo D[j]) := by simp [hj]
  refine s_store ok i ho hdst hg hT hx hy rfl (by rw [hd2]; rfl) (by omega) hL rfl (cells := cMo D[j]) (by simp only [obAt, hget]; rfl) (by simp [AV.cells]) ?_
  have : obSet (.row E 2 (D.toList.map cMo)) j 0 (AV.cells (.agg (cMo m))) = .row E 2 ((D.setIfInBounds j m).toList.map cMo) := by
    simp only [obSet, List.getD_eq_getElem?_getD, hget, Array.toList_setIfInBounds, List.map_set]
    rfl
  rw [this]
  exact n
theorem s_indexMo {tt : List (TypeId × TD)} (ok : TOK P tt) (i : Nat) {o : Oper} {T : TypeId} {x y : Operand} {E0 : TypeId} {s1 b1 : Nat} {z1 : List Value} {d : TD} {E : Nat} {v : Value} {D : Array Mo} {kk : IntKind} {j : Int}
    (ho : o.op = .indexAddr T x y) (hdst : o.dst = some q) (hd : Nat.blt q N = true) (hg : guardA ops o (lk l) = some true) (hk : k ≠ .pure) (hT : lkT tt T = some ⟨.slice E0, s1, b1, z1⟩) (hE : lkT tt E0 = some d) (hx : ev (lk l) x = .lit v) (hL : L[i]? = some (v, .row E 2 (D.toList.map cMo))) (hs : 2 = d.size)
    (hy : ev (lk l) y = .lit (.int kk j)) (h0 : 0 ≤ j) (h1 : j < D.size)
    (n : AL P N ops Q rest (lk ((q, .pt v 2 j.toNat 0) :: l)) L) : AL P N ops Q ((o, k) :: rest) (lk l) L :=
  s_ownIndex ok i ho hdst hd hg hk hT hE hx hL hs hy h0 (by simpa using h1) n
end
end Go.Proofs.YtddohheabpiljaaGreat
end
