/- Parts of a proof. -/
import Derived.Sort.AssemblyPlain
import Derived.Test.YtddohheabpiljaaGreatU29
import Derived.Test.YtddohheabpiljaaGreatU30
set_option linter.unusedVariables false
set_option linter.unusedSimpArgs false
section
namespace Go.Sj.Inc
open Go.Sj Go.Sj.Sta Go.Sj.Typ
set_option maxRecDepth 8000
def cmpM (a b : Mo) : Int := if Can.cmpL a.1 b.1 ≠ 0 then Can.cmpL a.1 b.1 else Can.cmpL a.2 b.2
theorem cmpM_self (a : Mo) : cmpM a a = 0 := by unfold cmpM; rw [Can.cmpL_self, Can.cmpL_self]; rfl
theorem cmpM_eq {a b : Mo} (h : cmpM a b = 0) : a = b := by
  unfold cmpM at h
  split at h
  · rename_i h1; exact absurd h h1
  · rename_i h1
    exact Prod.ext (Can.cmpL_eq (Decidable.not_not.1 h1)) (Can.cmpL_eq h)
theorem cmpM_anti (a b : Mo) : cmpM b a = - cmpM a b := by
  unfold cmpM
  rw [Can.cmpL_anti a.1 b.1, Can.cmpL_anti a.2 b.2]
  split <;> split <;> omega
theorem cmpM_trans {a b c : Mo} (h : cmpM a b ≤ 0) (k : cmpM b c ≤ 0) : cmpM a c ≤ 0 := by
  by_cases h1 : Can.cmpL a.1 b.1 = 0
  · have e1 := Can.cmpL_eq h1
    unfold cmpM at *
    rw [if_neg (Decidable.not_not.2 h1)] at h
    rw [e1]
    split at k
    · rename_i h2
      rw [if_pos h2]
      exact k
    · rename_i h2
      rw [if_neg h2]
      exact Can.cmpL_trans h k
  · by_cases h2 : Can.cmpL b.1 c.1 = 0
    · have e2 := Can.cmpL_eq h2
      unfold cmpM at *
      rw [if_pos h1] at h
      rw [← e2, if_pos h1]
      exact h
    · unfold cmpM at h k
      rw [if_pos h1] at h
      rw [if_pos h2] at k
      have h3 := Can.cmpL_trans h k
      have h4 : Can.cmpL a.1 c.1 ≠ 0 := fun e => by
        have e1 := Can.cmpL_eq e
        rw [← e1, Can.cmpL_anti a.1 b.1] at k
        omega
      unfold cmpM
      rw [if_pos h4]
      exact h3
theorem cmpM_lt_trans {a b c : Mo} (h : cmpM a b < 0) (k : cmpM b c < 0) : cmpM a c < 0 := by
  have h1 := cmpM_trans (a := a) (b := b) (c := c) (by omega) (by omega)
  have h2 : cmpM a c ≠ 0 := fun e => by
    have e1 := cmpM_eq e
    subst e1
    rw [cmpM_anti a b] at k
    omega
  omega
theorem cmpL_pre_lt : ∀ (p : List Int) {k l : Int} (r s : List Int), k < l → Can.cmpL (p ++ k :: r) (p ++ l :: s) < 0
  | [], k, l, r, s, h => by
    show Can.cmpL (k :: r) (l :: s) < 0
    rw [Can.cmpL]
    have := Can.cmpI_lt.2 h
    rw [if_pos (by omega)]
    exact this
  | x :: p, k, l, r, s, h => by
    show Can.cmpL (x :: (p ++ k :: r)) (x :: (p ++ l :: s)) < 0
    rw [Can.cmpL, if_neg (by rw [Can.cmpI_zero.2 rfl]; decide)]
    exact cmpL_pre_lt p r s h
abbrev SrtM (l : List Mo) : Prop := l.Pairwise fun a b => cmpM a b < 0
theorem srtM_ext : ∀ {l l' : List Mo}, SrtM l → SrtM l' → (∀ x, x ∈ l ↔ x ∈ l') → l = l'
  | [], [], _, _, _ => rfl
  | [], b :: l', _, _, h => absurd ((h b).2 (List.mem_cons_self ..)) (by simp)
  | a :: l, [], _, _, h => absurd ((h a).1 (List.mem_cons_self ..)) (by simp)
  | a :: l, b :: l', h1, h2, h => by
    have h1' := List.pairwise_cons.1 h1
    have h2' := List.pairwise_cons.1 h2
    have hab : a = b := by
      rcases List.mem_cons.1 ((h a).1 (List.mem_cons_self ..)) with e | ha
      · exact e
      · rcases List.mem_cons.1 ((h b).2 (List.mem_cons_self ..)) with e | hb
        · exact e.symm
        · have k1 := h1'.1 b hb
          have k2 := h2'.1 a ha
          rw [cmpM_anti a b] at k2
          omega
    subst hab
    have self : ∀ x, cmpM x x < 0 → False := fun x hx => by rw [cmpM_self] at hx; omega
    congr 1
    refine srtM_ext h1'.2 h2'.2 fun x => ⟨fun hx => ?_, fun hx => ?_⟩
    · rcases List.mem_cons.1 ((h x).1 (List.mem_cons_of_mem _ hx)) with e | hb
      · subst e; exact (self x (h1'.1 x hx)).elim
      · exact hb
    · rcases List.mem_cons.1 ((h x).2 (List.mem_cons_of_mem _ hx)) with e | hb
      · subst e; exact (self x (h2'.1 x hx)).elim
      · exact hb
structure IsF (S : Sea) (i j : Nat) (x : Mo) : Prop where
  nl : x.1.length = S.p.nodes.length
  el : x.2.length = S.p.edges.length
  ns : ∀ u, i ≤ u → u < S.p.nodes.length → ∃ k : Nat, x.1[u]? = some (k : Int) ∧ k < S.g.nodes.length ∧ candN S (x.1.take u) k = true
  es : ∀ u, j ≤ u → u < S.p.edges.length → ∃ k : Nat, x.2[u]? = some (k : Int) ∧ k < S.g.edges.length ∧ candE S x.1 (x.2.take u) k = true
theorem take_snoc {l p : List Int} {k : Int} (h1 : l.take p.length = p) (h2 : l[p.length]? = some k) : l.take (p ++ [k]).length = p ++ [k] := by
  rw [List.length_append, List.length_singleton, List.take_add_one, h1, h2]
  rfl
theorem snoc_take {l p : List Int} {k : Int} (h : l.take (p ++ [k]).length = p ++ [k]) : l.take p.length = p ∧ l[p.length]? = some k := by
  rw [List.length_append, List.length_singleton] at h
  have hl : p.length + 1 ≤ l.length := by
    have := congrArg List.length h
    simp at this
    omega
  rw [List.take_add_one] at h
  have h1 := List.append_inj_left h (by simp; omega)
  refine ⟨h1, ?_⟩
  rw [h1] at h
  have h2 := List.append_cancel_left h
  cases h3 : l[p.length]? with
  | none => rw [h3] at h2; cases h2
  | some z => rw [h3] at h2; simpa using h2
theorem find_mem {S : Sea} : ∀ (m : Nat) (ns es : List Int), m = remS S ns es → ns.length ≤ S.p.nodes.length → es.length ≤ S.p.edges.length → (ns.length < S.p.nodes.length → es = []) → ∀ x : Mo, x ∈ findL S m ns es ↔ (x.1.take ns.length = ns ∧ x.2.take es.length = es ∧ IsF S ns.length es.length x)
  | 0, ns, es, hm, hn, he, hne, x => by
    unfold remS at hm
    unfold findL
    rw [List.mem_singleton]
    constructor
    · rintro rfl
      exact ⟨List.take_length, List.take_length, ⟨by show ns.length = _; omega, by show es.length = _; omega, fun u h1 h2 => by omega, fun u h1 h2 => by omega⟩⟩
    · rintro ⟨h1, h2, h3⟩
      have h4 := h3.nl
      have h5 := h3.el
      rw [List.take_of_length_le (by omega)] at h1 h2
      exact Prod.ext h1 h2
  | m + 1, ns, es, hm, hn, he, hne, x => by
    unfold remS at hm
    unfold findL
    split
    · rename_i hlt
      have he0 := hne hlt
      subst he0
      rw [List.mem_flatMap]
      have ih := fun k : Nat => find_mem (S := S) m (ns ++ [(k : Int)]) [] (by unfold remS; simp only [List.length_append, List.length_cons, List.length_nil] at hm ⊢; omega) (by simp; omega) (Nat.zero_le _) (fun _ => rfl) x
      constructor
      · rintro ⟨k, hk, hx⟩
        split at hx
        · rename_i hc
          obtain ⟨h1, h2, h3⟩ := (ih k).1 hx
          obtain ⟨h4, h5⟩ := snoc_take h1
          refine ⟨h4, h2, ⟨h3.nl, h3.el, fun u hu1 hu2 => ?_, h3.es⟩⟩
          rcases Nat.lt_or_ge ns.length u with h | h
          · exact h3.ns u (by simp; omega) hu2
          · obtain rfl : u = ns.length := by omega
            exact ⟨k, h5, List.mem_range.1 hk, by rw [h4]; exact hc⟩
        · cases hx
      · rintro ⟨h1, h2, h3⟩
        obtain ⟨k, hk1, hk2, hk3⟩ := h3.ns ns.length (Nat.le_refl _) hlt
        rw [h1] at hk3
        refine ⟨k, List.mem_range.2 hk2, ?_⟩
        rw [if_pos hk3, ih k]
        exact ⟨take_snoc h1 hk1, h2, ⟨h3.nl, h3.el, fun u hu1 hu2 => h3.ns u (by simp at hu1; omega) hu2, h3.es⟩⟩
    · rename_i hlt
      rw [List.mem_flatMap]
      have hnl : ns.length = S.p.nodes.length := by omega
      have ih := fun k : Nat => find_mem (S := S) m ns (es ++ [(k : Int)]) (by unfold remS; simp only [List.length_append, List.length_cons, List.length_nil] at hm ⊢; omega) hn (by simp; omega) (fun h => absurd h hlt) x
      constructor
      · rintro ⟨k, hk, hx⟩
        split at hx
        · rename_i hc
          obtain ⟨h1, h2, h3⟩ := (ih k).1 hx
          obtain ⟨h4, h5⟩ := snoc_take h2
          have h6 : x.1 = ns := by rw [← h1, List.take_of_length_le (by rw [h3.nl]; omega)]
          refine ⟨h1, h4, ⟨h3.nl, h3.el, h3.ns, fun u hu1 hu2 => ?_⟩⟩
          rcases Nat.lt_or_ge es.length u with h | h
          · exact h3.es u (by simp; omega) hu2
          · obtain rfl : u = es.length := by omega
            exact ⟨k, h5, List.mem_range.1 hk, by rw [h4, h6]; exact hc⟩
        · cases hx
      · rintro ⟨h1, h2, h3⟩
        have h6 : x.1 = ns := by rw [← h1, List.take_of_length_le (by rw [h3.nl]; omega)]
        obtain ⟨k, hk1, hk2, hk3⟩ := h3.es es.length (Nat.le_refl _) (by omega)
        rw [h2, h6] at hk3
        refine ⟨k, List.mem_range.2 hk2, ?_⟩
        rw [if_pos hk3, ih k]
        exact ⟨h1, take_snoc h2 hk1, ⟨h3.nl, h3.el, h3.ns, fun u hu1 hu2 => h3.es u (by simp at hu1; omega) hu2⟩⟩
theorem mat_mem {S : Sea} {x : Mo} : x ∈ matL S ↔ IsF S 0 0 x := by
  unfold matL
  rw [find_mem (S := S) (S.p.nodes.length + S.p.edges.length) [] [] rfl (Nat.zero_le _) (Nat.zero_le _) (fun _ => rfl) x]
  exact ⟨fun h => h.2.2, fun h => ⟨rfl, rfl, h⟩⟩
theorem take_dec {l p : List Int} {k : Int} (h : l.take (p ++ [k]).length = p ++ [k]) : ∃ r, l = p ++ k :: r := by
  refine ⟨l.drop (p ++ [k]).length, ?_⟩
  have := List.take_append_drop (p ++ [k]).length l
  rw [h] at this
  simpa using this.symm
theorem cmpM_fst {a b : Mo} (h : Can.cmpL a.1 b.1 < 0) : cmpM a b < 0 := by
  unfold cmpM
  rw [if_pos (by omega)]
  exact h
theorem cmpM_snd {a b : Mo} (e : a.1 = b.1) (h : Can.cmpL a.2 b.2 < 0) : cmpM a b < 0 := by
  unfold cmpM
  rw [e, Can.cmpL_self, if_neg (by decide)]
  exact h
theorem find_srt {S : Sea} : ∀ (m : Nat) (ns es : List Int), m = remS S ns es → ns.length ≤ S.p.nodes.length → es.length ≤ S.p.edges.length → (ns.length < S.p.nodes.length → es = []) → SrtM (findL S m ns es)
  | 0, ns, es, _, _, _, _ => List.pairwise_singleton _ _
  | m + 1, ns, es, hm, hn, he, hne => by
    unfold remS at hm
    unfold findL
    split
    · rename_i hlt
      have he0 := hne hlt
      subst he0
      have hr : ∀ k : Nat, m = remS S (ns ++ [(k : Int)]) [] := fun k => by unfold remS; simp only [List.length_append, List.length_cons, List.length_nil] at hm ⊢; omega
      have hl : ∀ k : Nat, (ns ++ [(k : Int)]).length ≤ S.p.nodes.length := fun k => by simp; omega
      refine List.pairwise_flatMap.2 ⟨fun k _ => ?_, List.pairwise_lt_range.imp fun {k l} hkl x hx y hy => ?_⟩
      · split
        · exact find_srt m _ [] (hr k) (hl k) (Nat.zero_le _) (fun _ => rfl)
        · exact List.Pairwise.nil
      · split at hx
        · split at hy
          · obtain ⟨r, h1⟩ := take_dec ((find_mem m _ [] (hr k) (hl k) (Nat.zero_le _) (fun _ => rfl) x).1 hx).1
            obtain ⟨s, h2⟩ := take_dec ((find_mem m _ [] (hr l) (hl l) (Nat.zero_le _) (fun _ => rfl) y).1 hy).1
            refine cmpM_fst ?_
            rw [h1, h2]
            exact cmpL_pre_lt ns r s (by omega)
          · cases hy
        · cases hx
    · rename_i hlt
      have hr : ∀ k : Nat, m = remS S ns (es ++ [(k : Int)]) := fun k => by unfold remS; simp only [List.length_append, List.length_cons, List.length_nil] at hm ⊢; omega
      have hl : ∀ k : Nat, (es ++ [(k : Int)]).length ≤ S.p.edges.length := fun k => by simp; omega
      have hn' : ∀ k : Nat, ns.length < S.p.nodes.length → es ++ [(k : Int)] = [] := fun k h => absurd h hlt
      refine List.pairwise_flatMap.2 ⟨fun k _ => ?_, List.pairwise_lt_range.imp fun {k l} hkl x hx y hy => ?_⟩
      · split
        · exact find_srt m ns _ (hr k) hn (hl k) (hn' k)
        · exact List.Pairwise.nil
      · split at hx
        · split at hy
          · obtain ⟨a1, a2, a3⟩ := (find_mem m ns _ (hr k) hn (hl k) (hn' k) x).1 hx
            obtain ⟨b1, b2, b3⟩ := (find_mem m ns _ (hr l) hn (hl l) (hn' l) y).1 hy
            obtain ⟨r, h1⟩ := take_dec a2
            obtain ⟨s, h2⟩ := take_dec b2
            have e1 : x.1 = ns := by rw [← a1, List.take_of_length_le (by rw [a3.nl]; omega)]
            have e2 : y.1 = ns := by rw [← b1, List.take_of_length_le (by rw [b3.nl]; omega)]
            refine cmpM_snd (e1.trans e2.symm) ?_
            rw [h1, h2]
            exact cmpL_pre_lt es r s (by omega)
          · cases hy
        · cases hx
theorem mat_srt (S : Sea) : SrtM (matL S) := find_srt _ [] [] rfl (Nat.zero_le _) (Nat.zero_le _) (fun _ => rfl)
end Go.Sj.Inc
end
section
namespace Go.Proofs.YtddohheabpiljaaGreat
open Go.Sj Go.Sj.Typ Go.Sj.Sta Go.Sj.Inc
set_option maxRecDepth 8000
set_option maxHeartbeats 16000000
abbrev moA (m : Mo) : AV := .agg [ints m.1, ints m.2]
theorem icompare_spec (a b : Mo) (ha : MoB a) (hb : MoB b) : Pure Tryz.prog 63 [moA a, moA b] (AI (cmpM a b)) := by
  obtain ⟨a1, a2⟩ := a
  obtain ⟨b1, b2⟩ := b
  obtain ⟨h1, h2⟩ := ha
  obtain ⟨h3, h4⟩ := hb
  simp only at h1 h2 h3 h4
  have s1 := Compare_spec a1 b1 (by omega) (by omega)
  have s2 := Compare_spec a2 b2 (by omega) (by omega)
  have s3 := Or_spec [Can.cmpL a1 b1, Can.cmpL a2 b2] (Nat.le_of_ble_eq_true rfl)
  have hr : cmpM (a1, a2) (b1, b2) = orL [Can.cmpL a1 b1, Can.cmpL a2 b2] := by
    unfold cmpM
    by_cases h : Can.cmpL a1 b1 = 0
    · by_cases h' : Can.cmpL a2 b2 = 0 <;> simp [orL, h, h']
    · simp [orL, h]
  rw [hr]
  generalize Can.cmpL a1 b1 = x at *
  generalize Can.cmpL a2 b2 = y at *
  refine zen Tryz.func63 (by kernel_rfl) rfl Tryz.ntmps63 rfl (by simp) ?_
  refine a_seq ?_
  refine a_reg ?_
  repeat (first | refine gZ pk ?_ | (show AL _ _ _ _ _ _ _; first | refine jB (fun u => ?_)))
  refine zfb 1 2 rfl rfl ?_
  refine zfb 0 3 rfl rfl ?_
  refine zrg ((List.range 13).map fun i => if inL [4, 9, 10, 11] i = true then .eff else .pure) [] [0, 1, 2, 3, 5, 6, 7, 8, 4, 9, 10, 11, 12] .stop mixed rfl rfl (by decide +kernel) ?_
  repeat' (first | (with_reducible show AG _ _ _ _ _ _ _ _ _ _; first | exact zgn | refine zgs ?_ | refine znd ?_ ?_) | (show AMid _ _ _ _; first | refine zmf ?_ | refine zmg (by first | exact OSub.refl _ | exact .drop (OSub.refl _) | exact .drop (.drop (OSub.refl _))) ?_) | refine gY pk ?_ | (show AL _ _ _ _ _ _ _; first | refine jP s1 ?_ | refine jP s2 ?_ | refine s_frzNow 0 rfl rfl rfl (s_build tok rfl rfl rfl rfl rfl rfl rfl rfl (by decide) (by decide) (fun v => AL.nil ⟨v, rfl, rfl, rfl⟩)) ?_ | refine jP s3 ?_) | fail)
  repeat (first | refine gA pk ?_)
  refine finQ ?_
  exact ⟨rfl, rfl⟩
theorem isame_spec (a b : Mo) (ha : MoB a) (hb : MoB b) : Pure Tryz.prog 42 [moA a, moA b] (AB (decide (a = b))) := by
  have s1 := icompare_spec a b ha hb
  by_cases h : a = b
  · rw [decide_eq_true h]
    subst h
    rw [cmpM_self] at s1
    refine zen Tryz.func42 (by kernel_rfl) rfl Tryz.ntmps42 rfl (by simp) ?_
    refine a_seq ?_
    refine a_reg ?_
    repeat (first | refine gZ pk ?_ | (show AL _ _ _ _ _ _ _; first | refine jB (fun u => ?_)))
    refine zfb 1 2 rfl rfl ?_
    refine zfb 0 3 rfl rfl ?_
    repeat (first | refine gA pk ?_ | (show AL _ _ _ _ _ _ _; first | refine jP s1 ?_))
    refine finQ ?_
    exact ⟨rfl, rfl⟩
  · rw [decide_eq_false h]
    have hz : cmpM a b ≠ 0 := fun e => h (cmpM_eq e)
    generalize cmpM a b = z at *
    refine zen Tryz.func42 (by kernel_rfl) rfl Tryz.ntmps42 rfl (by simp) ?_
    refine a_seq ?_
    refine a_reg ?_
    repeat (first | refine gZ pk ?_ | (show AL _ _ _ _ _ _ _; first | refine jB (fun u => ?_)))
    refine zfb 1 2 rfl rfl ?_
    refine zfb 0 3 rfl rfl ?_
    repeat (first | refine gA pk ?_ | (show AL _ _ _ _ _ _ _; first | refine jP s1 ?_))
    refine finQ ?_
    exact ⟨rfl, rfl⟩
theorem iEqualM_spec (a b : List Mo) (ha : ∀ m ∈ a, MoB m) (hb : ∀ m ∈ b, MoB m) (hla : a.length ≤ 1000000) (hlb : b.length ≤ 1000000) : Pure Tryz.prog 41 [mosA a, mosA b, .fn (.func 42) [] []] (AB (decide (a = b))) := by
  have la : (a.map cMo).length = a.length := by simp
  have lb : (b.map cMo).length = b.length := by simp
  by_cases hl : a.length = b.length
  · refine zen Tryz.func41 (by kernel_rfl) rfl Tryz.ntmps41 rfl (by simp) ?_
    repeat (first | refine gA pk ?_)
    rw [la]
    refine zlx (fun k : Nat => [(1, mosA b), (2, .fn (.func 42) [] []), (15, mosA a), (16, AI a.length), (17, AI k)]) (fun _ => []) (fun k => k ≤ a.length ∧ a.take k = b.take k) (fun k => a.length - k) 0 ⟨Nat.zero_le _, rfl⟩ ?_ (OSub.none _) ?_
    · exact subQ
    · rintro k ⟨hk, he⟩
      rcases Nat.lt_or_ge k a.length with h | h
      · have h1 := List.getElem?_eq_getElem h
        have h2 := List.getElem?_eq_getElem (l := b) (i := k) (by omega)
        have s1 := isame_spec _ _ (ha _ (List.getElem_mem h)) (hb _ (List.getElem_mem (l := b) (n := k) (by omega)))
        generalize a[k] = x at h1 s1
        generalize b[k]'(by omega) = y at h2 s1
        have x1 : (a.map cMo)[(k : Int).toNat]? = some (cMo x) := zmp (f := cMo) h1
        have x2 : (b.map cMo)[(k : Int).toNat]? = some (cMo y) := zmp (f := cMo) h2
        have hne : x ≠ y → decide (a = b) = false := fun hxy => decide_eq_false (fun e => by rw [e, h2] at h1; cases h1; exact hxy rfl)
        by_cases e1 : x = y
        · rw [decide_eq_true e1] at s1
          subst e1
          have ht := take_nextE h1 h2 he
          repeat (first | refine gA pk ?_ | (show AL _ _ _ _ _ _ _; first | refine jX tok x1 ?_ | refine jX tok x2 ?_ | refine jL tok (fun u1 => ?_) | refine jS tok 0 ?_ | refine jO tok 0 ?_ | refine jO tok 1 ?_ | refine jP s1 ?_))
          exact ⟨k + 1, ⟨by omega, ht⟩, by omega, by exact subQ, OSub.none _⟩
        · rw [decide_eq_false e1] at s1
          rw [hne e1]
          repeat (first | refine gA pk ?_ | (show AL _ _ _ _ _ _ _; first | refine jX tok x1 ?_ | refine jX tok x2 ?_ | refine jL tok (fun u1 => ?_) | refine jS tok 0 ?_ | refine jO tok 0 ?_ | refine jO tok 1 ?_ | refine jP s1 ?_))
          refine finQ ?_
          exact ⟨rfl, rfl⟩
      · have : a = b := by
          have e1 : a.take k = a := List.take_of_length_le (by omega)
          have e2 : b.take k = b := List.take_of_length_le (by omega)
          rw [← e1, ← e2, he]
        rw [decide_eq_true this]
        repeat (first | refine gA pk ?_)
        refine finQ ?_
        exact ⟨rfl, rfl⟩
  · rw [decide_eq_false (fun e => hl (by rw [e]))]
    refine zen Tryz.func41 (by kernel_rfl) rfl Tryz.ntmps41 rfl (by simp) ?_
    repeat (first | refine gA pk ?_)
    refine finQ ?_
    exact ⟨rfl, rfl⟩
theorem iValid1_spec (a b : List Mo) (ha : ∀ m ∈ a, MoB m) (hb : ∀ m ∈ b, MoB m) (hla : a.length ≤ 1000000) (hlb : b.length ≤ 1000000) : Pure Tryz.prog 40 [mosA a, mosA b] (AB (decide (a = b))) := by
  have s1 := iEqualM_spec a b ha hb hla hlb
  generalize decide (a = b) = r at *
  refine zen Tryz.func40 (by kernel_rfl) rfl Tryz.ntmps40 rfl (by simp) ?_
  repeat (first | refine gA pk ?_ | (show AL _ _ _ _ _ _ _; first | refine jP s1 ?_))
  refine finQ ?_
  exact ⟨rfl, rfl⟩
theorem iEqualMs_spec (a b : List (List Mo)) (ha : ∀ l ∈ a, l.length ≤ 1000000 ∧ ∀ m ∈ l, MoB m) (hb : ∀ l ∈ b, l.length ≤ 1000000 ∧ ∀ m ∈ l, MoB m) (hla : a.length ≤ 1000000) (hlb : b.length ≤ 1000000) : Pure Tryz.prog 39 [mssA a, mssA b, .fn (.func 40) [] []] (AB (decide (a = b))) := by
  have la : (a.map cMos).length = a.length := by simp
  have lb : (b.map cMos).length = b.length := by simp
  by_cases hl : a.length = b.length
  · refine zen Tryz.func39 (by kernel_rfl) rfl Tryz.ntmps39 rfl (by simp) ?_
    repeat (first | refine gA pk ?_)
    rw [la]
    refine zlx (fun k : Nat => [(1, mssA b), (2, .fn (.func 40) [] []), (15, mssA a), (16, AI a.length), (17, AI k)]) (fun _ => []) (fun k => k ≤ a.length ∧ a.take k = b.take k) (fun k => a.length - k) 0 ⟨Nat.zero_le _, rfl⟩ ?_ (OSub.none _) ?_
    · exact subQ
    · rintro k ⟨hk, he⟩
      rcases Nat.lt_or_ge k a.length with h | h
      · have h1 := List.getElem?_eq_getElem h
        have h2 := List.getElem?_eq_getElem (l := b) (i := k) (by omega)
        have b1 := ha _ (List.getElem_mem h)
        have b2 := hb _ (List.getElem_mem (l := b) (n := k) (by omega))
        have s1 := iValid1_spec _ _ b1.2 b2.2 b1.1 b2.1
        clear b1 b2
        generalize a[k] = x at h1 s1
        generalize b[k]'(by omega) = y at h2 s1
        have x1 : (a.map cMos)[(k : Int).toNat]? = some (cMos x) := zmp (f := cMos) h1
        have x2 : (b.map cMos)[(k : Int).toNat]? = some (cMos y) := zmp (f := cMos) h2
        have hne : x ≠ y → decide (a = b) = false := fun hxy => decide_eq_false (fun e => by rw [e, h2] at h1; cases h1; exact hxy rfl)
        by_cases e1 : x = y
        · rw [decide_eq_true e1] at s1
          subst e1
          have ht := take_nextE h1 h2 he
          repeat (first | refine gA pk ?_ | (show AL _ _ _ _ _ _ _; first | refine jX tok x1 ?_ | refine jX tok x2 ?_ | refine jP s1 ?_))
          exact ⟨k + 1, ⟨by omega, ht⟩, by omega, by exact subQ, OSub.none _⟩
        · rw [decide_eq_false e1] at s1
          rw [hne e1]
          repeat (first | refine gA pk ?_ | (show AL _ _ _ _ _ _ _; first | refine jX tok x1 ?_ | refine jX tok x2 ?_ | refine jP s1 ?_))
          refine finQ ?_
          exact ⟨rfl, rfl⟩
      · have : a = b := by
          have e1 : a.take k = a := List.take_of_length_le (by omega)
          have e2 : b.take k = b := List.take_of_length_le (by omega)
          rw [← e1, ← e2, he]
        rw [decide_eq_true this]
        repeat (first | refine gA pk ?_)
        refine finQ ?_
        exact ⟨rfl, rfl⟩
  · rw [decide_eq_false (fun e => hl (by rw [e]))]
    refine zen Tryz.func39 (by kernel_rfl) rfl Tryz.ntmps39 rfl (by simp) ?_
    repeat (first | refine gA pk ?_)
    refine finQ ?_
    exact ⟨rfl, rfl⟩
theorem find_le {S : Sea} (hp : GV S.p) {m : Nat} {x : Mo} (hm : m = remS S [] []) (hx : x ∈ findL S m [] []) : MoB x := by
  have h := find_ok m [] [] hm (Nat.zero_le _) (Nat.zero_le _) (fun _ => rfl) x hx
  have h1 := hp.nl
  have h2 := hp.el
  exact ⟨by rw [h.nl]; omega, by rw [h.el]; omega⟩
theorem allR_le (t : Tys) (p g : Gr) (inj : Bool) : (allR t p g inj).1.length ≤ 1000000 ∧ ∀ m ∈ (allR t p g inj).1, MoB m := by
  unfold allR
  split
  · exact ⟨Nat.zero_le _, by simp⟩
  · rename_i h
    have hz := zvz (Decidable.not_not.1 h)
    unfold capR
    split
    · exact ⟨Nat.zero_le _, by simp⟩
    · rename_i h2
      exact ⟨by show (matL _).length ≤ _; omega, fun m hm => find_le (S := seaA t p g inj) hz.2.1 (by simp [remS, seaA]) hm⟩
theorem matsL_le (t : Tys) (ps : List Gr) (g : Gr) (inj : Bool) : ∀ l ∈ matsL t ps g inj, l.length ≤ 1000000 ∧ ∀ m ∈ l, MoB m := fun l hl => by
  obtain ⟨p, _, rfl⟩ := List.mem_map.1 hl
  exact allR_le t p g inj
structure WatOk (w : Wat) : Prop where
  ps : ∀ p ∈ w.ps, OkG p
  pl : w.ps.length ≤ 140737488355328
  g : OkG w.g
  ms : ∀ l ∈ w.ms, l.length ≤ 1000000 ∧ ∀ m ∈ l, MoB m
  ml : w.ms.length ≤ 1000000
theorem ivalid_spec (t : Tys) (ht : Small t) (w : Wat) (hw : WatOk w) : Pure Tryz.prog 15 [tysA t, watA w] (AI (wvalE t w)) := by
  have s1 := imats_spec t ht w.ps w.g w.inj hw.ps hw.pl hw.g
  unfold wvalE
  unfold matsR at s1
  by_cases he : matsE t w.ps w.g w.inj = 0
  · rw [if_neg (Decidable.not_not.2 he)] at s1 ⊢
    have hps := (matsE_zero he).2.1
    have hL := matsL_le t w.ps w.g w.inj
    have hLl : (matsL t w.ps w.g w.inj).length ≤ 1000000 := by unfold matsL; rw [List.length_map]; omega
    have s2 := iEqualMs_spec (matsL t w.ps w.g w.inj) w.ms hL hw.ms hLl hw.ml
    generalize matsL t w.ps w.g w.inj = L at *
    obtain ⟨ps, g, inj, ms⟩ := w
    simp only at s1 s2
    by_cases hq : L = ms
    all_goals
      first | rw [decide_eq_true hq] at s2 | rw [decide_eq_false hq] at s2
      first | rw [if_pos hq] | rw [if_neg hq]
      refine zen Tryz.func15 (by kernel_rfl) rfl Tryz.ntmps15 rfl (by simp) ?_
      refine a_seq ?_
      refine a_reg ?_
      repeat (first | refine gZ pk ?_ | (show AL _ _ _ _ _ _ _; first | refine jB (fun u => ?_)))
      refine zfb 1 2 rfl rfl ?_
      refine zfb 0 3 rfl rfl ?_
      repeat (first | refine gA pk ?_ | (show AL _ _ _ _ _ _ _; first | refine jP s1 ?_ | refine jP s2 ?_))
      refine finQ ?_
      exact ⟨rfl, rfl⟩
  · rw [if_pos he] at s1 ⊢
    generalize matsE t w.ps w.g w.inj = e at *
    obtain ⟨ps, g, inj, ms⟩ := w
    simp only at s1
    refine zen Tryz.func15 (by kernel_rfl) rfl Tryz.ntmps15 rfl (by simp) ?_
    refine a_seq ?_
    refine a_reg ?_
    repeat (first | refine gZ pk ?_ | (show AL _ _ _ _ _ _ _; first | refine jB (fun u => ?_)))
    refine zfb 1 2 rfl rfl ?_
    refine zfb 0 3 rfl rfl ?_
    repeat (first | refine gA pk ?_ | (show AL _ _ _ _ _ _ _; first | refine jP s1 ?_))
    refine finQ ?_
    exact ⟨rfl, rfl⟩
end Go.Proofs.YtddohheabpiljaaGreat
end
section
namespace Go.Proofs.YtddohheabpiljaaGreat
open Go.Sj Go.Sj.Typ Go.Sj.Sta Go.Sj.Inc
set_option maxRecDepth 8000
set_option maxHeartbeats 16000000
abbrev rowM (d : Array Mo) : OB := .row 95 2 (d.toList.map cMo)
abbrev cmpF : AV := .fn (.func 63) [] []
def ltM (a b : Mo) : Bool := decide (cmpM a b < 0)
structure AllB (d : Array Mo) : Prop where
  n : d.size ≤ 1000000
  el : ∀ i : Nat, MoB d[i]!
theorem get_pos (d : Array Mo) {k : Nat} (h : k < d.size) : d[k]! = d[k] := getElem!_pos d k h
theorem get_neg (d : Array Mo) {k : Nat} (h : ¬ k < d.size) : d[k]! = default := getElem!_neg d k h
theorem swp_get (d : Array Mo) (i j k : Nat) : ∃ k' : Nat, (Sort.swp d i j)[k]! = d[k']! := by
  have hs : (Sort.swp d i j).size = d.size := by simp [Sort.swp]
  by_cases hk : k < d.size
  · rw [get_pos _ (by rw [hs]; exact hk)]
    unfold Sort.swp
    by_cases h1 : j = k
    · subst h1
      exact ⟨i, by rw [Array.getElem_setIfInBounds_self]⟩
    · rw [Array.getElem_setIfInBounds_ne (h := h1) (hj := by simpa using hk)]
      by_cases h2 : i = k
      · subst h2
        exact ⟨j, by rw [Array.getElem_setIfInBounds_self]⟩
      · rw [Array.getElem_setIfInBounds_ne (h := h2) (hj := hk)]
        exact ⟨k, (get_pos d hk).symm⟩
  · exact ⟨k, by rw [get_neg _ (by rw [hs]; exact hk), get_neg _ hk]⟩
theorem zsw (d : Array Mo) (i j : Nat) : (Sort.swp d i j).size = d.size := by simp [Sort.swp]
theorem AllB.swp {d : Array Mo} (h : AllB d) (i j : Nat) : AllB (Sort.swp d i j) := ⟨by rw [zsw]; exact h.n, fun k => by
  obtain ⟨k', e⟩ := swp_get d i j k
  rw [e]
  exact h.el k'⟩
theorem zat {d : Array Mo} {z : Int} {j : Nat} (h : z = j) (hj : j < d.size) : d.toList[z.toNat]? = some d[j]! := by
  rw [h, Int.toNat_natCast, get_pos d hj, List.getElem?_eq_getElem (by simpa using hj)]
  simp
theorem icmp (d : Array Mo) (h : AllB d) (i j : Nat) : Pure Tryz.prog 63 [.agg (cMo d[i]!), .agg (cMo d[j]!)] (AI (cmpM d[i]! d[j]!)) := icompare_spec _ _ (h.el i) (h.el j)
section
variable {P : Program} {N : Nat} {ops : List Oper} {Q : St → Own → Prop} {L : Own} {rest : List (Oper × Kd)} {l : List (Nat × AV)} {k : Kd} {q : Nat}
theorem zlm {tt : List (TypeId × TD)} (ok : TOK P tt) (i : Nat) {o : Oper} {T : TypeId} {x : Operand} {d : TD} {v : Value} {E j : Nat} {D : Array Mo} {m : Mo}
    (ho : o.op = .load T x) (hdst : o.dst = some q) (hd : Nat.blt q N = true) (hg : guardA ops o (lk l) = some true) (hk : k ≠ .pure) (hT : lkT tt T = some d) (hp : ∀ a b : AV, partA d [a, b] 0 = some (.agg [a, b])) (hx : ev (lk l) x = .pt v 2 j 0) (hL : L[i]? = some (v, .row E 2 (D.toList.map cMo))) (hj : D.toList[j]? = some m)
    (n : AL P N ops Q rest (lk ((q, .agg (cMo m)) :: l)) L) : AL P N ops Q ((o, k) :: rest) (lk l) L :=
  s_ownLoad ok i ho hdst hd hg hk hT hx hL rfl (cells := cMo m) (by simp only [obAt, List.getElem?_map, hj]; rfl) (hp _ _) (by simp) n
theorem s_storeMo {tt : List (TypeId × TD)} (ok : TOK P tt) (i : Nat) {o : Oper} {T : TypeId} {x y : Operand} {d : TD} {v : Value} {E j : Nat} {D : Array Mo} {m : Mo}
    (ho : o.op = .store T x y) (hdst : o.dst = none) (hg : guardA ops o (lk l) = some true) (hT : lkT tt T = some d) (hd2 : d.size = 2) (hx : ev (lk l) x = .pt v 2 j 0) (hy : ev (lk l) y = .agg (cMo m)) (hL : L[i]? = some (v, .row E 2 (D.toList.map cMo))) (hj : j < D.size)
    (n : AL P N ops Q rest (lk l) (L.set i (v, .row E 2 ((D.setIfInBounds j m).toList.map cMo)))) : AL P N ops Q ((o, .eff) :: rest) (lk l) L := by
  have hget : (D.toList.map cMo)[j]? = some (cMo D[j]) := by simp [hj]
  refine s_store ok i ho hdst hg hT hx hy rfl (by rw [hd2]; rfl) (by omega) hL rfl (cells := cMo D[j]) (by simp only [obAt, hget]; rfl) (by simp [AV.cells]) ?_
  have : obSet (.row E 2 (D.toList.map cMo)) j 0 (AV.cells (.agg (cMo m))) = .row E 2 ((D.setIfInBounds j m).toList.map cMo) := by
    simp only [obSet, List.getD_eq_getElem?_getD, hget, Array.toList_setIfInBounds, List.map_set]
    rfl
  rw [this]
  exact n
theorem zim {tt : List (TypeId × TD)} (ok : TOK P tt) (i : Nat) {o : Oper} {T : TypeId} {x y : Operand} {E0 : TypeId} {s1 b1 : Nat} {z1 : List Value} {d : TD} {E : Nat} {v : Value} {D : Array Mo} {kk : IntKind} {j : Int}
    (ho : o.op = .indexAddr T x y) (hdst : o.dst = some q) (hd : Nat.blt q N = true) (hg : guardA ops o (lk l) = some true) (hk : k ≠ .pure) (hT : lkT tt T = some ⟨.slice E0, s1, b1, z1⟩) (hE : lkT tt E0 = some d) (hx : ev (lk l) x = .lit v) (hL : L[i]? = some (v, .row E 2 (D.toList.map cMo))) (hs : 2 = d.size)
    (hy : ev (lk l) y = .lit (.int kk j)) (h0 : 0 ≤ j) (h1 : j < D.size)
    (n : AL P N ops Q rest (lk ((q, .pt v 2 j.toNat 0) :: l)) L) : AL P N ops Q ((o, k) :: rest) (lk l) L :=
  zoi ok i ho hdst hd hg hk hT hE hx hL hs hy h0 (by simpa using h1) n
end
end Go.Proofs.YtddohheabpiljaaGreat
end
