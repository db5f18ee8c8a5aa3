/- Parts of a proof. -/
import Derived.Laws.Cover3
import Derived.WalkKit
import Derived.WalkSpells
import Derived.WalkLawsBesides
import Derived.Deep.Draws
import Derived.Orders
import Derived.Still
import Derived.Laws.Externs
import Derived.Laws.Runes
import Derived.Handy
import Derived.Lib.AppendZerosOnto
import Derived.Lib.Overlaps
import Derived.Test.YtimfponihbfimaaGreatProg
import Derived.Sort.AssemblyPlain
import Derived.Laws.Bits64
import Derived.Laws.Bits64b
import Derived.ProofKit
import Derived.WideKeyArgs
import Derived.OpenShut
import Derived.SizedLaws
import Derived.Test.YtimfponihbfimaaGreatP01
import Derived.Test.YtimfponihbfimaaGreatP02
import Derived.Test.YtimfponihbfimaaGreatP03
import Derived.Test.YtimfponihbfimaaGreatP04
import Derived.Test.YtimfponihbfimaaGreatP05
import Derived.Test.YtimfponihbfimaaGreatP06
import Derived.Test.YtimfponihbfimaaGreatP07
import Derived.Test.YtimfponihbfimaaGreatP08
import Derived.Test.YtimfponihbfimaaGreatP09
import Derived.Test.YtimfponihbfimaaGreatP10
import Derived.Test.YtimfponihbfimaaGreatP11
import Derived.Test.YtimfponihbfimaaGreatP12
import Derived.Test.YtimfponihbfimaaGreatP13
import Derived.Test.YtimfponihbfimaaGreatP14
import Derived.Test.YtimfponihbfimaaGreatP15
import Derived.Test.YtimfponihbfimaaGreatP16
import Derived.Test.YtimfponihbfimaaGreatP17
import Derived.Test.YtimfponihbfimaaGreatP18
import Derived.Test.YtimfponihbfimaaGreatP19
import Derived.Test.YtimfponihbfimaaGreatP20
import Derived.Test.YtimfponihbfimaaGreatP21
import Derived.Test.YtimfponihbfimaaGreatP22
import Derived.Test.YtimfponihbfimaaGreatP23
import Derived.Test.YtimfponihbfimaaGreatP24
import Derived.Test.YtimfponihbfimaaGreatP25
import Derived.Test.YtimfponihbfimaaGreatP26
import Derived.Test.YtimfponihbfimaaGreatP27
import Derived.Test.YtimfponihbfimaaGreatP28
import Derived.Test.YtimfponihbfimaaGreatP29
import Derived.Test.YtimfponihbfimaaGreatP30
import Derived.Test.YtimfponihbfimaaGreatP31
import Derived.Test.YtimfponihbfimaaGreatP32
import Derived.Test.YtimfponihbfimaaGreatP33
import Derived.Test.YtimfponihbfimaaGreatP34
import Derived.Test.YtimfponihbfimaaGreatP35
import Derived.Test.YtimfponihbfimaaGreatP36
import Derived.Test.YtimfponihbfimaaGreatP37
import Derived.Test.YtimfponihbfimaaGreatP38
import Derived.Test.YtimfponihbfimaaGreatP39
import Derived.Test.YtimfponihbfimaaGreatP40
import Derived.Test.YtimfponihbfimaaGreatP41
import Derived.Test.YtimfponihbfimaaGreatP42
import Derived.Test.YtimfponihbfimaaGreatP43
import Derived.Test.YtimfponihbfimaaGreatP44
import Derived.Test.YtimfponihbfimaaGreatP45
import Derived.Test.YtimfponihbfimaaGreatP46
import Derived.Test.YtimfponihbfimaaGreatP47
import Derived.Test.YtimfponihbfimaaGreatP48
import Derived.Test.YtimfponihbfimaaGreatP49
set_option linter.unusedVariables false
set_option linter.unusedSimpArgs false
section
namespace Go.Sj
theorem a_freeze {P : Program} {N : Nat} {c : Code} {Q : Exit → St → Own → Prop} {st : St} {L : Own} (i : Nat) {v : Value} {E sz : Nat} {es : List (List AV)} (hL : L[i]? = some (v, .row E sz es)) (st' : St) (hst : FZS v sz es st st') (M : Own) (hM : FZO v sz es (L.eraseIdx i) M)
    (k : AWp P N c Q st' M) : AWp P N c Q st L :=
  ⟨fun σ F w a hr ht => by
    obtain ⟨h1, h2⟩ := (hr.at hL).freeze hM
    have ht' : TR (frz σ w v) N st' a := ⟨ht.defers, ht.size, fun j => hst j _ _ h2 ((ht.mono (frz_le σ w v)).vals j)⟩
    exact wp_mono (k.out _ F w a h1 ht') fun e a' w' hp => hp.le (frz_le σ w v)⟩
end Go.Sj
namespace Go.Sj
section
variable {P : Program} {N : Nat} {ops : List Oper} {Q : St → Own → Prop} {L : Own} {rest : List (Oper × Kd)} {l : List (Nat × AV)} {k : Kd} {q : Nat}
end
end Go.Sj
namespace Go.Sj
section
variable {P : Program} {N : Nat} {ops : List Oper} {Q : St → Own → Prop} {L : Own} {rest : List (Oper × Kd)} {l : List (Nat × AV)} {q : Nat}
end
end Go.Sj
namespace Go.Sj
section
variable {P : Program} {N : Nat} {ops : List Oper} {Q : St → Own → Prop} {L : Own} {rest : List (Oper × Kd)} {l : List (Nat × AV)} {k : Kd} {q : Nat}
end
end Go.Sj
end
section
namespace Go.Sj
section
variable {N : Nat} {st st' st'' : St} {L L' L'' : Own}
end
theorem a_know {P : Program} {N : Nat} {c : Code} {Q : Exit → St → Own → Prop} {st : St} {L : Own} (i : Nat) {v : Value} {E sz : Nat} {es : List (List AV)} (hL : L[i]? = some (v, .row E sz es)) (k : v.oneCell' = true → AWp P N c Q st L) : AWp P N c Q st L :=
  ⟨fun σ F w a h1 h2 => (k (own_row_cell (h1.own1 hL))).out σ F w a h1 h2⟩
end Go.Sj
namespace Go.Sj
end Go.Sj
namespace Go.Sj
section
variable {P : Program} {N : Nat} {ops : List Oper} {Q : St → Own → Prop} {L : Own} {rest : List (Oper × Kd)} {l : List (Nat × AV)} {k : Kd} {q : Nat}
end
end Go.Sj
namespace Go.Sj
end Go.Sj
namespace Go.Sj
section
variable {P : Program} {N : Nat} {ops : List Oper} {Q : St → Own → Prop} {L : Own} {rest : List (Oper × Kd)} {l : List (Nat × AV)} {k : Kd} {q : Nat}
end
end Go.Sj
namespace Go.Sj
section
variable {P : Program} {N : Nat} {ops : List Oper} {Q : St → Own → Prop} {L : Own} {rest : List (Oper × Kd)} {l : List (Nat × AV)} {k : Kd} {q : Nat}
end
end Go.Sj
namespace Go.Sj
end Go.Sj
end
section
namespace Go.Sj.Sta
open Go.Sj Go.Sj.Typ
end Go.Sj.Sta
namespace Go.Sj.Sta
open Go.Sj Go.Sj.Typ
end Go.Sj.Sta
namespace Go.Sj.Sta
open Go.Sj Go.Sj.Typ
end Go.Sj.Sta
namespace Go.Sj.Sta
open Go.Sj Go.Sj.Typ
section
variable {ns : List Nod} (hp : PR ns ns.length)
end
theorem pr_valid {t : Tys} (h : (validR t).2 = 0) : PR t.nodes t.nodes.length := pr_of (validR_zero.1 h).2.2.2.1
end Go.Sj.Sta
namespace Go.Sj.Sta
open Go.Sj Go.Sj.Typ
section
variable {t : Tys} {g : Gr} {p q : List Int} (h : TV t g) (hp : Prm p g.nodes.length) (hq : Prm q g.edges.length)
include h hp hq
end
section
variable {t : Tys} {g : Gr} (h : TV t g)
include h
end
end Go.Sj.Sta
namespace Go.Sj.Sta
open Go.Sj Go.Sj.Typ
end Go.Sj.Sta
namespace Go.Sj.Sta
open Go.Sj Go.Sj.Typ
end Go.Sj.Sta
end
section
namespace Go.Sj
end Go.Sj
namespace Go.Sj.Part
set_option maxRecDepth 8000
def nextRow (i : Nat) (row : List Nat) (v : Nat) : Bool := v == i || row.getD v 0 == v
def nextTo (i : Nat) (row : List Nat) (k : Nat) : List (List Nat) := ((List.range k).filter (nextRow i row)).map fun v => row ++ [v]
def nextAll (i : Nat) (rows : List (List Nat)) : List (List Nat) := rows.flatMap fun row => nextTo i row (i + 1)
def allTo : Nat → List (List Nat)
  | 0 => [[]]
  | i + 1 => nextAll i (allTo i)
def allR (n : Int) : List (List Nat) × Int := if 7 < n then ([], 3) else if n < 0 then ([], 6) else (allTo n.toNat, 0)
end Go.Sj.Part
end
section
namespace Go.Sj.Inc
open Go.Sj Go.Sj.Sta Go.Sj.Typ
set_option maxRecDepth 8000
def capR (l : List Mo) : List Mo × Int := if 5000 < l.length then ([], 3) else (l, 0)
def allR (t : Tys) (p g : Gr) (inj : Bool) : List Mo × Int := if validS t p g ≠ 0 then ([], validS t p g) else capR (matL (seaA t p g inj))
end Go.Sj.Inc
end
section
namespace Go.Sj.Pln
open Go.Sj Go.Sj.Sta Go.Sj.Typ Go.Sj.Inc
set_option maxRecDepth 8000
theorem known_all {s : Kn} (h : knownB s = true) : (∀ b ∈ s.ns, b = true) ∧ ∀ b ∈ s.es, b = true := by
  unfold knownB at h
  rw [Bool.and_eq_true] at h
  simp only [Bool.not_eq_true', List.contains_eq_mem, decide_eq_false_iff_not] at h
  exact ⟨fun b hb => by cases b; exact absurd hb h.1; rfl, fun b hb => by cases b; exact absurd hb h.2; rfl⟩
end Go.Sj.Pln
end
section
namespace Go.Sj.Can
open Go.Sj Go.Sj.Sta
set_option maxRecDepth 8000
theorem cmpI_lt {x y : Int} : cmpI x y < 0 ↔ x < y := by
  unfold cmpI
  repeat' split
  all_goals omega
section
variable (N : Int → Int) (T : Int → Int → List Int)
variable {N T}
end
section
variable (N : Int → Int) (T : Int → Int → List Int) (n : Nat)
variable {N T n}
end
section
variable (N : Int → Int) (T : Int → Int → List Int) (n : Nat)
variable {N T n}
end
end Go.Sj.Can
end
section
namespace Go.Sj.Inc
open Go.Sj Go.Sj.Sta Go.Sj.Typ
set_option maxRecDepth 8000
theorem cmpL_pre_lt : ∀ (p : List Int) {k l : Int} (r s : List Int), k < l → Can.cmpL (p ++ k :: r) (p ++ l :: s) < 0
  | [], k, l, r, s, h => by
    show Can.cmpL (k :: r) (l :: s) < 0
    rw [Can.cmpL]
    have := Can.cmpI_lt.2 h
    rw [if_pos (by omega)]
    exact this
  | x :: p, k, l, r, s, h => by
    show Can.cmpL (x :: (p ++ k :: r)) (x :: (p ++ l :: s)) < 0
    rw [Can.cmpL, if_neg (by rw [Can.cmpI_zero.2 rfl]; decide)]
    exact cmpL_pre_lt p r s h
abbrev SrtM (l : List Mo) : Prop := l.Pairwise fun a b => cmpM a b < 0
theorem srtM_ext : ∀ {l l' : List Mo}, SrtM l → SrtM l' → (∀ x, x ∈ l ↔ x ∈ l') → l = l'
  | [], [], _, _, _ => rfl
  | [], b :: l', _, _, h => absurd ((h b).2 (List.mem_cons_self ..)) (by simp)
  | a :: l, [], _, _, h => absurd ((h a).1 (List.mem_cons_self ..)) (by simp)
  | a :: l, b :: l', h1, h2, h => by
    have h1' := List.pairwise_cons.1 h1
    have h2' := List.pairwise_cons.1 h2
    have hab : a = b := by
      rcases List.mem_cons.1 ((h a).1 (List.mem_cons_self ..)) with e | ha
      · exact e
      · rcases List.mem_cons.1 ((h b).2 (List.mem_cons_self ..)) with e | hb
        · exact e.symm
        · have k1 := h1'.1 b hb
          have k2 := h2'.1 a ha
          rw [cmpM_anti a b] at k2
          omega
    subst hab
    have self : ∀ x, cmpM x x < 0 → False := fun x hx => by rw [cmpM_self] at hx; omega
    congr 1
    refine srtM_ext h1'.2 h2'.2 fun x => ⟨fun hx => ?_, fun hx => ?_⟩
    · rcases List.mem_cons.1 ((h x).1 (List.mem_cons_of_mem _ hx)) with e | hb
      · subst e; exact (self x (h1'.1 x hx)).elim
      · exact hb
    · rcases List.mem_cons.1 ((h x).2 (List.mem_cons_of_mem _ hx)) with e | hb
      · subst e; exact (self x (h2'.1 x hx)).elim
      · exact hb
structure IsF (S : Sea) (i j : Nat) (x : Mo) : Prop where
  nl : x.1.length = S.p.nodes.length
  el : x.2.length = S.p.edges.length
  ns : ∀ u, i ≤ u → u < S.p.nodes.length → ∃ k : Nat, x.1[u]? = some (k : Int) ∧ k < S.g.nodes.length ∧ candN S (x.1.take u) k = true
  es : ∀ u, j ≤ u → u < S.p.edges.length → ∃ k : Nat, x.2[u]? = some (k : Int) ∧ k < S.g.edges.length ∧ candE S x.1 (x.2.take u) k = true
theorem snoc_take {l p : List Int} {k : Int} (h : l.take (p ++ [k]).length = p ++ [k]) : l.take p.length = p ∧ l[p.length]? = some k := by
  rw [List.length_append, List.length_singleton] at h
  have hl : p.length + 1 ≤ l.length := by
    have := congrArg List.length h
    simp at this
    omega
  rw [List.take_add_one] at h
  have h1 := List.append_inj_left h (by simp; omega)
  refine ⟨h1, ?_⟩
  rw [h1] at h
  have h2 := List.append_cancel_left h
  cases h3 : l[p.length]? with
  | none => rw [h3] at h2; cases h2
  | some z => rw [h3] at h2; simpa using h2
theorem find_mem {S : Sea} : ∀ (m : Nat) (ns es : List Int), m = remS S ns es → ns.length ≤ S.p.nodes.length → es.length ≤ S.p.edges.length → (ns.length < S.p.nodes.length → es = []) → ∀ x : Mo, x ∈ findL S m ns es ↔ (x.1.take ns.length = ns ∧ x.2.take es.length = es ∧ IsF S ns.length es.length x)
  | 0, ns, es, hm, hn, he, hne, x => by
    unfold remS at hm
    unfold findL
    rw [List.mem_singleton]
    constructor
    · rintro rfl
      exact ⟨List.take_length, List.take_length, ⟨by show ns.length = _; omega, by show es.length = _; omega, fun u h1 h2 => by omega, fun u h1 h2 => by omega⟩⟩
    · rintro ⟨h1, h2, h3⟩
      have h4 := h3.nl
      have h5 := h3.el
      rw [List.take_of_length_le (by omega)] at h1 h2
      exact Prod.ext h1 h2
  | m + 1, ns, es, hm, hn, he, hne, x => by
    unfold remS at hm
    unfold findL
    split
    · rename_i hlt
      have he0 := hne hlt
      subst he0
      rw [List.mem_flatMap]
      have ih := fun k : Nat => find_mem (S := S) m (ns ++ [(k : Int)]) [] (by unfold remS; simp only [List.length_append, List.length_cons, List.length_nil] at hm ⊢; omega) (by simp; omega) (Nat.zero_le _) (fun _ => rfl) x
      constructor
      · rintro ⟨k, hk, hx⟩
        split at hx
        · rename_i hc
          obtain ⟨h1, h2, h3⟩ := (ih k).1 hx
          obtain ⟨h4, h5⟩ := snoc_take h1
          refine ⟨h4, h2, ⟨h3.nl, h3.el, fun u hu1 hu2 => ?_, h3.es⟩⟩
          rcases Nat.lt_or_ge ns.length u with h | h
          · exact h3.ns u (by simp; omega) hu2
          · obtain rfl : u = ns.length := by omega
            exact ⟨k, h5, List.mem_range.1 hk, by rw [h4]; exact hc⟩
        · cases hx
      · rintro ⟨h1, h2, h3⟩
        obtain ⟨k, hk1, hk2, hk3⟩ := h3.ns ns.length (Nat.le_refl _) hlt
        rw [h1] at hk3
        refine ⟨k, List.mem_range.2 hk2, ?_⟩
        rw [if_pos hk3, ih k]
        exact ⟨take_snoc h1 hk1, h2, ⟨h3.nl, h3.el, fun u hu1 hu2 => h3.ns u (by simp at hu1; omega) hu2, h3.es⟩⟩
    · rename_i hlt
      rw [List.mem_flatMap]
      have hnl : ns.length = S.p.nodes.length := by omega
      have ih := fun k : Nat => find_mem (S := S) m ns (es ++ [(k : Int)]) (by unfold remS; simp only [List.length_append, List.length_cons, List.length_nil] at hm ⊢; omega) hn (by simp; omega) (fun h => absurd h hlt) x
      constructor
      · rintro ⟨k, hk, hx⟩
        split at hx
        · rename_i hc
          obtain ⟨h1, h2, h3⟩ := (ih k).1 hx
          obtain ⟨h4, h5⟩ := snoc_take h2
          have h6 : x.1 = ns := by rw [← h1, List.take_of_length_le (by rw [h3.nl]; omega)]
          refine ⟨h1, h4, ⟨h3.nl, h3.el, h3.ns, fun u hu1 hu2 => ?_⟩⟩
          rcases Nat.lt_or_ge es.length u with h | h
          · exact h3.es u (by simp; omega) hu2
          · obtain rfl : u = es.length := by omega
            exact ⟨k, h5, List.mem_range.1 hk, by rw [h4, h6]; exact hc⟩
        · cases hx
      · rintro ⟨h1, h2, h3⟩
        have h6 : x.1 = ns := by rw [← h1, List.take_of_length_le (by rw [h3.nl]; omega)]
        obtain ⟨k, hk1, hk2, hk3⟩ := h3.es es.length (Nat.le_refl _) (by omega)
        rw [h2, h6] at hk3
        refine ⟨k, List.mem_range.2 hk2, ?_⟩
        rw [if_pos hk3, ih k]
        exact ⟨h1, take_snoc h2 hk1, ⟨h3.nl, h3.el, h3.ns, fun u hu1 hu2 => h3.es u (by simp at hu1; omega) hu2⟩⟩
theorem mat_mem {S : Sea} {x : Mo} : x ∈ matL S ↔ IsF S 0 0 x := by
  unfold matL
  rw [find_mem (S := S) (S.p.nodes.length + S.p.edges.length) [] [] rfl (Nat.zero_le _) (Nat.zero_le _) (fun _ => rfl) x]
  exact ⟨fun h => h.2.2, fun h => ⟨rfl, rfl, h⟩⟩
theorem take_dec {l p : List Int} {k : Int} (h : l.take (p ++ [k]).length = p ++ [k]) : ∃ r, l = p ++ k :: r := by
  refine ⟨l.drop (p ++ [k]).length, ?_⟩
  have := List.take_append_drop (p ++ [k]).length l
  rw [h] at this
  simpa using this.symm
theorem cmpM_fst {a b : Mo} (h : Can.cmpL a.1 b.1 < 0) : cmpM a b < 0 := by
  unfold cmpM
  rw [if_pos (by omega)]
  exact h
theorem cmpM_snd {a b : Mo} (e : a.1 = b.1) (h : Can.cmpL a.2 b.2 < 0) : cmpM a b < 0 := by
  unfold cmpM
  rw [e, Can.cmpL_self, if_neg (by decide)]
  exact h
theorem find_srt {S : Sea} : ∀ (m : Nat) (ns es : List Int), m = remS S ns es → ns.length ≤ S.p.nodes.length → es.length ≤ S.p.edges.length → (ns.length < S.p.nodes.length → es = []) → SrtM (findL S m ns es)
  | 0, ns, es, _, _, _, _ => List.pairwise_singleton _ _
  | m + 1, ns, es, hm, hn, he, hne => by
    unfold remS at hm
    unfold findL
    split
    · rename_i hlt
      have he0 := hne hlt
      subst he0
      have hr : ∀ k : Nat, m = remS S (ns ++ [(k : Int)]) [] := fun k => by unfold remS; simp only [List.length_append, List.length_cons, List.length_nil] at hm ⊢; omega
      have hl : ∀ k : Nat, (ns ++ [(k : Int)]).length ≤ S.p.nodes.length := fun k => by simp; omega
      refine List.pairwise_flatMap.2 ⟨fun k _ => ?_, List.pairwise_lt_range.imp fun {k l} hkl x hx y hy => ?_⟩
      · split
        · exact find_srt m _ [] (hr k) (hl k) (Nat.zero_le _) (fun _ => rfl)
        · exact List.Pairwise.nil
      · split at hx
        · split at hy
          · obtain ⟨r, h1⟩ := take_dec ((find_mem m _ [] (hr k) (hl k) (Nat.zero_le _) (fun _ => rfl) x).1 hx).1
            obtain ⟨s, h2⟩ := take_dec ((find_mem m _ [] (hr l) (hl l) (Nat.zero_le _) (fun _ => rfl) y).1 hy).1
            refine cmpM_fst ?_
            rw [h1, h2]
            exact cmpL_pre_lt ns r s (by omega)
          · cases hy
        · cases hx
    · rename_i hlt
      have hr : ∀ k : Nat, m = remS S ns (es ++ [(k : Int)]) := fun k => by unfold remS; simp only [List.length_append, List.length_cons, List.length_nil] at hm ⊢; omega
      have hl : ∀ k : Nat, (es ++ [(k : Int)]).length ≤ S.p.edges.length := fun k => by simp; omega
      have hn' : ∀ k : Nat, ns.length < S.p.nodes.length → es ++ [(k : Int)] = [] := fun k h => absurd h hlt
      refine List.pairwise_flatMap.2 ⟨fun k _ => ?_, List.pairwise_lt_range.imp fun {k l} hkl x hx y hy => ?_⟩
      · split
        · exact find_srt m ns _ (hr k) hn (hl k) (hn' k)
        · exact List.Pairwise.nil
      · split at hx
        · split at hy
          · obtain ⟨a1, a2, a3⟩ := (find_mem m ns _ (hr k) hn (hl k) (hn' k) x).1 hx
            obtain ⟨b1, b2, b3⟩ := (find_mem m ns _ (hr l) hn (hl l) (hn' l) y).1 hy
            obtain ⟨r, h1⟩ := take_dec a2
            obtain ⟨s, h2⟩ := take_dec b2
            have e1 : x.1 = ns := by rw [← a1, List.take_of_length_le (by rw [a3.nl]; omega)]
            have e2 : y.1 = ns := by rw [← b1, List.take_of_length_le (by rw [b3.nl]; omega)]
            refine cmpM_snd (e1.trans e2.symm) ?_
            rw [h1, h2]
            exact cmpL_pre_lt es r s (by omega)
          · cases hy
        · cases hx
theorem mat_srt (S : Sea) : SrtM (matL S) := find_srt _ [] [] rfl (Nat.zero_le _) (Nat.zero_le _) (fun _ => rfl)
end Go.Sj.Inc
end
section
namespace Go.Sj.Pln
open Go.Sj Go.Sj.Sta Go.Sj.Typ Go.Sj.Inc
set_option maxRecDepth 8000
def extG (S : Sea) (m : Mo) (o : Opn) : List Mo := if o.kind = 1 then (List.range S.g.nodes.length).filterMap (fun n : Nat => endM S m o.el (n : Int)) else (List.range S.g.edges.length).filterMap (edgM S m o.el)
theorem ext_eq {S : Sea} {k : Kn} {m : Mo} (h : Par S k m) {o : Opn} (ho : opE S.p k o = 0) : extG S m o = extM S m o := by
  unfold extG extM
  split
  · rename_i h1
    rcases opE_zero ho with ⟨_, h2, h3⟩ | ⟨h2, _⟩
    · congr 1
      funext n
      have hi := h.n.n0 o.el.toNat (by omega) h3
      unfold endM nodM
      rw [img_get rfl hi, if_neg (by omega)]
    · omega
  · rfl
def cutL (b : List Bool) (l : List Int) : List Int := List.zipWith (fun b z => if b = true then z else -1) b l
def cutM (k : Kn) (m : Mo) : Mo := (cutL k.ns m.1, cutL k.es m.2)
theorem cut_get {b : List Bool} {l : List Int} {u : Nat} : (cutL b l)[u]? = (match b[u]?, l[u]? with
    | some c, some z => some (if c = true then z else -1)
    | _, _ => none) := by
  unfold cutL
  rw [List.getElem?_zipWith]
  cases b[u]? <;> cases l[u]? <;> rfl
theorem cut_len {b : List Bool} {l : List Int} (h : b.length = l.length) : (cutL b l).length = l.length := by
  unfold cutL
  rw [List.length_zipWith, h, Nat.min_self]
theorem cut_self {b : List Bool} {l : List Int} (h : b.length = l.length) (hu : ∀ u, u < l.length → b.getD u false = false → l[u]? = some (-1)) : cutL b l = l := by
  refine List.ext_getElem? fun u => ?_
  rw [cut_get]
  by_cases hl : u < l.length
  · have hb := List.getElem?_eq_getElem (l := b) (i := u) (by omega)
    have hx := List.getElem?_eq_getElem hl
    rw [hb, hx]
    cases hc : b[u] with
    | true => rfl
    | false =>
      have := hu u hl (by rw [List.getD_eq_getElem?_getD, hb, hc]; rfl)
      rw [hx] at this
      exact this.symm
  · rw [List.getElem?_eq_none (l := l) (by omega), List.getElem?_eq_none (l := b) (by omega)]
theorem cut_set {b : List Bool} {l : List Int} {i : Nat} {z : Int} (h : b.getD i false = false) : cutL b (l.set i z) = cutL b l := by
  refine List.ext_getElem? fun u => ?_
  rw [cut_get, cut_get, List.getElem?_set]
  by_cases e : i = u
  · subst e
    rw [if_pos rfl]
    by_cases hl : i < l.length
    · rw [if_pos hl, List.getElem?_eq_getElem hl]
      cases hb : b[i]? with
      | none => rfl
      | some c =>
        rw [List.getD_eq_getElem?_getD, hb] at h
        simp only [Option.getD_some] at h
        subst h
        rfl
    · rw [if_neg hl, List.getElem?_eq_none (l := l) (i := i) (by omega)]
  · rw [if_neg e]
theorem cut_more {b : List Bool} {l : List Int} {i : Nat} {z : Int} (hb : b.length = l.length) (h : l[i]? = some z) : cutL (b.set i true) l = (cutL b l).set i z := by
  refine List.ext_getElem? fun u => ?_
  obtain ⟨hl, _⟩ := List.getElem?_eq_some_iff.1 h
  rw [List.getElem?_set, cut_get, cut_get, List.getElem?_set, cut_len hb]
  by_cases e : i = u
  · subst e
    rw [if_pos rfl, if_pos rfl, if_pos (by omega), if_pos hl, h]
    rfl
  · rw [if_neg e, if_neg e]
theorem cut_mem {b : List Bool} {l : List Int} {i : Nat} {z : Int} (h0 : 0 ≤ z) (hi : b.getD i false = false) (h : l[i]? = some z) (hd : ∀ (u v : Nat) (y : Int), 0 ≤ y → l[u]? = some y → l[v]? = some y → u = v) : z ∉ cutL b l := fun hm => by
  obtain ⟨u, hu⟩ := List.getElem?_of_mem hm
  rw [cut_get] at hu
  cases hb : b[u]? with
  | none => rw [hb] at hu; cases hu
  | some c =>
    cases hx : l[u]? with
    | none => rw [hb, hx] at hu; cases hu
    | some y =>
      rw [hb, hx] at hu
      simp only [Option.some.injEq] at hu
      cases c with
      | false => simp at hu; omega
      | true =>
        simp only [if_true] at hu
        subst hu
        have := hd u i y h0 hx h
        subst this
        rw [List.getD_eq_getElem?_getD, hb] at hi
        cases hi
theorem rep_true {n u : Nat} (h : u < n) : (List.replicate n true).getD u false = true := by
  rw [List.getD_eq_getElem?_getD, List.getElem?_replicate, if_pos h]
  rfl
theorem end_cut {S : Sea} {x : Mo} (hx : Whole S x) {ns : List Bool} (hl : ns.length = S.p.nodes.length) {i n : Int} (hi : 0 ≤ i ∧ i < S.p.nodes.length) (h : x.1[i.toNat]? = some n) (e : List Int) :
    endM S (cutL ns x.1, e) i n = some (cutL (ns.set i.toNat true) x.1, e) := by
  have hb : ns.length = x.1.length := by rw [hl, hx.n.nl]
  obtain ⟨n', h1, h2, h3⟩ := hx.n.n1 i.toNat (by omega) (rep_true (by omega))
  rw [h] at h1
  simp only [Option.some.injEq] at h1
  have hc : (cutL ns x.1)[i.toNat]? = some (if ns.getD i.toNat false = true then n else -1) := by
    rw [cut_get, h, List.getD_eq_getElem?_getD, List.getElem?_eq_getElem (by omega)]
    rfl
  have hi2 := img_get (m := (cutL ns x.1, e)) (i := i) rfl hc
  rw [cut_more hb h]
  unfold endM
  cases hk : ns.getD i.toNat false with
  | true =>
    rw [hk, if_pos rfl] at hc
    have hi3 : imgN (cutL ns x.1, e) i = n := by rw [hi2, hk]; rfl
    rw [hi3, if_pos (by omega), if_pos rfl]
    congr 1
    refine Prod.ext ?_ rfl
    refine List.ext_getElem? fun u => ?_
    show (cutL ns x.1)[u]? = _
    rw [List.getElem?_set]
    by_cases e : i.toNat = u
    · subst e
      rw [if_pos rfl, if_pos (by rw [cut_len hb, hx.n.nl]; omega), hc]
    · rw [if_neg e]
  | false =>
    have hi3 : imgN (cutL ns x.1, e) i = -1 := by rw [hi2, hk]; rfl
    rw [hi3, if_neg (by omega), if_pos]
    unfold nodB
    rw [Bool.and_eq_true]
    constructor
    · unfold nodeAt
      rw [h1, Int.toNat_natCast]
      exact h3
    · cases hj : S.inj with
      | false => rfl
      | true =>
        rw [decide_eq_false (cut_mem (by omega) hk h (hx.n.inj hj))]
        rfl
theorem ext_cut {S : Sea} (hp : GV S.p) (hg : GV S.g) {k : Kn} (hk : KnOk S.p k) {o : Opn} (ho : opE S.p k o = 0) {x : Mo} (hx : Whole S x) : cutM (aftK S.p k o) x ∈ extM S (cutM k x) o := by
  unfold extM aftK
  rcases opE_zero ho with ⟨h1, h2, h3⟩ | ⟨h1, h2, h3⟩
  · rw [if_pos h1, if_pos h1]
    obtain ⟨n, g1, g2, g3⟩ := hx.n.n1 o.el.toNat (by omega) (rep_true (by omega))
    refine List.mem_filterMap.2 ⟨n, List.mem_range.2 g2, ?_⟩
    have := end_cut hx hk.nl h2 g1 (cutL k.es x.2)
    unfold endM at this
    have hi2 := img_get (m := (cutL k.ns x.1, cutL k.es x.2)) (i := o.el) (z := -1) rfl (by
      rw [cut_get, g1, List.getElem?_eq_getElem (by rw [hk.nl]; omega)]
      have h3 : k.ns.getD o.el.toNat false = false := h3
      rw [List.getD_eq_getElem?_getD, List.getElem?_eq_getElem (by rw [hk.nl]; omega)] at h3
      simp only [Option.getD_some] at h3
      rw [h3]
      rfl)
    rw [hi2, if_neg (by omega)] at this
    exact this
  · rw [if_neg (by omega), if_neg (by omega)]
    obtain ⟨n, g1, g2, g3, g4, g5⟩ := hx.e.e1 o.el.toNat (by omega) (rep_true (by omega))
    have e2 : ((o.el.toNat : Nat) : Int) = o.el := by omega
    rw [e2] at g3 g4 g5
    have hxe := edP_in hp h2
    have hb : k.es.length = x.2.length := by rw [hk.el, hx.e.el]
    refine List.mem_filterMap.2 ⟨n, List.mem_range.2 g2, ?_⟩
    unfold edgM
    rw [if_neg]
    · show ((endM S (cutL k.ns x.1, cutL k.es x.2) _ _).bind _) = _
      rw [end_cut hx hk.nl hxe.1 g4, Option.bind_some, end_cut hx (by rw [List.length_set]; exact hk.nl) hxe.2 g5, Option.map_some]
      congr 1
      refine Prod.ext rfl ?_
      exact (cut_more hb g1).symm
    · rintro (hh | ⟨hj, hh⟩)
      · exact hh g3
      · exact cut_mem (Int.natCast_nonneg n) (edgP_new h3) g1 (hx.e.inj hj) hh
theorem end_back {S : Sea} {ns : List Bool} {m m1 : Mo} {i n : Int} (hn : 0 ≤ n) (hi : i.toNat < m.1.length) (h : ∀ u, ns.getD u false = true → ∃ z, m.1[u]? = some z ∧ 0 ≤ z) (he : endM S m i n = some m1) :
    cutL ns m1.1 = cutL ns m.1 ∧ m1.2 = m.2 ∧ m1.1.length = m.1.length ∧ ∀ u, ns.getD u false = true → ∃ z, m1.1[u]? = some z ∧ 0 ≤ z := by
  unfold endM at he
  split at he
  · split at he
    · cases he; exact ⟨rfl, rfl, rfl, h⟩
    · cases he
  · rename_i h0
    split at he
    · cases he
      have hk : ns.getD i.toNat false = false := by
        cases hb : ns.getD i.toNat false with
        | false => rfl
        | true =>
          obtain ⟨z, h1, h2⟩ := h _ hb
          rw [img_get rfl h1] at h0
          omega
      refine ⟨cut_set hk, rfl, List.length_set .., fun u hu => ?_⟩
      obtain ⟨z, h1, h2⟩ := h u hu
      by_cases e : i.toNat = u
      · subst e; rw [hk] at hu; cases hu
      · exact ⟨z, by rw [List.getElem?_set_ne e]; exact h1, h2⟩
    · cases he
theorem ext_from {S : Sea} (hp : GV S.p) (hg : GV S.g) {k : Kn} (hk : KnOk S.p k) {m : Mo} (h : Par S k m) {o : Opn} (ho : opE S.p k o = 0) {m' : Mo} (hm : m' ∈ extM S m o) : cutM k m' = m := by
  have hs1 : cutL k.ns m.1 = m.1 := cut_self (by rw [hk.nl, h.n.nl]) fun u hu hb => h.n.n0 u (by rw [← h.n.nl]; exact hu) hb
  have hs2 : cutL k.es m.2 = m.2 := cut_self (by rw [hk.el, h.e.el]) fun u hu hb => h.e.e0 u (by rw [← h.e.el]; exact hu) hb
  have hz : ∀ u, k.ns.getD u false = true → ∃ z, m.1[u]? = some z ∧ 0 ≤ z := fun u hu => by
    have hl : u < S.p.nodes.length := by
      rw [List.getD_eq_getElem?_getD] at hu
      cases hb : k.ns[u]? with
      | none => rw [hb] at hu; cases hu
      | some c => have := (List.getElem?_eq_some_iff.1 hb).1; rw [hk.nl] at this; exact this
    obtain ⟨n, a, _⟩ := h.n.n1 u hl hu
    exact ⟨n, a, Int.natCast_nonneg n⟩
  unfold extM at hm
  unfold cutM
  rcases opE_zero ho with ⟨h1, h2, h3⟩ | ⟨h1, h2, h3⟩
  · rw [if_pos h1] at hm
    obtain ⟨n, hn, he⟩ := List.mem_filterMap.1 hm
    unfold nodM at he
    split at he
    · cases he
      exact Prod.ext ((cut_set h3).trans hs1) hs2
    · cases he
  · rw [if_neg (by omega)] at hm
    obtain ⟨n, hn, he⟩ := List.mem_filterMap.1 hm
    have hn := List.mem_range.1 hn
    have hx := edP_in hp h2
    have hy := edP_in hg (i := (n : Int)) (by omega)
    unfold edgM at he
    split at he
    · cases he
    · obtain ⟨m1, he1, he⟩ := Option.bind_eq_some_iff.1 he
      obtain ⟨m2, he2, he⟩ := Option.map_eq_some_iff.1 he
      subst he
      obtain ⟨a1, b1, c1, d1⟩ := end_back hy.1.1 (by rw [h.n.nl]; omega) hz he1
      obtain ⟨a2, b2, c2, d2⟩ := end_back hy.2.1 (by rw [c1, h.n.nl]; omega) d1 he2
      refine Prod.ext ?_ ?_
      · show cutL k.ns m2.1 = m.1
        rw [a2, a1, hs1]
      · show cutL k.es (m2.2.set o.el.toNat n) = m.2
        rw [cut_set (edgP_new h3), b2, b1, hs2]
theorem nodup_fm {f : Nat → Option Mo} (hf : ∀ a b x, f a = some x → f b = some x → a = b) : ∀ {l : List Nat}, l.Nodup → (l.filterMap f).Nodup
  | [], _ => .nil
  | a :: l, h => by
    have h' := List.nodup_cons.1 h
    rw [List.filterMap_cons]
    split
    · exact nodup_fm hf h'.2
    · rename_i x hx
      refine List.nodup_cons.2 ⟨fun hm => ?_, nodup_fm hf h'.2⟩
      obtain ⟨b, hb, hbx⟩ := List.mem_filterMap.1 hm
      have := hf a b x hx hbx
      subst this
      exact h'.1 hb
theorem ext_nodup {S : Sea} {k : Kn} {m : Mo} (h : Par S k m) {o : Opn} (ho : opE S.p k o = 0) : (extM S m o).Nodup := by
  unfold extM
  rcases opE_zero ho with ⟨h1, h2, h3⟩ | ⟨h1, h2, h3⟩
  · rw [if_pos h1]
    refine nodup_fm (fun a b x ha hb => ?_) List.nodup_range
    unfold nodM at ha hb
    split at ha
    · split at hb
      · cases ha
        have := congrArg (fun y => y[o.el.toNat]?) (congrArg Prod.fst (Option.some.inj hb))
        simp only [List.getElem?_set_self (show o.el.toNat < m.1.length by rw [h.n.nl]; omega), Option.some.injEq] at this
        omega
      · cases hb
    · cases ha
  · rw [if_neg (by omega)]
    have key : ∀ a x, edgM S m o.el a = some x → x.2[o.el.toNat]? = some (a : Int) := fun a x ha => by
      unfold edgM at ha
      split at ha
      · cases ha
      · obtain ⟨m1, he1, ha⟩ := Option.bind_eq_some_iff.1 ha
        obtain ⟨m2, he2, ha⟩ := Option.map_eq_some_iff.1 ha
        subst ha
        have snd : ∀ {m m1 : Mo} {i n : Int}, endM S m i n = some m1 → m1.2 = m.2 := fun he => by
          unfold endM at he
          split at he
          · split at he
            · cases he; rfl
            · cases he
          · split at he
            · cases he; rfl
            · cases he
        show (m2.2.set o.el.toNat (a : Int))[o.el.toNat]? = _
        rw [List.getElem?_set_self (by rw [snd he2, snd he1, h.e.el]; omega)]
    refine nodup_fm (fun a b x ha hb => ?_) List.nodup_range
    have h5 := key a x ha
    rw [key b x hb] at h5
    simp only [Option.some.injEq] at h5
    omega
structure All (S : Sea) (k : Kn) (now : List Mo) : Prop where
  par : ∀ m ∈ now, Par S k m
  nd : now.Nodup
  mem : ∀ x, Whole S x → cutM k x ∈ now
theorem nodup_flat {A B : Type} {f : A → List B} : ∀ {l : List A}, l.Nodup → (∀ a ∈ l, (f a).Nodup) → (∀ a ∈ l, ∀ b ∈ l, ∀ x, x ∈ f a → x ∈ f b → a = b) → (l.flatMap f).Nodup
  | [], _, _, _ => .nil
  | a :: l, h, h1, h2 => by
    have h' := List.nodup_cons.1 h
    rw [List.flatMap_cons]
    refine List.nodup_append.2 ⟨h1 a (by simp), nodup_flat h'.2 (fun b hb => h1 b (by simp [hb])) (fun b hb c hc => h2 b (by simp [hb]) c (by simp [hc])), fun x hx y hy hxy => ?_⟩
    subst hxy
    obtain ⟨b, hb, hy⟩ := List.mem_flatMap.1 hy
    have := h2 a (by simp) b (by simp [hb]) x hx hy
    subst this
    exact h'.1 hb
theorem all_next {S : Sea} (hp : GV S.p) (hg : GV S.g) {k : Kn} (hk : KnOk S.p k) {now : List Mo} (h : All S k now) {o : Opn} (ho : opE S.p k o = 0) : All S (aftK S.p k o) (now.flatMap fun m => extM S m o) := by
  refine ⟨fun m' hm => ?_, ?_, fun x hx => ?_⟩
  · obtain ⟨m, h1, h2⟩ := List.mem_flatMap.1 hm
    exact ext_par hp hg hk (h.par m h1) ho h2
  · refine nodup_flat h.nd (fun m hm => ext_nodup (h.par m hm) ho) fun a ha b hb x hxa hxb => ?_
    rw [← ext_from hp hg hk (h.par a ha) ho hxa, ext_from hp hg hk (h.par b hb) ho hxb]
  · exact List.mem_flatMap.2 ⟨_, h.mem x hx, ext_cut hp hg hk ho hx⟩
theorem cut_none {n : Nat} {l : List Int} (h : l.length = n) : cutL (List.replicate n false) l = noneL n := by
  subst h
  refine List.ext_getElem? fun u => ?_
  rw [cut_get]
  unfold noneL
  rw [List.getElem?_replicate, List.getElem?_replicate]
  by_cases hu : u < l.length
  · rw [if_pos hu, if_pos hu, List.getElem?_eq_getElem hu]; rfl
  · rw [if_neg hu, if_neg hu]
theorem all_0 (S : Sea) : All S (kn0 S.p) [noMo S.p] := by
  refine ⟨fun m hm => ?_, by simp, fun x hx => ?_⟩
  · rw [List.mem_singleton] at hm
    subst hm
    exact par_0 S
  · rw [List.mem_singleton]
    exact Prod.ext (cut_none hx.n.nl) (cut_none hx.e.el)
theorem all_true {l : List Bool} {n : Nat} (hl : l.length = n) (h : ∀ b ∈ l, b = true) : l = List.replicate n true := by
  subst hl
  exact List.eq_replicate_iff.2 ⟨rfl, h⟩
theorem known_rep {p : Gr} {k : Kn} (hk : KnOk p k) (h : knownB k = true) : k.ns = List.replicate p.nodes.length true ∧ k.es = List.replicate p.edges.length true := by
  obtain ⟨h1, h2⟩ := known_all h
  exact ⟨all_true hk.nl h1, all_true hk.el h2⟩
theorem all_end {S : Sea} {k : Kn} (hk : KnOk S.p k) (hkn : knownB k = true) {now : List Mo} (h : All S k now) (x : Mo) : x ∈ now ↔ Whole S x := by
  obtain ⟨h1, h2⟩ := known_rep hk hkn
  constructor
  · intro hx
    have := h.par x hx
    exact ⟨by rw [← h1]; exact this.n, by rw [← h2]; exact this.e⟩
  · intro hx
    have := h.mem x hx
    have e : cutM k x = x := Prod.ext (by
      show cutL k.ns x.1 = x.1
      refine cut_self (by rw [hk.nl, hx.n.nl]) fun u hu hb => ?_
      rw [h1, rep_true (by rw [← hx.n.nl]; exact hu)] at hb
      cases hb) (by
      show cutL k.es x.2 = x.2
      refine cut_self (by rw [hk.el, hx.e.el]) fun u hu hb => ?_
      rw [h2, rep_true (by rw [← hx.e.el]; exact hu)] at hb
      cases hb)
    rw [e] at this
    exact this
theorem run_all {S : Sea} (hp : GV S.p) (hg : GV S.g) : ∀ (l : List Opn) (k : Kn) (now : List Mo), KnOk S.p k → All S k now → planE S.p k l = 0 → ∀ r, runM (extM S) now l = some r →
    r.1.Nodup ∧ (∀ x, x ∈ r.1 ↔ Whole S x) ∧ r.2.length = l.length ∧ (l ≠ [] → r.2.getLast? = some (r.1.length : Int)) ∧ (l ≠ [] → r.1.length ≤ 5000)
  | [], k, now, hk, ha, hl, r, hr => by
    unfold planE at hl
    unfold runM at hr
    cases hr
    split at hl
    · rename_i h1
      exact ⟨ha.nd, all_end hk h1 ha, rfl, fun h => absurd rfl h, fun h => absurd rfl h⟩
    · cases hl
  | o :: l, k, now, hk, ha, hl, r, hr => by
    unfold planE at hl
    split at hl
    · rename_i h1; exact absurd hl h1
    · rename_i h1
      have h1 := Decidable.not_not.1 h1
      unfold runM at hr
      split at hr
      · cases hr
      · rename_i hle
        obtain ⟨r', hr', he⟩ := Option.map_eq_some_iff.1 hr
        have ih := run_all hp hg l _ _ (aftK_ok hk o) (all_next hp hg hk ha h1) hl r' hr'
        subst he
        refine ⟨ih.1, ih.2.1, by simp [ih.2.2.1], fun _ => ?_, fun _ => ?_⟩
        · cases l with
          | nil => unfold runM at hr'; cases hr'; rfl
          | cons o' l =>
            have := ih.2.2.2.1 (by simp)
            show ((_ :: r'.2).getLast?) = _
            rw [List.getLast?_cons, this]
            rfl
        · cases l with
          | nil => unfold runM at hr'; cases hr'; show (now.flatMap _).length ≤ 5000; omega
          | cons o' l => exact ih.2.2.2.2 (by simp)
end Go.Sj.Pln
end
section
namespace Go.Sj.Pln
open Go.Sj Go.Sj.Sta Go.Sj.Typ Go.Sj.Inc
set_option maxRecDepth 8000
theorem off_0 (i k : Nat) : offN none i k = false := rfl
theorem whole_isF {S : Sea} (hn : S.pn = none) (he : S.pe = none) (hp : GV S.p) {x : Mo} : Whole S x ↔ IsF S 0 0 x := by
  constructor
  · intro h
    refine ⟨h.n.nl, h.e.el, fun u _ hu => ?_, fun u _ hu => ?_⟩
    · obtain ⟨n, h1, h2, h3⟩ := h.n.n1 u hu (rep_true hu)
      refine ⟨n, h1, h2, ?_⟩
      have hl : (x.1.take u).length = u := by rw [List.length_take, h.n.nl]; omega
      unfold candN
      rw [hn, off_0, hl, h3]
      cases hj : S.inj with
      | false => rfl
      | true =>
        rw [decide_eq_false]
        · rfl
        · intro hm
          obtain ⟨v, hv⟩ := List.getElem?_of_mem hm
          have hv2 := (List.getElem?_eq_some_iff.1 hv).1
          rw [List.getElem?_take, if_pos (by omega)] at hv
          have := h.n.inj hj u v n (Int.natCast_nonneg n) h1 hv
          omega
    · obtain ⟨n, h1, h2, h3, h4, h5⟩ := h.e.e1 u hu (rep_true hu)
      refine ⟨n, h1, h2, ?_⟩
      have hl : (x.2.take u).length = u := by rw [List.length_take, h.e.el]; omega
      rw [edP_get hu, edP_get h2] at h3
      rw [edP_get hu] at h4 h5
      rw [edP_get h2] at h4 h5
      unfold candE fitB eqE
      rw [he, off_0, hl, List.getElem?_eq_getElem hu, List.getElem?_eq_getElem h2]
      simp only [List.getD_eq_getElem?_getD, h4, h5, Option.getD_some, decide_true, Bool.and_true, h3]
      cases hj : S.inj with
      | false => rfl
      | true =>
        rw [decide_eq_false]
        · rfl
        · intro hm
          obtain ⟨v, hv⟩ := List.getElem?_of_mem hm
          have hv2 := (List.getElem?_eq_some_iff.1 hv).1
          rw [List.getElem?_take, if_pos (by omega)] at hv
          have := h.e.inj hj u v n (Int.natCast_nonneg n) h1 hv
          omega
  · intro h
    have dist : ∀ {l : List Int}, (∀ (u : Nat) (z : Int), l[u]? = some z → z ∉ l.take u) → ∀ (u v : Nat) (z : Int), l[u]? = some z → l[v]? = some z → u = v := fun {l} hd u v z h1 h2 => by
      have hu := (List.getElem?_eq_some_iff.1 h1).1
      have hv := (List.getElem?_eq_some_iff.1 h2).1
      rcases Nat.lt_trichotomy u v with e | e | e
      · exact absurd (List.mem_of_getElem? (by rw [List.getElem?_take, if_pos e]; exact h1)) (hd v z h2)
      · exact e
      · exact absurd (List.mem_of_getElem? (by rw [List.getElem?_take, if_pos e]; exact h2)) (hd u z h1)
    constructor
    · refine ⟨h.nl, fun u hu _ => ?_, fun u hu hf => ?_, fun hj u v z _ h1 h2 => dist (fun u z hu => ?_) u v z h1 h2⟩
      · obtain ⟨k, h1, h2, h3⟩ := h.ns u (Nat.zero_le _) hu
        have hl : (x.1.take u).length = u := by rw [List.length_take, h.nl]; omega
        unfold candN at h3
        rw [hl, Bool.and_eq_true, Bool.and_eq_true] at h3
        exact ⟨k, h1, h2, h3.2.1⟩
      · rw [rep_true hu] at hf; cases hf
      · have hul := (List.getElem?_eq_some_iff.1 hu).1
        obtain ⟨k, h1, h2, h3⟩ := h.ns u (Nat.zero_le _) (by rw [← h.nl]; exact hul)
        rw [hu] at h1
        cases h1
        unfold candN at h3
        rw [Bool.and_eq_true, Bool.and_eq_true, hj] at h3
        simpa using h3.2.2
    · refine ⟨h.el, fun u hu _ => ?_, fun u hu hf => ?_, fun hj u v z _ h1 h2 => dist (fun u z hu => ?_) u v z h1 h2⟩
      · obtain ⟨k, h1, h2, h3⟩ := h.es u (Nat.zero_le _) hu
        have hl : (x.2.take u).length = u := by rw [List.length_take, h.el]; omega
        have hin := (hp.edges _ (List.getElem_mem hu)).2
        unfold candE fitB eqE at h3
        rw [hl, List.getElem?_eq_getElem hu, List.getElem?_eq_getElem h2] at h3
        simp only [Bool.and_eq_true, decide_eq_true_eq] at h3
        obtain ⟨⟨_, g1, g2, g3⟩, _⟩ := h3
        refine ⟨k, h1, h2, ?_, ?_, ?_⟩
        · rw [edP_get hu, edP_get h2]; exact g1
        · rw [edP_get hu, edP_get h2, g2, List.getD_eq_getElem?_getD, List.getElem?_eq_getElem (by rw [h.nl]; omega)]; rfl
        · rw [edP_get hu, edP_get h2, g3, List.getD_eq_getElem?_getD, List.getElem?_eq_getElem (by rw [h.nl]; omega)]; rfl
      · rw [rep_true hu] at hf; cases hf
      · have hul := (List.getElem?_eq_some_iff.1 hu).1
        obtain ⟨k, h1, h2, h3⟩ := h.es u (Nat.zero_le _) (by rw [← h.el]; exact hul)
        rw [hu] at h1
        cases h1
        unfold candE at h3
        rw [Bool.and_eq_true, hj] at h3
        simpa using h3.2
theorem perm_len {l l' : List Mo} (h : l.Nodup) (h' : l'.Nodup) (hm : ∀ x, x ∈ l ↔ x ∈ l') : l.length = l'.length := by
  have h1 : ∀ {a b : List Mo}, a.Nodup → (∀ x ∈ a, x ∈ b) → a.length ≤ b.length := by
    intro a
    induction a with
    | nil => exact fun _ _ => Nat.zero_le _
    | cons x a ih =>
      intro b ha hb
      have ha' := List.nodup_cons.1 ha
      have hx := hb x (by simp)
      have := ih (b := b.erase x) ha'.2 fun y hy => (List.mem_erase_of_ne (fun e => ha'.1 (by rw [← e]; exact hy))).2 (hb y (by simp [hy]))
      rw [List.length_erase_of_mem hx] at this
      have := List.length_pos_of_mem hx
      simp only [List.length_cons]
      omega
  exact Nat.le_antisymm (h1 h fun x hx => (hm x).1 hx) (h1 h' fun x hx => (hm x).2 hx)
theorem srtM_nodup {l : List Mo} (h : SrtM l) : l.Nodup := h.imp fun {a b} hab e => by
  rw [e, cmpM_self] at hab
  exact absurd hab (by decide)
theorem run_mat {S : Sea} (hn : S.pn = none) (he : S.pe = none) (hp : GV S.p) (hg : GV S.g) {l : List Opn} (hl : planE S.p (kn0 S.p) l = 0) {r : List Mo × List Int} (hr : runM (extM S) [noMo S.p] l = some r) :
    r.1.Nodup ∧ (∀ x, x ∈ r.1 ↔ x ∈ matL S) ∧ r.1.length = (matL S).length ∧ (matL S).length ≤ 5000 ∧ r.2.length = l.length ∧ (l ≠ [] → r.2.getLast? = some (r.1.length : Int)) := by
  obtain ⟨a, b, c, d, e⟩ := run_all hp hg l _ _ (kn0_ok _) (all_0 S) hl r hr
  have hm : ∀ x, x ∈ r.1 ↔ x ∈ matL S := fun x => by rw [b, mat_mem, whole_isF hn he hp]
  have hlen := perm_len a (srtM_nodup (mat_srt S)) hm
  refine ⟨a, hm, hlen, ?_, c, d⟩
  cases l with
  | nil =>
    unfold runM at hr
    cases hr
    rw [← hlen]
    show 1 ≤ 5000
    omega
  | cons o l => rw [← hlen]; exact e (by simp)
end Go.Sj.Pln
end
section
namespace Go.Sj.Pln
open Go.Sj Go.Sj.Sta Go.Sj.Typ Go.Sj.Inc
set_option maxRecDepth 8000
abbrev SrtLe (l : List Mo) : Prop := l.Pairwise fun a b => cmpM a b ≤ 0
theorem leM_ext : ∀ {l l' : List Mo}, SrtLe l → SrtLe l' → l.Perm l' → l = l'
  | [], l', _, _, hp => (List.nil_perm.1 hp).symm
  | a :: l, [], _, _, hp => absurd hp.length_eq (by simp)
  | a :: l, b :: l', h, h', hp => by
    have h1 := List.pairwise_cons.1 h
    have h2 := List.pairwise_cons.1 h'
    have hab : a = b := by
      rcases List.mem_cons.1 (hp.mem_iff.1 (List.mem_cons_self ..)) with e | ha
      · exact e
      · rcases List.mem_cons.1 (hp.mem_iff.2 (List.mem_cons_self ..)) with e | hb
        · exact e.symm
        · have k1 := h1.1 b hb
          have k2 := h2.1 a ha
          rw [cmpM_anti a b] at k2
          exact cmpM_eq (by omega)
    subst hab
    rw [leM_ext h1.2 h2.2 ((List.perm_cons a).1 hp)]
def mrg : List Mo → List Mo → List Mo
  | [], b => b
  | a :: xs, [] => a :: xs
  | a :: xs, b :: ys => if cmpM a b < 0 then a :: mrg xs (b :: ys) else b :: mrg (a :: xs) ys
termination_by a b => a.length + b.length
theorem mrg_nil (a : List Mo) : mrg a [] = a := by
  cases a <;> rw [mrg]
theorem mrg_left (b : List Mo) : mrg [] b = b := by rw [mrg]
theorem mrg_cons (a b : Mo) (xs ys : List Mo) : mrg (a :: xs) (b :: ys) = if cmpM a b < 0 then a :: mrg xs (b :: ys) else b :: mrg (a :: xs) ys := by rw [mrg]
theorem mrg_perm : ∀ (n : Nat) (a b : List Mo), a.length + b.length ≤ n → (mrg a b).Perm (a ++ b)
  | n, [], b, _ => by rw [mrg_left]; exact List.Perm.refl _
  | n, a :: xs, [], _ => by rw [mrg_nil, List.append_nil]
  | 0, a :: xs, b :: ys, h => by simp at h
  | n + 1, a :: xs, b :: ys, h => by
    simp only [List.length_cons] at h
    rw [mrg_cons]
    split
    · exact (mrg_perm n xs (b :: ys) (by simp only [List.length_cons]; omega)).cons a
    · exact ((mrg_perm n (a :: xs) ys (by simp only [List.length_cons]; omega)).cons b).trans List.perm_middle.symm
theorem mrg_srt : ∀ (n : Nat) (a b : List Mo), a.length + b.length ≤ n → SrtLe a → SrtLe b → SrtLe (mrg a b)
  | n, [], b, _, _, h => by rw [mrg_left]; exact h
  | n, a :: xs, [], _, h, _ => by rw [mrg_nil]; exact h
  | 0, a :: xs, b :: ys, h, _, _ => by simp at h
  | n + 1, a :: xs, b :: ys, h, ha, hb => by
    simp only [List.length_cons] at h
    have ha' := List.pairwise_cons.1 ha
    have hb' := List.pairwise_cons.1 hb
    rw [mrg_cons]
    split
    · rename_i hlt
      refine List.pairwise_cons.2 ⟨fun x hx => ?_, mrg_srt n xs (b :: ys) (by simp only [List.length_cons]; omega) ha'.2 hb⟩
      have hx := (mrg_perm _ _ _ (Nat.le_refl _)).mem_iff.1 hx
      rcases List.mem_append.1 hx with hx | hx
      · exact ha'.1 x hx
      · rcases List.mem_cons.1 hx with e | hx
        · subst e; omega
        · exact cmpM_trans (b := b) (by omega) (hb'.1 x hx)
    · rename_i hlt
      have hba : cmpM b a ≤ 0 := by rw [cmpM_anti a b]; omega
      refine List.pairwise_cons.2 ⟨fun x hx => ?_, mrg_srt n (a :: xs) ys (by simp only [List.length_cons]; omega) ha hb'.2⟩
      have hx := (mrg_perm _ _ _ (Nat.le_refl _)).mem_iff.1 hx
      rcases List.mem_append.1 hx with hx | hx
      · rcases List.mem_cons.1 hx with e | hx
        · subst e; exact hba
        · exact cmpM_trans (b := a) hba (ha'.1 x hx)
      · exact hb'.1 x hx
theorem mrg_halves {l a b s : List Mo} (k : Nat) (ha : SrtLe a) (hb : SrtLe b) (pa : a.Perm (l.take k)) (pb : b.Perm (l.drop k)) (hs : SrtLe s) (ps : s.Perm l) : mrg a b = s := by
  refine leM_ext (mrg_srt _ a b (Nat.le_refl _) ha hb) hs ?_
  refine (mrg_perm _ a b (Nat.le_refl _)).trans (((pa.append pb).trans ?_).trans ps.symm)
  rw [List.take_append_drop]
end Go.Sj.Pln
end
section
namespace Go.Proofs.YtimfponihbfimaaGreat
open Go.Sj Go.Sj.Typ Go.Sj.Sta Go.Sj.Inc
set_option maxRecDepth 8000
set_option maxHeartbeats 16000000
theorem ggiven_spec (t : Tys) (ht : Small t) (p g : Gr) (hp : OkG p) (hg : OkG g) : Pure Tryz.prog 38 [tysA t, grA p, grA g] (AI (validS t p g)) := by
  have s1 := refValid_spec t ht
  have s2 := refgvalid_spec p hp
  have s3 := refgvalid_spec g hg
  obtain ⟨r, hr⟩ : ∃ r, validS t p g = r := ⟨_, rfl⟩
  rw [hr]
  unfold validS at hr
  generalize (validR t).1 = nm at s1
  by_cases hv : (validR t).2 = 0
  · rw [if_neg (Decidable.not_not.2 hv)] at hr
    rw [hv] at s1
    by_cases h1 : gvalid p = 0
    · rw [if_neg (Decidable.not_not.2 h1)] at hr
      rw [h1] at s2
      have hP := gvalid_zero.1 h1
      have s4 := gTyped_spec t ht p hP
      by_cases h2 : gvalid g = 0
      · rw [if_neg (Decidable.not_not.2 h2)] at hr
        rw [h2] at s3
        have hG := gvalid_zero.1 h2
        have s5 := gTyped_spec t ht g hG
        clear hP hG
        generalize typT t p = b1 at *
        generalize typT t g = b2 at *
        cases b1 <;> cases b2
        all_goals
          subst hr
          refine zen Tryz.func38 (by kernel_rfl) rfl Tryz.ntmps38 rfl (by simp) ?_
          refine a_seq ?_
          refine a_reg ?_
          repeat (first | refine gZ pk ?_ | (show AL _ _ _ _ _ _ _; first | refine jB (fun u => ?_)))
          refine zfb 0 5 rfl rfl ?_
          refine zfb 0 4 rfl rfl ?_
          refine zfb 0 3 rfl rfl ?_
          repeat (first | refine gA pk ?_ | (show AL _ _ _ _ _ _ _; first | refine jP s1 ?_ | refine jP s2 ?_ | refine jP s3 ?_ | refine jP s4 ?_ | refine jP s5 ?_))
          refine finQ ?_
          exact ⟨rfl, rfl⟩
      · rw [if_pos h2] at hr
        subst hr
        generalize gvalid g = e at *
        refine zen Tryz.func38 (by kernel_rfl) rfl Tryz.ntmps38 rfl (by simp) ?_
        refine a_seq ?_
        refine a_reg ?_
        repeat (first | refine gZ pk ?_ | (show AL _ _ _ _ _ _ _; first | refine jB (fun u => ?_)))
        refine zfb 0 5 rfl rfl ?_
        refine zfb 0 4 rfl rfl ?_
        refine zfb 0 3 rfl rfl ?_
        repeat (first | refine gA pk ?_ | (show AL _ _ _ _ _ _ _; first | refine jP s1 ?_ | refine jP s2 ?_ | refine jP s3 ?_))
        refine finQ ?_
        exact ⟨rfl, rfl⟩
    · rw [if_pos h1] at hr
      subst hr
      generalize gvalid p = e at *
      refine zen Tryz.func38 (by kernel_rfl) rfl Tryz.ntmps38 rfl (by simp) ?_
      refine a_seq ?_
      refine a_reg ?_
      repeat (first | refine gZ pk ?_ | (show AL _ _ _ _ _ _ _; first | refine jB (fun u => ?_)))
      refine zfb 0 5 rfl rfl ?_
      refine zfb 0 4 rfl rfl ?_
      refine zfb 0 3 rfl rfl ?_
      repeat (first | refine gA pk ?_ | (show AL _ _ _ _ _ _ _; first | refine jP s1 ?_ | refine jP s2 ?_))
      refine finQ ?_
      exact ⟨rfl, rfl⟩
  · rw [if_pos hv] at hr
    subst hr
    generalize (validR t).2 = e at *
    refine zen Tryz.func38 (by kernel_rfl) rfl Tryz.ntmps38 rfl (by simp) ?_
    refine a_seq ?_
    refine a_reg ?_
    repeat (first | refine gZ pk ?_ | (show AL _ _ _ _ _ _ _; first | refine jB (fun u => ?_)))
    refine zfb 0 5 rfl rfl ?_
    refine zfb 0 4 rfl rfl ?_
    refine zfb 0 3 rfl rfl ?_
    repeat (first | refine gA pk ?_ | (show AL _ _ _ _ _ _ _; first | refine jP s1 ?_))
    refine finQ ?_
    exact ⟨rfl, rfl⟩
end Go.Proofs.YtimfponihbfimaaGreat
end
section
namespace Go.Proofs.YtimfponihbfimaaGreat
open Go.Sj Go.Sj.Typ Go.Sj.Sta Go.Sj.Inc
set_option maxRecDepth 8000
set_option maxHeartbeats 16000000
theorem take_eqI {α : Type} {xs ys : List α} {k : Nat} {a b : α} (h1 : xs[k]? = some a) (h2 : ys[k]? = some b) (he : xs.take k = ys.take k) (hab : a = b) : xs.take (k + 1) = ys.take (k + 1) := by
  rw [List.take_add_one, List.take_add_one, h1, h2, he, hab]
theorem gSameInts_spec (xs ys : List Int) (hx : xs.length ≤ 1000000) (hy : ys.length ≤ 1000000) : Pure Tryz.prog 54 [ints xs, ints ys] (AB (decide (xs = ys))) := by
  have lx : (rowI xs).length = xs.length := by simp
  have ly : (rowI ys).length = ys.length := by simp
  by_cases hl : xs.length = ys.length
  · refine zen Tryz.func54 (by kernel_rfl) rfl Tryz.ntmps54 rfl (by simp) ?_
    repeat (first | refine gA pk ?_)
    refine zlx (fun k : Nat => [(0, ints xs), (1, ints ys), (5, AI k)]) (fun _ => []) (fun k => k ≤ xs.length ∧ xs.take k = ys.take k) (fun k => xs.length - k) 0 ⟨Nat.zero_le _, rfl⟩ ?_ (OSub.refl _) ?_
    · exact subQ
    · rintro k ⟨hk, he⟩
      rcases Nat.lt_or_ge k xs.length with h | h
      · have h1 := List.getElem?_eq_getElem h
        have h2 := List.getElem?_eq_getElem (l := ys) (i := k) (by omega)
        generalize xs[k] = a at h1
        generalize ys[k]'(by omega) = b at h2
        have x1 : (rowI xs)[(k : Int).toNat]? = some [AI a] := zmp (f := cI) h1
        have x2 : (rowI ys)[(k : Int).toNat]? = some [AI b] := zmp (f := cI) h2
        by_cases hab : a = b
        · have ht := take_eqI h1 h2 he hab
          repeat (first | refine gA pk ?_ | (show AL _ _ _ _ _ _ _; first | refine jX tok x1 ?_ | refine jX tok x2 ?_))
          exact ⟨k + 1, ⟨by omega, ht⟩, by omega, by exact subQ, OSub.refl _⟩
        · have hne : xs ≠ ys := fun e => by rw [e, h2] at h1; cases h1; exact hab rfl
          rw [decide_eq_false hne]
          repeat (first | refine gA pk ?_ | (show AL _ _ _ _ _ _ _; first | refine jX tok x1 ?_ | refine jX tok x2 ?_))
          refine finQ ?_
          exact ⟨rfl, rfl⟩
      · have : xs = ys := by
          have e1 : xs.take k = xs := List.take_of_length_le (by omega)
          have e2 : ys.take k = ys := List.take_of_length_le (by omega)
          rw [← e1, ← e2, he]
        rw [decide_eq_true this]
        repeat (first | refine gA pk ?_)
        refine finQ ?_
        exact ⟨rfl, rfl⟩
  · rw [decide_eq_false (fun e => hl (by rw [e]))]
    refine zen Tryz.func54 (by kernel_rfl) rfl Tryz.ntmps54 rfl (by simp) ?_
    repeat (first | refine gA pk ?_)
    refine finQ ?_
    exact ⟨rfl, rfl⟩
end Go.Proofs.YtimfponihbfimaaGreat
end
section
namespace Go.Proofs.YtimfponihbfimaaGreat
open Go.Sj Go.Sj.Typ Go.Sj.Sta Go.Sj.Inc
set_option maxRecDepth 8000
set_option maxHeartbeats 16000000
theorem take_nextE {A : Type} {a b : List A} {k : Nat} {x : A} (h1 : a[k]? = some x) (h2 : b[k]? = some x) (he : a.take k = b.take k) : a.take (k + 1) = b.take (k + 1) := by
  rw [List.take_add_one, List.take_add_one, h1, h2, he]
theorem gSameAll_spec (a b : List Mo) (ha : ∀ m ∈ a, MoB m) (hb : ∀ m ∈ b, MoB m) (hla : a.length ≤ 1000000) (hlb : b.length ≤ 1000000) : Pure Tryz.prog 16 [mosA a, mosA b] (AB (decide (a = b))) := by
  have la : (a.map cMo).length = a.length := by simp
  have lb : (b.map cMo).length = b.length := by simp
  by_cases hl : a.length = b.length
  · refine zen Tryz.func16 (by kernel_rfl) rfl Tryz.ntmps16 rfl (by simp) ?_
    repeat (first | refine gA pk ?_)
    refine zlx (fun k : Nat => [(0, mosA a), (1, mosA b), (5, AI k)]) (fun _ => []) (fun k => k ≤ a.length ∧ a.take k = b.take k) (fun k => a.length - k) 0 ⟨Nat.zero_le _, rfl⟩ ?_ (OSub.none _) ?_
    · exact subQ
    · rintro k ⟨hk, he⟩
      rcases Nat.lt_or_ge k a.length with h | h
      · have h1 := List.getElem?_eq_getElem h
        have h2 := List.getElem?_eq_getElem (l := b) (i := k) (by omega)
        have b1 := ha _ (List.getElem_mem h)
        have b2 := hb _ (List.getElem_mem (l := b) (n := k) (by omega))
        generalize a[k] = x at h1 b1
        generalize b[k]'(by omega) = y at h2 b2
        have x1 : (a.map cMo)[(k : Int).toNat]? = some (cMo x) := zmp (f := cMo) h1
        have x2 : (b.map cMo)[(k : Int).toNat]? = some (cMo y) := zmp (f := cMo) h2
        have s1 := gSameInts_spec x.1 y.1 b1.1 b2.1
        have s2 := gSameInts_spec x.2 y.2 b1.2 b2.2
        have hne : x ≠ y → decide (a = b) = false := fun hxy => decide_eq_false (fun e => by rw [e, h2] at h1; cases h1; exact hxy rfl)
        obtain ⟨xa, xb⟩ := x
        obtain ⟨ya, yb⟩ := y
        simp only at s1 s2
        by_cases e1 : xa = ya
        · rw [decide_eq_true e1] at s1
          by_cases e2 : xb = yb
          · rw [decide_eq_true e2] at s2
            subst e1; subst e2
            have ht := take_nextE h1 h2 he
            repeat (first | refine gN pk ?_)
            refine zrg ((List.range 26).map fun i => if inL [10, 23] i = true then .eff else if inL [2, 4, 7, 9, 15, 17, 20, 22] i = true then .read else .pure) [] [0, 1, 2, 3, 4, 5, 6, 7, 8, 9, 10, 11, 12, 13, 14, 15, 16, 17, 18, 19, 20, 21, 22, 23, 24, 25] .stop mixed rfl rfl (by decide +kernel) ?_
            repeat' (first | (with_reducible show AG _ _ _ _ _ _ _ _ _ _; first | exact zgn | refine zgs ?_ | refine znd ?_ ?_) | (show AMid _ _ _ _; first | refine zmf ?_ | refine zmg (by first | exact OSub.refl _ | exact .drop (OSub.refl _) | exact .drop (.drop (OSub.refl _))) ?_) | refine gY pk ?_ | (show AL _ _ _ _ _ _ _; first | refine jX tok x1 ?_ | refine jX tok x2 ?_ | refine jP s1 ?_ | refine jP s2 ?_) | fail)
            repeat (first | refine gA pk ?_)
            exact ⟨k + 1, ⟨by omega, ht⟩, by omega, by exact subQ, OSub.none _⟩
          · rw [decide_eq_false e2] at s2
            rw [hne (fun e => e2 (by cases e; rfl))]
            repeat (first | refine gN pk ?_)
            refine zrg ((List.range 26).map fun i => if inL [10, 23] i = true then .eff else if inL [2, 4, 7, 9, 15, 17, 20, 22] i = true then .read else .pure) [] [0, 1, 2, 3, 4, 5, 6, 7, 8, 9, 10, 11, 12, 13, 14, 15, 16, 17, 18, 19, 20, 21, 22, 23, 24, 25] .stop mixed rfl rfl (by decide +kernel) ?_
            repeat' (first | (with_reducible show AG _ _ _ _ _ _ _ _ _ _; first | exact zgn | refine zgs ?_ | refine znd ?_ ?_) | (show AMid _ _ _ _; first | refine zmf ?_ | refine zmg (by first | exact OSub.refl _ | exact .drop (OSub.refl _) | exact .drop (.drop (OSub.refl _))) ?_) | refine gY pk ?_ | (show AL _ _ _ _ _ _ _; first | refine jX tok x1 ?_ | refine jX tok x2 ?_ | refine jP s1 ?_ | refine jP s2 ?_) | fail)
            repeat (first | refine gA pk ?_)
            refine finQ ?_
            exact ⟨rfl, rfl⟩
        · rw [decide_eq_false e1] at s1
          rw [hne (fun e => e1 (by cases e; rfl))]
          repeat (first | refine gN pk ?_)
          refine zrg ((List.range 26).map fun i => if inL [10, 23] i = true then .eff else if inL [2, 4, 7, 9, 15, 17, 20, 22] i = true then .read else .pure) [] [0, 1, 2, 3, 4, 5, 6, 7, 8, 9, 10, 11, 12, 13, 14, 15, 16, 17, 18, 19, 20, 21, 22, 23, 24, 25] .stop mixed rfl rfl (by decide +kernel) ?_
          repeat' (first | (with_reducible show AG _ _ _ _ _ _ _ _ _ _; first | exact zgn | refine zgs ?_ | refine znd ?_ ?_) | (show AMid _ _ _ _; first | refine zmf ?_ | refine zmg (by first | exact OSub.refl _ | exact .drop (OSub.refl _) | exact .drop (.drop (OSub.refl _))) ?_) | refine gY pk ?_ | (show AL _ _ _ _ _ _ _; first | refine jX tok x1 ?_ | refine jX tok x2 ?_ | refine jP s1 ?_) | fail)
          repeat (first | refine gA pk ?_)
          refine finQ ?_
          exact ⟨rfl, rfl⟩
      · have : a = b := by
          have e1 : a.take k = a := List.take_of_length_le (by omega)
          have e2 : b.take k = b := List.take_of_length_le (by omega)
          rw [← e1, ← e2, he]
        rw [decide_eq_true this]
        repeat (first | refine gA pk ?_)
        refine finQ ?_
        exact ⟨rfl, rfl⟩
  · rw [decide_eq_false (fun e => hl (by rw [e]))]
    refine zen Tryz.func16 (by kernel_rfl) rfl Tryz.ntmps16 rfl (by simp) ?_
    repeat (first | refine gA pk ?_)
    refine finQ ?_
    exact ⟨rfl, rfl⟩
end Go.Proofs.YtimfponihbfimaaGreat
end
section
namespace Go.Proofs.YtimfponihbfimaaGreat
open Go.Sj Go.Sj.Typ Go.Sj.Sta Go.Sj.Inc
set_option maxRecDepth 8000
set_option maxHeartbeats 16000000
theorem light17_spec (t : Tys) (ht : OkT t) (p g : Gr) (hp : OkG p) (hg : OkG g) : Go.Sj.ACalls Tryz.prog 12 [tysA t, grA p, grA g] [] (fun y L => (∃ b, y = AB b ∧ (b = true → Small t)) ∧ L = []) := by
  have s1 := Few_spec t ht
  have s2 := gfew_spec p
  have s3 := gfew_spec g
  have s4 := fun (hs : Small t) => ggiven_spec t hs p g hp hg
  have lp := hp.1
  have lp2 := hp.2
  have lg := hg.1
  have lg2 := hg.2
  generalize decide (p.nodes.length ≤ 45 ∧ p.edges.length ≤ 90) = b2 at *
  generalize decide (g.nodes.length ≤ 45 ∧ g.edges.length ≤ 90) = b3 at *
  generalize validS t p g = e at *
  obtain ⟨pn, pe⟩ := p
  obtain ⟨gn, ge⟩ := g
  simp only at lp lp2 lg lg2
  have l1 : (rowI pn).length = pn.length := by simp
  have l2 : (pe.map cEd).length = pe.length := by simp
  have l3 : (rowI gn).length = gn.length := by simp
  have l4 : (ge.map cEd).length = ge.length := by simp
  change Pure _ _ [.agg [ints pn, edsA pe]] _ at s2
  change Pure _ _ [.agg [ints gn, edsA ge]] _ at s3
  change ∀ _, Pure _ _ [tysA t, .agg [ints pn, edsA pe], .agg [ints gn, edsA ge]] _ at s4
  change Go.Sj.ACalls _ _ [tysA t, .agg [ints pn, edsA pe], .agg [ints gn, edsA ge]] _ _
  refine zen Tryz.func12 (by kernel_rfl) rfl Tryz.ntmps12 rfl (by simp) ?_
  refine a_seq ?_
  refine a_reg ?_
  repeat (first | refine gZ pk ?_ | (show AL _ _ _ _ _ _ _; first | refine jB (fun u => ?_)))
  refine zfb 2 3 rfl rfl ?_
  refine zfb 1 4 rfl rfl ?_
  refine zfb 0 5 rfl rfl ?_
  repeat (first | refine gN pk ?_ | (show AL _ _ _ _ _ _ _; first | refine zsc (Lc := []) (Lr := []) rfl rfl rfl rfl rfl s1 (SubL.of_eq rfl) (List.Perm.refl _) ?_; rintro _ _ ⟨⟨b1, rfl, hb1⟩, rfl⟩))
  cases b1 with
  | false =>
    repeat (first | refine gA pk ?_)
    exact fin (x := .lit _) (.inr rfl) rfl (Sub.refl _) ⟨⟨_, rfl, fun h => (by cases h)⟩, rfl⟩ (OSub.none _)
  | true =>
    have hs := hb1 rfl
    replace s4 := s4 hs
    cases b2
    all_goals cases b3
    all_goals
      repeat' (first | refine gA pk ?_ | (show AL _ _ _ _ _ _ _; first | refine jP s2 ?_ | refine jP s3 ?_ | refine jP s4 ?_ | (refine s_cmp rfl rfl rfl rfl rfl rfl rfl (fun hb => ?_) (fun hb => ?_) <;> simp only [cmpP] at hb)) | fail)
      all_goals exact fin (x := .lit _) (.inr rfl) rfl (Sub.refl _) ⟨⟨_, rfl, fun _ => hs⟩, rfl⟩ (OSub.none _)
end Go.Proofs.YtimfponihbfimaaGreat
end
section
namespace Go.Proofs.YtimfponihbfimaaGreat
open Go.Sj Go.Sj.Typ Go.Sj.Sta Go.Sj.Inc
set_option maxRecDepth 8000
set_option maxHeartbeats 16000000
abbrev LeM (l : List Mo) : Prop := l.Pairwise fun a b => cmpM a b ≤ 0
theorem srtL_le (l : List Mo) : LeM (srtL l) := by
  have h := Sort.sort_sorts ltM swo_ltM l.toArray
  unfold srtL
  rw [LeM, List.pairwise_iff_getElem]
  intro i j hi hj hij
  have hs : (Sort.sort ltM l.toArray).size = l.toArray.size := h.1.1
  have hi' : i < (Sort.sort ltM l.toArray).size := by simpa using hi
  have hj' : j < (Sort.sort ltM l.toArray).size := by simpa using hj
  have := ltM_f.1 (h.2 i j (Nat.zero_le _) hij (by omega))
  rw [get_pos _ hi', get_pos _ hj', cmpM_anti] at this
  simp only [Array.getElem_toList]
  omega
theorem le_srt {l : List Mo} (h : LeM l) (hn : l.Nodup) : SrtM l := by
  have := List.Pairwise.and h hn
  exact this.imp fun {a b} hab => by
    have : cmpM a b ≠ 0 := fun e => hab.2 (cmpM_eq e)
    omega
section
variable {t : Tys} {p g : Gr} {edge inj : Bool}
end
end Go.Proofs.YtimfponihbfimaaGreat
end
section
namespace Go.Proofs.YtimfponihbfimaaGreat
open Go.Sj Go.Sj.Typ
set_option maxRecDepth 8000
set_option maxHeartbeats 4000000
abbrev RAtt := ByteArray × Int × Int × List ByteArray × Unit
abbrev RNod := ByteArray × Int × Bool × List RAtt × Unit
abbrev REdg := ByteArray × Int × Int × Int × Int × Int × Int × Unit
abbrev RTys := List RNod × List REdg × Unit
def toAtt (x : RAtt) : Att := ⟨x.1, x.2.1, x.2.2.1, x.2.2.2.1⟩
def toNod (x : RNod) : Nod := ⟨x.1, x.2.1, x.2.2.1, x.2.2.2.1.map toAtt⟩
def toEdg (x : REdg) : Edg := ⟨x.1, x.2.1, x.2.2.1, x.2.2.2.1, x.2.2.2.2.1, x.2.2.2.2.2.1, x.2.2.2.2.2.2.1⟩
def toTys (x : RTys) : Tys := ⟨x.1.map toNod, x.2.1.map toEdg⟩
def gAtt (x : RAtt) : List AV := [.lit (.string x.1)] ++ ([.lit (.int .i64 x.2.1)] ++ ([.lit (.int .i64 x.2.2.1)] ++ ([.im 1 (x.2.2.2.1.map fun s => [.lit (.string s)])] ++ [])))
def gNod (x : RNod) : List AV := [.lit (.string x.1)] ++ ([.lit (.int .i64 x.2.1)] ++ ([.lit (.bool x.2.2.1)] ++ ([.im 4 (x.2.2.2.1.map gAtt)] ++ [])))
def gEdg (x : REdg) : List AV := [.lit (.string x.1)] ++ ([.lit (.int .i64 x.2.1)] ++ ([.lit (.int .i64 x.2.2.1)] ++ ([.lit (.int .i64 x.2.2.2.1)] ++ ([.lit (.int .i64 x.2.2.2.2.1)] ++ ([.lit (.int .i64 x.2.2.2.2.2.1)] ++ ([.lit (.int .i64 x.2.2.2.2.2.2.1)] ++ []))))))
def gTys (x : RTys) : List AV := [.im 4 (x.1.map gNod)] ++ ([.im 7 (x.2.1.map gEdg)] ++ [])
theorem gAtt_eq : gAtt = fun x => cAtt (toAtt x) := rfl
theorem gEdg_eq : gEdg = fun x => cEdg (toEdg x) := rfl
theorem gNod_eq : gNod = fun x => cNod (toNod x) := funext fun x => by
  show [AV.lit (.string x.1), AI x.2.1, AB x.2.2.1, .im 4 (x.2.2.2.1.map gAtt)] = [AV.lit (.string x.1), AI x.2.1, AB x.2.2.1, .im 4 ((x.2.2.2.1.map toAtt).map cAtt)]
  rw [gAtt_eq, List.map_map]; rfl
def okRN (okA : RAtt → Prop) (a : RNod) : Prop := a.1.size ≤ maxLen ∧ (Lit.int .i64 a.2.1).wf = true ∧ True ∧ ((∀ b ∈ a.2.2.2.1, okA b) ∧ a.2.2.2.1.length ≤ reachBytes) ∧ True
theorem tys_ok {x : RTys} {okA : RAtt → Prop} {p q : Prop} (h : ((∀ a ∈ x.1, okRN okA a) ∧ p) ∧ q) : OkT (toTys x) := fun n hn => by
  obtain ⟨a, ha, rfl⟩ := List.mem_map.1 hn
  have := (h.1.1 a ha).2.2.2.1.2
  simp only [toNod, List.length_map]
  unfold reachBytes at this
  omega
end Go.Proofs.YtimfponihbfimaaGreat
end
section
namespace Go.Proofs.YtimfponihbfimaaGreat
open Go.Sj Go.Sj.Typ Go.Sj.Sta Go.Sj.Inc Go.Sj.Pln
set_option maxRecDepth 8000
abbrev ROpn := Int × Int × Unit
def toOpn (x : ROpn) : Opn := ⟨x.1, x.2.1⟩
def gOpn (x : ROpn) : List AV := [.lit (.int .i64 x.1)] ++ ([.lit (.int .i64 x.2.1)] ++ [])
theorem ops_vr {σ : Hp} {v : Value} {x : List ROpn} (h : VR σ (.im 2 (x.map gOpn)) v) : VR σ (opsA (x.map toOpn)) v := by
  have e : x.map gOpn = (x.map toOpn).map cOp := by
    rw [List.map_map]
    rfl
  rw [e] at h
  exact h
theorem ops_len {x : List ROpn} {q : Prop} (h : q ∧ x.length ≤ reachBytes) : (x.map toOpn).length ≤ 140737488355328 := by
  have := h.2
  unfold reachBytes at this
  rw [List.length_map]
  omega
theorem gTys_eq (x : RTys) : gTys x = [nodsA (toTys x).nodes, edgsA (toTys x).edges] := by
  show [AV.im 4 (x.1.map gNod), AV.im 7 (x.2.1.map gEdg)] = [AV.im 4 ((x.1.map toNod).map cNod), AV.im 7 ((x.2.1.map toEdg).map cEdg)]
  rw [gNod_eq, gEdg_eq, List.map_map, List.map_map]; rfl
abbrev RCse := RTys × RGr × RGr × Unit
def gCse (x : RCse) : List AV := gTys x.1 ++ (gGr x.2.1 ++ (gGr x.2.2.1 ++ []))
abbrev cseA (t : Tys) (p g : Gr) : AV := .agg [nodsA t.nodes, edgsA t.edges, ints p.nodes, edsA p.edges, ints g.nodes, edsA g.edges]
theorem cse_vr {σ : Hp} {v : Value} {x : RCse} (h : VR σ (.agg (gCse x)) v) : VR σ (cseA (toTys x.1) (toGr x.2.1) (toGr x.2.2.1)) v := by
  unfold gCse at h
  rw [gTys_eq, gGr_eq, gGr_eq] at h
  exact h
end Go.Proofs.YtimfponihbfimaaGreat
end
section
namespace Go.Proofs.YtimfponihbfimaaGreat
open Go.Sj Go.Sj.Typ Go.Sj.Sta Go.Sj.Inc Go.Sj.Pln
set_option maxRecDepth 8000
set_option maxHeartbeats 16000000
theorem ghas_spec (l : List Int) (hl : l.length ≤ 1000000) (n : Int) : Pure Tryz.prog 92 [ints l, AI n] (AB (decide (n ∈ l))) := by
  have ll : (rowI l).length = l.length := by simp
  refine zen Tryz.func92 (by kernel_rfl) rfl Tryz.ntmps92 rfl (by simp) ?_
  repeat (first | refine gA pk ?_)
  refine zlx (fun k : Nat => [(0, ints l), (1, AI n), (5, AI k)]) (fun _ => []) (fun k => k ≤ l.length ∧ ∀ x ∈ l.take k, n ≠ x) (fun k => l.length - k) 0 ⟨Nat.zero_le _, by simp⟩ ?_ (OSub.refl _) ?_
  · exact subQ
  · rintro k ⟨hk, hp⟩
    rcases Nat.lt_or_ge k l.length with h | h
    · have hx := List.getElem?_eq_getElem h
      have hm := List.getElem_mem h
      generalize l[k] = y at hx hm
      have xk : (rowI l)[(k : Int).toNat]? = some [AI y] := zmp (f := cI) hx
      by_cases he : n = y
      · subst he
        rw [show decide (n ∈ l) = true from decide_eq_true hm]
        repeat (first | refine gA pk ?_ | (show AL _ _ _ _ _ _ _; first | refine jX tok xk ?_))
        refine finQ ?_
        exact ⟨rfl, rfl⟩
      · repeat (first | refine gA pk ?_ | (show AL _ _ _ _ _ _ _; first | refine jX tok xk ?_))
        exact ⟨k + 1, ⟨by omega, take_allI hx hp he⟩, by omega, by exact subQ, OSub.none _⟩
    · obtain rfl : k = l.length := by omega
      rw [List.take_length] at hp
      rw [show decide (n ∈ l) = false from decide_eq_false (fun h1 => hp n h1 rfl)]
      repeat (first | refine gA pk ?_)
      refine finQ ?_
      exact ⟨rfl, rfl⟩
theorem gwith_spec (l : List Int) (hl : l.length ≤ 1000000) (i n : Int) (hi : 0 ≤ i ∧ i < l.length) : Pure Tryz.prog 93 [ints l, AI i, AI n] (ints (l.set i.toNat n)) := Gives.pure <| by
  have ll : (rowI l).length = l.length := by simp
  have hc : (rowI l).all (fun e => e.all AV.cell) = true := by simp [cI, AV.cell, Value.oneCell']
  refine zen Tryz.func93 (by kernel_rfl) rfl Tryz.ntmps93 rfl (by simp) ?_
  repeat (first | refine gA pk ?_ | (show AL _ _ _ _ _ _ _; first | refine s_build tok (parts := []) rfl rfl rfl rfl rfl rfl rfl rfl (by decide) (by decide) (fun v => ?_) | refine s_appendIm (es2 := rowI l) tok 0 rfl rfl rfl rfl rfl rfl (by decide) rfl rfl rfl rfl hc (by simp only [ll, List.length_nil]; omega) (by simp only [ll, List.length_nil]; omega) (fun w => ?_) | refine zoi tok 0 rfl rfl rfl rfl (by decide) rfl rfl rfl rfl rfl rfl (by omega) (by simp only [List.nil_append, ll]; omega) ?_ | refine s_storeI (xs := l) tok 0 rfl rfl rfl rfl rfl rfl rfl rfl (by omega) ?_))
  refine finR ?_
  exact ⟨_, rfl, rfl⟩
def gnoV (S : Sea) (m : Mo) (i n : Int) : Mo × Bool := if 0 ≤ imgN m i then (m, decide (imgN m i = n)) else if nodB S m i n = true then ((m.1.set i.toNat n, m.2), true) else (m, false)
theorem endM_G (S : Sea) (m : Mo) (i n : Int) : endM S m i n = if (gnoV S m i n).2 = true then some (gnoV S m i n).1 else none := by
  unfold endM gnoV
  split
  · simp only [decide_eq_true_eq]
  · split <;> rfl
theorem gnoV_len (S : Sea) (m : Mo) (i n : Int) : (gnoV S m i n).1.1.length = m.1.length ∧ (gnoV S m i n).1.2 = m.2 := by
  unfold gnoV
  split
  · exact ⟨rfl, rfl⟩
  · split
    · exact ⟨by simp, rfl⟩
    · exact ⟨rfl, rfl⟩
theorem gnode_spec (t : Tys) (ht : Small t) (p g : Gr) (hc : CaseOk t p g) (inj : Bool) (m : Mo) (hm : m.1.length = p.nodes.length) (hm2 : m.2.length ≤ 1000) (i n : Int) (hi : 0 ≤ i ∧ i < p.nodes.length) (hn : 0 ≤ n ∧ n < g.nodes.length) :
    Pure Tryz.prog 91 [tysA t, grA p, grA g, maA m, AI i, AI n, AB inj] (.tup [maA (gnoV (seaA t p g inj) m i n).1, AB (gnoV (seaA t p g inj) m i n).2]) := by
  have hpl := hc.gp.nl
  have hPR := pr_valid hc.v
  have hp := nodeAt_get hi.1 hi.2
  have hg := nodeAt_get hn.1 hn.2
  have tp := hc.tp _ (nodeAt_mem hi.1 hi.2)
  have tg := hc.tg _ (nodeAt_mem hn.1 hn.2)
  have s1 := Below1_spec t t.nodes.length (Nat.le_refl _) hPR (nodeAt p i) tp.1 (nodeAt g n + 1).toNat (nodeAt g n) (by omega) (by omega) tg.2
  have s2 := ghas_spec m.1 (by omega) n
  have s3 := gwith_spec m.1 (by omega) i n (by omega)
  have e : nodB (seaA t p g inj) m i n = (decide (nodeAt p i ∈ up t.nodes (nodeAt g n)) && !(inj && decide (n ∈ m.1))) := rfl
  have hx := List.getElem?_eq_getElem (l := m.1) (i := i.toNat) (by omega)
  have hz : imgN m i = m.1[i.toNat]'(by omega) := img_get rfl hx
  generalize m.1[i.toNat]'(by omega) = z at hx hz
  unfold gnoV
  rw [hz, e]
  have xk : (rowI m.1)[i.toNat]? = some [AI z] := zmp (f := cI) hx
  have xp : (rowI p.nodes)[i.toNat]? = some [AI (nodeAt p i)] := zmp (f := cI) hp
  have xg : (rowI g.nodes)[n.toNat]? = some [AI (nodeAt g n)] := zmp (f := cI) hg
  have l1 : (rowI m.1).length = m.1.length := by simp
  have l2 : (rowI p.nodes).length = p.nodes.length := by simp
  have l3 : (rowI g.nodes).length = g.nodes.length := by simp
  clear e hp hg tp tg hc hPR hz hx
  generalize decide (nodeAt p i ∈ up t.nodes (nodeAt g n)) = b1 at *
  generalize nodeAt p i = a1 at *
  generalize nodeAt g n = a2 at *
  generalize decide (n ∈ m.1) = b2 at *
  obtain ⟨tn, te⟩ := t
  obtain ⟨pn, pe⟩ := p
  obtain ⟨gn, ge⟩ := g
  obtain ⟨m1, m2⟩ := m
  simp only at *
  by_cases h0 : 0 ≤ z
  · rw [if_pos h0]
    by_cases h1 : z = n
    all_goals
      first | rw [decide_eq_true h1] | rw [decide_eq_false h1]
      refine a_enterM (rs := [.cell 14 88, .tmp 15]) tok Tryz.func91 (by kernel_rfl) rfl Tryz.ntmps91 rfl (by decide) (by simp) ?_
      refine a_seq ?_
      refine a_reg ?_
      repeat (first | refine gZ pk ?_ | (show AL _ _ _ _ _ _ _; first | refine jB (fun u => ?_) | refine jL tok (fun U8 => ?_)))
      refine zfb 4 7 rfl rfl ?_
      refine zfb 3 8 rfl rfl ?_
      refine zfb 2 9 rfl rfl ?_
      refine zfb 1 10 rfl rfl ?_
      repeat (first | refine gN pk ?_ | (show AL _ _ _ _ _ _ _; first | refine jX tok xk ?_))
      refine zrg ((List.range 10).map fun i => if inL [8] i = true then .eff else .pure) [] [0, 1, 2, 3, 4, 5, 6, 7, 8, 9] .stop mixed rfl rfl (by decide +kernel) ?_
      repeat' (first | (with_reducible show AG _ _ _ _ _ _ _ _ _ _; first | exact zgn | refine zgs ?_ | refine znd ?_ ?_) | (show AMid _ _ _ _; first | refine zmf ?_ | refine zmg (by first | exact OSub.refl _ | exact .drop (OSub.refl _) | exact .drop (.drop (OSub.refl _))) ?_) | refine gY pk ?_ | (show AL _ _ _ _ _ _ _; first | refine jX tok xk ?_ | refine jS tok 0 ?_) | fail)
      refine zfb 0 14 rfl rfl ?_
      refine a_ret ?_
      exact ⟨.inr rfl, _, _, [], rfl, Turn.of (Sub.refl _) (OSub.none _), rfl, rfl⟩
  · rw [if_neg h0]
    cases b1 <;> cases inj <;> cases b2
    all_goals
      simp only [Bool.and_true, Bool.true_and, Bool.false_and, Bool.and_false, Bool.not_true, Bool.not_false, if_true, if_false, Bool.false_eq_true]
      refine a_enterM (rs := [.cell 14 88, .tmp 15]) tok Tryz.func91 (by kernel_rfl) rfl Tryz.ntmps91 rfl (by decide) (by simp) ?_
      refine a_seq ?_
      refine a_reg ?_
      repeat (first | refine gZ pk ?_ | (show AL _ _ _ _ _ _ _; first | refine jB (fun u => ?_) | refine jL tok (fun U8 => ?_)))
      refine zfb 4 7 rfl rfl ?_
      refine zfb 3 8 rfl rfl ?_
      refine zfb 2 9 rfl rfl ?_
      refine zfb 1 10 rfl rfl ?_
      repeat (first | refine gN pk ?_ | (show AL _ _ _ _ _ _ _; first | refine jX tok xk ?_))
      refine zrg ((List.range 22).map fun i => if inL [11, 19] i = true then .eff else if inL [0, 2, 4, 5, 7, 9, 10, 17] i = true then .read else .pure) [] [0, 1, 2, 3, 4, 5, 6, 7, 8, 9, 10, 11, 12, 13, 14, 15, 16, 17, 18, 19, 20, 21] .stop mixed rfl rfl (by decide +kernel) ?_
      repeat' (first | (with_reducible show AG _ _ _ _ _ _ _ _ _ _; first | exact zgn | refine zgs ?_ | refine znd ?_ ?_) | (show AMid _ _ _ _; first | refine zmf ?_ | refine zmg (by first | exact OSub.refl _ | exact .drop (OSub.refl _) | exact .drop (.drop (OSub.refl _))) ?_) | refine gY pk ?_ | (show AL _ _ _ _ _ _ _; first | refine jX tok xp ?_ | refine jX tok xg ?_ | refine jP s1 ?_ | refine jP s2 ?_) | fail)
      repeat (first | refine gN pk ?_)
      first
      | (refine zrg ((List.range 10).map fun i => if inL [4, 8] i = true then .eff else if inL [1, 6] i = true then .read else .pure) [4] [0, 1, 2, 3, 5, 6] (.nd 4 [7, 8, 9] .stop .stop) mixed rfl rfl (by decide +kernel) ?_
         repeat' (first | (with_reducible show AG _ _ _ _ _ _ _ _ _ _; first | exact zgn | refine zgs ?_ | refine znd ?_ ?_) | (show AMid _ _ _ _; first | refine zmf ?_ | refine zmg (by first | exact OSub.refl _ | exact .drop (OSub.refl _) | exact .drop (.drop (OSub.refl _))) ?_) | refine gY pk ?_ | (show AL _ _ _ _ _ _ _; first | refine jP s3 ?_ | refine jS tok 0 ?_) | fail)
         refine zfb 0 14 rfl rfl ?_
         refine a_ret ?_
         exact ⟨.inr rfl, _, _, [], rfl, Turn.of (Sub.refl _) (OSub.none _), rfl, rfl⟩)
      | (repeat (first | refine gV pk ?_ | (show AL _ _ _ _ _ _ _; first | refine jO tok 0 ?_ | refine jS tok 0 ?_))
         refine zfb 0 14 rfl rfl ?_
         refine a_ret ?_
         exact ⟨.inr rfl, _, _, [], rfl, Turn.of (Sub.refl _) (OSub.none _), rfl, rfl⟩)
end Go.Proofs.YtimfponihbfimaaGreat
end
section
namespace Go.Proofs.YtimfponihbfimaaGreat
open Go.Sj Go.Sj.Typ Go.Sj.Sta Go.Sj.Inc Go.Sj.Pln
set_option maxRecDepth 8000
set_option maxHeartbeats 16000000
theorem rep_row (i : Nat) : rowI (noneL (i + 1)) = rowI (noneL i) ++ [[AI (-1)]] := by
  unfold noneL
  rw [List.replicate_succ']
  show List.map cI (List.replicate i (-1) ++ [(-1 : Int)]) = _
  rw [List.map_append]
  rfl
theorem gpopen_spec (p : Gr) (h1 : p.nodes.length ≤ 1000) (h2 : p.edges.length ≤ 1000) : Pure Tryz.prog 51 [grA p] (maA (noMo p)) := by
  have ln : (rowI p.nodes).length = p.nodes.length := by simp
  have le : (p.edges.map cEd).length = p.edges.length := by simp
  have lr : ∀ i, (rowI (noneL i)).length = i := fun i => by simp [noneL]
  obtain ⟨pn, pe⟩ := p
  simp only at h1 h2 ln le
  change Pure _ _ _ (.agg [ints (noneL pn.length), ints (noneL pe.length)])
  refine a_enterC Tryz.func51 (by kernel_rfl) rfl Tryz.ntmps51 rfl (tok _ _ rfl) (by simp) ?_
  refine a_seq ?_
  refine a_reg ?_
  repeat (first | refine gZ pk ?_ | (show AL _ _ _ _ _ _ _; first | refine jB (fun u => ?_) | refine jL tok (fun u2 => ?_)))
  refine zfb 1 1 rfl rfl ?_
  repeat (first | refine gN pk ?_ | (show AL _ _ _ _ _ _ _; first | refine jL tok (fun u3 => ?_)))
  refine a_loop2 (fun (i : Nat) (v : Value) => [(1, .ip [ints pn, edsA pe]), (2, .pt u2 0 0 0), (3, .pt u3 0 0 0), (4, AI i)]) (fun i v => [(v, .row 3 1 (rowI (noneL i))), (u3, .box [.lit v, .lit (.slice none 0 0)]), (u2, .box [.lit (.slice none 0 0), .lit (.slice none 0 0)])]) (fun i v => i ≤ pn.length) (fun i v => pn.length - i) 0 (.slice none 0 0) (Nat.zero_le _) ?_ (.free (OSub.refl _)) ?_
  · exact subQ
  · intro i v hi
    have lri := lr i
    by_cases hlt : i < pn.length
    · repeat (first | refine gA pk ?_ | (show AL _ _ _ _ _ _ _; first | refine zol tok 0 rfl rfl rfl rfl (by decide) rfl rfl rfl ?_ | refine jO tok 1 ?_ | refine s_build1 tok rfl rfl rfl rfl rfl rfl rfl rfl (fun w => ?_) | refine zak tok 0 rfl rfl rfl rfl rfl rfl (by decide) rfl rfl rfl rfl (by omega) (by omega) (fun v' hv => ?_) | refine s_store (a := .lit v') tok 1 rfl rfl rfl rfl rfl rfl hv rfl (by decide) rfl rfl rfl (Nat.le_of_ble_eq_true rfl) ?_))
      refine ⟨i + 1, v', by omega, by omega, by exact subQ, ?_⟩
      rw [rep_row]
      exact OSub.refl _
    · obtain rfl : i = pn.length := by omega
      repeat (first | refine gN pk ?_ | (show AL _ _ _ _ _ _ _; first | refine zol tok 0 rfl rfl rfl rfl (by decide) rfl rfl rfl ?_ | refine jO tok 1 ?_))
      refine a_loop2 (fun (i : Nat) (w : Value) => [(1, .ip [ints pn, edsA pe]), (2, .pt u2 0 0 0), (3, .pt u3 0 0 0), (5, AI i)]) (fun i w => [(w, .row 3 1 (rowI (noneL i))), (v, .row 3 1 (rowI (noneL pn.length))), (u3, .box [.lit v, .lit w]), (u2, .box [.lit (.slice none 0 0), .lit (.slice none 0 0)])]) (fun i w => i ≤ pe.length) (fun i w => pe.length - i) 0 (.slice none 0 0) (Nat.zero_le _) ?_ (.free (OSub.refl _)) ?_
      · exact subQ
      · intro j w hj
        have lrj := lr j
        by_cases hlt2 : j < pe.length
        · repeat (first | refine gA pk ?_ | (show AL _ _ _ _ _ _ _; first | refine zol tok 0 rfl rfl rfl rfl (by decide) rfl rfl rfl ?_ | refine jO tok 2 ?_ | refine s_build1 tok rfl rfl rfl rfl rfl rfl rfl rfl (fun w => ?_) | refine zak tok 0 rfl rfl rfl rfl rfl rfl (by decide) rfl rfl rfl rfl (by omega) (by omega) (fun v' hv => ?_) | refine s_store (a := .lit v') tok 2 rfl rfl rfl rfl rfl rfl hv rfl (by decide) rfl rfl rfl (Nat.le_of_ble_eq_true rfl) ?_))
          refine ⟨j + 1, v', by omega, by omega, by exact subQ, ?_⟩
          rw [rep_row]
          exact OSub.refl _
        · obtain rfl : j = pe.length := by omega
          refine a_know 0 rfl (fun hw => ?_)
          refine a_know 1 rfl (fun hv => ?_)
          generalize noneL pn.length = r1
          generalize noneL pe.length = r2
          repeat (first | (show AWp _ _ _ _ _ _; first | refine a_seq ?_ | refine a_reg ?_ | refine a_condT rfl ?_ | refine a_condF rfl ?_ | refine a_skip ?_ | refine a_exit ?_ | refine a_block ?_) | refine gY pk ?_ | (show AL _ _ _ _ _ _ _; first | fail | refine zol tok 0 rfl rfl rfl rfl (by decide) rfl rfl rfl ?_ | refine jO tok 2 ?_ | refine s_store (a := .agg [.lit v, .lit w]) tok 3 rfl rfl rfl rfl rfl rfl (by simp [AV.storable, AV.cell, hv, hw]) rfl (by decide) rfl rfl rfl (Nat.le_of_ble_eq_true rfl) ?_))
          refine a_ownSub [(w, .row 3 1 (rowI r2)), (v, .row 3 1 (rowI r1)), (u2, .box [.lit v, .lit w])] (.keep (.keep (.drop (.keep .nil)))) ?_
          refine a_freeze 0 rfl _ (FZS.refl _) [(v, .row 3 1 (rowI r1)), (u2, .box [.lit v, .im 1 (rowI r2)])] ⟨rfl, rfl, rfl, rfl, by simp; exact fun a _ => rfl, FZL.refl _, rfl, ⟨FZ.refl _, FZ.here, trivial⟩, trivial⟩ ?_
          refine a_freeze 0 rfl _ (FZS.refl _) [(u2, .box [.im 1 (rowI r1), .im 1 (rowI r2)])] ⟨rfl, ⟨FZ.here, FZ.refl _, trivial⟩, trivial⟩ ?_
          refine zfb 0 2 rfl rfl ?_
          repeat (first | refine gA pk ?_)
          exact ⟨.inr rfl, _, _, _, _, rfl, rfl, Turn.of (Sub.of_eq rfl) (OSub.none _), rfl, rfl⟩
end Go.Proofs.YtimfponihbfimaaGreat
end
section
namespace Go.Proofs.YtimfponihbfimaaGreat
open Go.Sj Go.Sj.Typ Go.Sj.Sta Go.Sj.Inc Go.Sj.Pln
set_option maxRecDepth 8000
set_option maxHeartbeats 16000000
theorem gextended_spec (t : Tys) (ht : Small t) (p g : Gr) (hc : CaseOk t p g) (inj : Bool) (m : Mo) (hm : MoL p m) (o : Opn) (ho : (o.kind = 1 ∧ 0 ≤ o.el ∧ o.el < p.nodes.length) ∨ (o.kind ≠ 1 ∧ 0 ≤ o.el ∧ o.el < p.edges.length)) :
    Pure Tryz.prog 52 [tysA t, grA p, grA g, maA m, .agg (cOp o), AB inj] (mosA (extG (seaA t p g inj) m o)) := by
  have hpn := hc.gp.nl
  have hpe := hc.gp.el
  have hgn := hc.gg.nl
  have hge := hc.gg.el
  obtain ⟨hm1, hm2⟩ := hm
  have sW := fun (l : List Int) h1 i n h2 => gwith_spec l h1 i n h2
  have sE := fun (m' : Mo) h1 h2 i n h3 h4 => gnode_spec t ht p g hc inj m' h1 h2 i n h3 h4
  have lgn : (rowI g.nodes).length = g.nodes.length := by simp
  have lge : (g.edges.map cEd).length = g.edges.length := by simp
  have lpe : (p.edges.map cEd).length = p.edges.length := by simp
  obtain ⟨kind, el⟩ := o
  simp only at ho
  unfold extG
  simp only
  rcases ho with ⟨rfl, h2⟩ | ⟨h1, h2⟩
  · rw [if_pos rfl]
    have e1 : (seaA t p g inj).g.nodes.length = g.nodes.length := rfl
    rw [e1]
    have hlen := fun n => gnoV_len (seaA t p g inj) m el n
    obtain ⟨f, hfe⟩ : ∃ f : Nat → Option Mo, f = fun n : Nat => endM (seaA t p g inj) m el (n : Int) := ⟨_, rfl⟩
    rw [← hfe]
    have hf : ∀ n : Nat, f n = if (gnoV (seaA t p g inj) m el n).2 = true then some (gnoV (seaA t p g inj) m el n).1 else none := fun n => by rw [hfe]; exact endM_G _ _ _ _
    clear hfe
    generalize gnoV (seaA t p g inj) = gv at *
    have hfl := fun n => fm_len f n
    obtain ⟨tn, te⟩ := t
    obtain ⟨pn, pe⟩ := p
    obtain ⟨gn, ge⟩ := g
    obtain ⟨m1, m2⟩ := m
    simp only at *
    change Pure _ _ [.agg [nodsA tn, edgsA te], .agg [ints pn, edsA pe], .agg [ints gn, edsA ge], .agg [ints m1, ints m2], .agg [AI 1, AI el], AB inj] _
    refine zen Tryz.func52 (by kernel_rfl) rfl Tryz.ntmps52 rfl (by simp) ?_
    refine a_seq ?_
    refine a_reg ?_
    repeat (first | refine gZ pk ?_ | (show AL _ _ _ _ _ _ _; first | refine jB (fun u => ?_)))
    refine zfb 4 6 rfl rfl ?_
    refine zfb 3 7 rfl rfl ?_
    refine zfb 2 8 rfl rfl ?_
    refine zfb 1 9 rfl rfl ?_
    refine zfb 0 10 rfl rfl ?_
    repeat (first | refine gA pk ?_)
    refine a_loopG3 (fun (i : Nat) (out : List Mo) (v : Value) => [(5, AB inj), (6, .ip [nodsA tn, edgsA te]), (7, .ip [ints pn, edsA pe]), (8, .ip [ints gn, edsA ge]), (9, .ip [ints m1, ints m2]), (10, .ip [AI 1, AI el]), (13, .lit v), (14, AI i)]) (fun i out v => [(v, .row 88 2 (out.map cMo))]) (fun i out _ => i ≤ gn.length ∧ out = (List.range i).filterMap f) (fun i _ _ => gn.length - i) 0 [] (.slice none 0 0) ⟨Nat.zero_le _, rfl⟩ (.sub (by exact subQ) (.free (OSub.none _))) ?_
    rintro i out v ⟨hi, hout⟩
    have lo : (out.map cMo).length = out.length := by simp
    have hol : out.length ≤ i := by rw [hout]; exact hfl i
    rcases Nat.lt_or_ge i gn.length with h | h
    · have s1 := sE (m1, m2) hm1 (by simp only; omega) el i h2 ⟨by omega, by omega⟩
      have hnext := fm_succ f i
      rw [hf, ← hout] at hnext
      generalize gv (m1, m2) el (i : Int) = r at *
      obtain ⟨⟨q1, q2⟩, b⟩ := r
      simp only at s1 hnext
      cases b
      · simp only [Bool.false_eq_true, if_false, Option.toList, List.append_nil] at hnext
        repeat (first | refine gA pk ?_ | (show AL _ _ _ _ _ _ _; first | refine jP s1 ?_ | refine jL tok (fun ux => ?_) | refine jS tok 0 ?_ | refine jO tok 0 ?_))
        exact ⟨i + 1, out, v, ⟨by omega, hnext.symm⟩, by omega, .sub (by exact subQ) (.drop (OSub.refl _))⟩
      · simp only [if_true, Option.toList] at hnext
        have hrow : (out ++ [(q1, q2)]).map cMo = out.map cMo ++ [[ints q1, ints q2]] := by rw [List.map_append]; rfl
        repeat (first | refine gA pk ?_ | (show AL _ _ _ _ _ _ _; first | refine jP s1 ?_ | refine jL tok (fun ux => ?_) | refine jS tok 0 ?_ | refine jO tok 0 ?_))
        (first | refine s_build1 tok rfl rfl rfl rfl rfl rfl rfl rfl (fun u => ?_) | refine s_build1M tok rfl rfl rfl rfl rfl rfl rfl (fun u => ?_) | refine zba tok rfl rfl rfl rfl rfl rfl rfl rfl (by decide) (fun u => ?_)); refine s_append1 tok 1 rfl rfl rfl rfl rfl rfl (by decide) rfl rfl rfl rfl (by omega) (by omega) (fun w => ?_)
        repeat (first | refine gA pk ?_)
        exact ⟨i + 1, _, w, ⟨by omega, hnext.symm⟩, by omega, .sub (by exact subQ) (by rw [hrow]; exact .drop (OSub.refl _))⟩
    · obtain rfl : i = gn.length := by omega
      subst hout
      refine a_frz 0 13 rfl rfl ?_
      repeat (first | refine gA pk ?_)
      refine finQ ?_
      exact ⟨rfl, rfl⟩
  · rw [if_neg h1]
    have e1 : (seaA t p g inj).g.edges.length = g.edges.length := rfl
    rw [e1]
    have hx := List.getElem?_eq_getElem (l := p.edges) (i := el.toNat) (by omega)
    have hxe := (edP_in hc.gp h2)
    have hxp : edP p el = p.edges[el.toNat]'(by omega) := by
      unfold edP
      rw [List.getD_eq_getElem?_getD, hx]
      rfl
    generalize p.edges[el.toNat]'(by omega) = x at hx hxp
    rw [hxp] at hxe
    have hye : ∀ n : Nat, n < g.edges.length → (0 ≤ (edP g n).fr ∧ (edP g n).fr < g.nodes.length) ∧ (0 ≤ (edP g n).to ∧ (edP g n).to < g.nodes.length) := fun n hn => edP_in hc.gg ⟨by omega, by omega⟩
    have hyg : ∀ n : Nat, n < g.edges.length → g.edges[n]? = some (edP g n) := fun n hn => by rw [edP_get hn, List.getElem?_eq_getElem hn]
    have hf : ∀ n : Nat, edgM (seaA t p g inj) m el n = if (edP g n).ty ≠ x.ty ∨ (inj = true ∧ (n : Int) ∈ m.2) then none
      else (if (gnoV (seaA t p g inj) m x.fr (edP g n).fr).2 = true then (if (gnoV (seaA t p g inj) (gnoV (seaA t p g inj) m x.fr (edP g n).fr).1 x.to (edP g n).to).2 = true then some ((gnoV (seaA t p g inj) (gnoV (seaA t p g inj) m x.fr (edP g n).fr).1 x.to (edP g n).to).1.1, (gnoV (seaA t p g inj) (gnoV (seaA t p g inj) m x.fr (edP g n).fr).1 x.to (edP g n).to).1.2.set el.toNat (n : Int)) else none) else none) := fun n => by
      show (if (edP g n).ty ≠ (edP p el).ty ∨ (inj = true ∧ (n : Int) ∈ m.2) then none else (endM (seaA t p g inj) m (edP p el).fr (edP g n).fr).bind fun m1 => (endM (seaA t p g inj) m1 (edP p el).to (edP g n).to).map fun m2 => (m2.1, m2.2.set el.toNat (n : Int))) = _
      rw [hxp]
      split
      · rfl
      · rw [endM_G]
        split
        · rw [Option.bind_some, endM_G]
          split
          · rfl
          · rfl
        · rfl
    have hel := fun (m' : Mo) i n => gnoV_len (seaA t p g inj) m' i n
    have sC := fun (n : Nat) => ghas_spec m.2 (by omega) (n : Int)
    generalize edgM (seaA t p g inj) m el = f at *
    generalize gnoV (seaA t p g inj) = ev' at *
    have hfl := fun n => fm_len f n
    obtain ⟨xt, xf, xo⟩ := x
    have xk : (p.edges.map cEd)[el.toNat]? = some [AI xt, AI xf, AI xo] := zmp (f := cEd) hx
    obtain ⟨tn, te⟩ := t
    obtain ⟨pn, pe⟩ := p
    obtain ⟨gn, ge⟩ := g
    obtain ⟨m1, m2⟩ := m
    simp only at *
    clear hxp hx hc
    change Pure _ _ [.agg [nodsA tn, edgsA te], .agg [ints pn, edsA pe], .agg [ints gn, edsA ge], .agg [ints m1, ints m2], .agg [AI kind, AI el], AB inj] _
    refine zen Tryz.func52 (by kernel_rfl) rfl Tryz.ntmps52 rfl (by simp) ?_
    refine a_seq ?_
    refine a_reg ?_
    repeat (first | refine gZ pk ?_ | (show AL _ _ _ _ _ _ _; first | refine jB (fun u => ?_)))
    refine zfb 4 6 rfl rfl ?_
    refine zfb 3 7 rfl rfl ?_
    refine zfb 2 8 rfl rfl ?_
    refine zfb 1 9 rfl rfl ?_
    refine zfb 0 10 rfl rfl ?_
    repeat (first | refine gN pk ?_ | (show AL _ _ _ _ _ _ _; first | refine jX tok xk ?_ | refine jL tok (fun ux => ?_) | refine jS tok 0 ?_))
    refine zfb 0 17 rfl rfl ?_
    repeat (first | refine gN pk ?_)
    refine a_loopG3 (fun (i : Nat) (out : List Mo) (v : Value) => [(5, AB inj), (6, .ip [nodsA tn, edgsA te]), (7, .ip [ints pn, edsA pe]), (8, .ip [ints gn, edsA ge]), (9, .ip [ints m1, ints m2]), (10, .ip [AI kind, AI el]), (13, .lit v), (17, .ip [AI xt, AI xf, AI xo]), (18, AI i)]) (fun i out v => [(v, .row 88 2 (out.map cMo))]) (fun i out _ => i ≤ ge.length ∧ out = (List.range i).filterMap f) (fun i _ _ => ge.length - i) 0 [] (.slice none 0 0) ⟨Nat.zero_le _, rfl⟩ (.sub (by exact subQ) (.free (OSub.none _))) ?_
    rintro i out v ⟨hi, hout⟩
    have lo : (out.map cMo).length = out.length := by simp
    have hol : out.length ≤ i := by rw [hout]; exact hfl i
    rcases Nat.lt_or_ge i ge.length with h | h
    · have hy := hye i h
      have hyk := hyg i h
      have hnext := fm_succ f i
      rw [hf, ← hout] at hnext
      generalize edP ⟨gn, ge⟩ (i : Int) = y at *
      obtain ⟨yt, yf, yo⟩ := y
      simp only at hy hnext
      have yk : (ge.map cEd)[(i : Int).toNat]? = some [AI yt, AI yf, AI yo] := zmp (f := cEd) hyk
      have s3 := sC i
      by_cases ht1 : yt = xt
      rotate_left
      · rw [if_pos (.inl ht1)] at hnext
        simp only [Option.toList, List.append_nil] at hnext
        repeat (first | refine gN pk ?_)
        refine zrg ((List.range 18).map fun i => if inL [15] i = true then .eff else if inL [1, 3, 5, 7, 13] i = true then .read else .pure) [] [0, 1, 2, 3, 4, 5, 6, 7, 8, 9, 10, 11, 12, 13, 14, 15, 16, 17] .stop mixed rfl rfl (by decide +kernel) ?_
        repeat' (first | (with_reducible show AG _ _ _ _ _ _ _ _ _ _; first | exact zgn | refine zgs ?_ | refine znd ?_ ?_) | (show AMid _ _ _ _; first | refine zmf ?_ | refine zmg (by first | exact OSub.refl _ | exact .drop (OSub.refl _) | exact .drop (.drop (OSub.refl _))) ?_) | refine gY pk ?_ | (show AL _ _ _ _ _ _ _; first | refine jX tok yk ?_) | fail)
        repeat (first | refine gA pk ?_)
        exact ⟨i + 1, out, v, ⟨by omega, hnext.symm⟩, by omega, .sub (by exact subQ) (OSub.refl _)⟩
      subst ht1
      by_cases hmem : inj = true ∧ (i : Int) ∈ m2
      · obtain ⟨rfl, hmem⟩ := hmem
        rw [if_pos (.inr ⟨rfl, hmem⟩)] at hnext
        simp only [Option.toList, List.append_nil] at hnext
        rw [decide_eq_true hmem] at s3
        repeat (first | refine gN pk ?_)
        refine zrg ((List.range 18).map fun i => if inL [15] i = true then .eff else if inL [1, 3, 5, 7, 13] i = true then .read else .pure) [] [0, 1, 2, 3, 4, 5, 6, 7, 8, 9, 10, 11, 12, 13, 14, 15, 16, 17] .stop mixed rfl rfl (by decide +kernel) ?_
        repeat' (first | (with_reducible show AG _ _ _ _ _ _ _ _ _ _; first | exact zgn | refine zgs ?_ | refine znd ?_ ?_) | (show AMid _ _ _ _; first | refine zmf ?_ | refine zmg (by first | exact OSub.refl _ | exact .drop (OSub.refl _) | exact .drop (.drop (OSub.refl _))) ?_) | refine gY pk ?_ | (show AL _ _ _ _ _ _ _; first | refine jX tok yk ?_ | refine jP s3 ?_) | fail)
        repeat (first | refine gA pk ?_)
        exact ⟨i + 1, out, v, ⟨by omega, hnext.symm⟩, by omega, .sub (by exact subQ) (OSub.refl _)⟩
      rw [if_neg (fun hh => hh.elim (fun h => h rfl) hmem)] at hnext
      have s4 := sE (m1, m2) hm1 (by simp only; omega) xf yf hxe.1 hy.1
      have hl4 := hel (m1, m2) xf yf
      generalize ev' (m1, m2) xf yf = r1 at *
      obtain ⟨⟨q1, q2⟩, b1⟩ := r1
      simp only at hl4 hnext s4
      have s5 := sE (q1, q2) (by simp only; omega) (by show q2.length ≤ 1000; rw [hl4.2]; omega) xo yo hxe.2 hy.2
      have hl5 := hel (q1, q2) xo yo
      generalize ev' (q1, q2) xo yo = r2 at *
      obtain ⟨⟨w1, w2⟩, b2⟩ := r2
      simp only at hl5 hnext s5
      have s6 := sW w2 (by rw [hl5.2, hl4.2]; omega) el i (by rw [hl5.2, hl4.2]; omega)
      have hij : inj = false ∨ (inj = true ∧ (i : Int) ∉ m2) := by
        cases inj
        · exact .inl rfl
        · exact .inr ⟨rfl, fun h => hmem ⟨rfl, h⟩⟩
      have hrow : (out ++ [(w1, w2.set el.toNat (i : Int))]).map cMo = out.map cMo ++ [[ints w1, ints (w2.set el.toNat (i : Int))]] := by rw [List.map_append]; rfl
      rcases hij with rfl | ⟨rfl, hnm⟩
      rotate_left
      · rw [decide_eq_false hnm] at s3
        cases b1
        · simp only [Bool.false_eq_true, if_false, Option.toList, List.append_nil] at hnext
          repeat (first | refine gN pk ?_)
          refine zrg ((List.range 18).map fun i => if inL [15] i = true then .eff else if inL [1, 3, 5, 7, 13] i = true then .read else .pure) [] [0, 1, 2, 3, 4, 5, 6, 7, 8, 9, 10, 11, 12, 13, 14, 15, 16, 17] .stop mixed rfl rfl (by decide +kernel) ?_
          repeat' (first | (with_reducible show AG _ _ _ _ _ _ _ _ _ _; first | exact zgn | refine zgs ?_ | refine znd ?_ ?_) | (show AMid _ _ _ _; first | refine zmf ?_ | refine zmg (by first | exact OSub.refl _ | exact .drop (OSub.refl _) | exact .drop (.drop (OSub.refl _))) ?_) | refine gY pk ?_ | (show AL _ _ _ _ _ _ _; first | refine jX tok yk ?_ | refine jP s3 ?_) | fail)
          repeat (first | refine gN pk ?_)
          refine zrg ((List.range 20).map fun i => if inL [13, 17, 18] i = true then .eff else if inL [0, 1, 2, 3, 5, 7, 9, 11] i = true then .read else .pure) [17] [0, 1, 2, 3, 4, 5, 6, 7, 8, 9, 10, 11, 12] (.nd 13 [14, 15, 16] (.nd 17 [18, 19] .stop .stop) (.nd 17 [13, 14, 15, 16, 18, 19] .stop .stop)) mixed rfl rfl (by decide +kernel) ?_
          repeat' (first | (with_reducible show AG _ _ _ _ _ _ _ _ _ _; first | exact zgn | refine zgs ?_ | refine znd ?_ ?_) | (show AMid _ _ _ _; first | refine zmf ?_ | refine zmg (by first | exact OSub.refl _ | exact .drop (OSub.refl _) | exact .drop (.drop (OSub.refl _))) ?_) | refine gY pk ?_ | (show AL _ _ _ _ _ _ _; first | refine jX tok yk ?_ | refine jP s4 ?_ | refine jL tok (fun uz => ?_) | refine jS tok 0 ?_) | fail)
          all_goals
            repeat (first | refine gA pk ?_ | (show AL _ _ _ _ _ _ _; first | refine jS tok 0 ?_ | refine jO tok 0 ?_))
            exact ⟨i + 1, out, v, ⟨by omega, hnext.symm⟩, by omega, .sub (by exact subQ) (.drop (OSub.refl _))⟩
        · cases b2
          · simp only [Bool.false_eq_true, if_false, if_true, Option.toList, List.append_nil] at hnext
            repeat (first | refine gN pk ?_)
            refine zrg ((List.range 18).map fun i => if inL [15] i = true then .eff else if inL [1, 3, 5, 7, 13] i = true then .read else .pure) [] [0, 1, 2, 3, 4, 5, 6, 7, 8, 9, 10, 11, 12, 13, 14, 15, 16, 17] .stop mixed rfl rfl (by decide +kernel) ?_
            repeat' (first | (with_reducible show AG _ _ _ _ _ _ _ _ _ _; first | exact zgn | refine zgs ?_ | refine znd ?_ ?_) | (show AMid _ _ _ _; first | refine zmf ?_ | refine zmg (by first | exact OSub.refl _ | exact .drop (OSub.refl _) | exact .drop (.drop (OSub.refl _))) ?_) | refine gY pk ?_ | (show AL _ _ _ _ _ _ _; first | refine jX tok yk ?_ | refine jP s3 ?_) | fail)
            repeat (first | refine gN pk ?_)
            refine zrg ((List.range 20).map fun i => if inL [13, 17, 18] i = true then .eff else if inL [0, 1, 2, 3, 5, 7, 9, 11] i = true then .read else .pure) [17] [0, 1, 2, 3, 4, 5, 6, 7, 8, 9, 10, 11, 12] (.nd 13 [14, 15, 16] (.nd 17 [18, 19] .stop .stop) (.nd 17 [13, 14, 15, 16, 18, 19] .stop .stop)) mixed rfl rfl (by decide +kernel) ?_
            repeat' (first | (with_reducible show AG _ _ _ _ _ _ _ _ _ _; first | exact zgn | refine zgs ?_ | refine znd ?_ ?_) | (show AMid _ _ _ _; first | refine zmf ?_ | refine zmg (by first | exact OSub.refl _ | exact .drop (OSub.refl _) | exact .drop (.drop (OSub.refl _))) ?_) | refine gY pk ?_ | (show AL _ _ _ _ _ _ _; first | refine jX tok yk ?_ | refine jP s4 ?_ | refine jL tok (fun uz => ?_) | refine jS tok 0 ?_) | fail)
            all_goals
              repeat (first | refine gN pk ?_ | (show AL _ _ _ _ _ _ _; first | refine jS tok 0 ?_ | refine jO tok 0 ?_))
              refine zrg ((List.range 19).map fun i => if inL [13, 17] i = true then .eff else if inL [0, 1, 2, 3, 5, 7, 9, 11] i = true then .read else .pure) [] [0, 1, 2, 3, 4, 5, 6, 7, 8, 9, 10, 11, 12, 13, 14, 15, 16, 17, 18] .stop mixed rfl rfl (by decide +kernel) ?_
              repeat' (first | (with_reducible show AG _ _ _ _ _ _ _ _ _ _; first | exact zgn | refine zgs ?_ | refine znd ?_ ?_) | (show AMid _ _ _ _; first | refine zmf ?_ | refine zmg (by first | exact OSub.refl _ | exact .drop (OSub.refl _) | exact .drop (.drop (OSub.refl _))) ?_) | refine gY pk ?_ | (show AL _ _ _ _ _ _ _; first | refine jX tok yk ?_ | refine jO tok 0 ?_ | refine jP s5 ?_) | fail)
              repeat (first | refine gA pk ?_ | (show AL _ _ _ _ _ _ _; first | refine jS tok 0 ?_ | refine jO tok 0 ?_))
              exact ⟨i + 1, out, v, ⟨by omega, hnext.symm⟩, by omega, .sub (by exact subQ) (.drop (OSub.refl _))⟩
          · simp only [if_true, Option.toList] at hnext
            repeat (first | refine gN pk ?_)
            refine zrg ((List.range 18).map fun i => if inL [15] i = true then .eff else if inL [1, 3, 5, 7, 13] i = true then .read else .pure) [] [0, 1, 2, 3, 4, 5, 6, 7, 8, 9, 10, 11, 12, 13, 14, 15, 16, 17] .stop mixed rfl rfl (by decide +kernel) ?_
            repeat' (first | (with_reducible show AG _ _ _ _ _ _ _ _ _ _; first | exact zgn | refine zgs ?_ | refine znd ?_ ?_) | (show AMid _ _ _ _; first | refine zmf ?_ | refine zmg (by first | exact OSub.refl _ | exact .drop (OSub.refl _) | exact .drop (.drop (OSub.refl _))) ?_) | refine gY pk ?_ | (show AL _ _ _ _ _ _ _; first | refine jX tok yk ?_ | refine jP s3 ?_) | fail)
            repeat (first | refine gN pk ?_)
            refine zrg ((List.range 20).map fun i => if inL [13, 17, 18] i = true then .eff else if inL [0, 1, 2, 3, 5, 7, 9, 11] i = true then .read else .pure) [17] [0, 1, 2, 3, 4, 5, 6, 7, 8, 9, 10, 11, 12] (.nd 13 [14, 15, 16] (.nd 17 [18, 19] .stop .stop) (.nd 17 [13, 14, 15, 16, 18, 19] .stop .stop)) mixed rfl rfl (by decide +kernel) ?_
            repeat' (first | (with_reducible show AG _ _ _ _ _ _ _ _ _ _; first | exact zgn | refine zgs ?_ | refine znd ?_ ?_) | (show AMid _ _ _ _; first | refine zmf ?_ | refine zmg (by first | exact OSub.refl _ | exact .drop (OSub.refl _) | exact .drop (.drop (OSub.refl _))) ?_) | refine gY pk ?_ | (show AL _ _ _ _ _ _ _; first | refine jX tok yk ?_ | refine jP s4 ?_ | refine jL tok (fun uz => ?_) | refine jS tok 0 ?_) | fail)
            all_goals
              repeat (first | refine gN pk ?_ | (show AL _ _ _ _ _ _ _; first | refine jS tok 0 ?_ | refine jO tok 0 ?_))
              refine zrg ((List.range 19).map fun i => if inL [13, 17] i = true then .eff else if inL [0, 1, 2, 3, 5, 7, 9, 11] i = true then .read else .pure) [] [0, 1, 2, 3, 4, 5, 6, 7, 8, 9, 10, 11, 12, 13, 14, 15, 16, 17, 18] .stop mixed rfl rfl (by decide +kernel) ?_
              repeat' (first | (with_reducible show AG _ _ _ _ _ _ _ _ _ _; first | exact zgn | refine zgs ?_ | refine znd ?_ ?_) | (show AMid _ _ _ _; first | refine zmf ?_ | refine zmg (by first | exact OSub.refl _ | exact .drop (OSub.refl _) | exact .drop (.drop (OSub.refl _))) ?_) | refine gY pk ?_ | (show AL _ _ _ _ _ _ _; first | refine jX tok yk ?_ | refine jO tok 0 ?_ | refine jP s5 ?_) | fail)
              repeat (first | refine gN pk ?_ | (show AL _ _ _ _ _ _ _; first | refine jS tok 0 ?_ | refine jO tok 0 ?_))
              refine zrg ((List.range 13).map fun i => if inL [8, 10, 11] i = true then .eff else if inL [2, 4, 6] i = true then .read else .pure) [8] [0, 1, 2, 3, 4, 5, 6, 7] (.nd 8 [9, 10, 11, 12] .stop .stop) mixed rfl rfl (by decide +kernel) ?_
              repeat' (first | (with_reducible show AG _ _ _ _ _ _ _ _ _ _; first | exact zgn | refine zgs ?_ | refine znd ?_ ?_) | (show AMid _ _ _ _; first | refine zmf ?_ | refine zmg (by first | exact OSub.refl _ | exact .drop (OSub.refl _) | exact .drop (.drop (OSub.refl _))) ?_) | refine gY pk ?_ | (show AL _ _ _ _ _ _ _; first | refine jO tok 0 ?_ | refine jP s6 ?_) | fail)
              (first | refine s_build1 tok rfl rfl rfl rfl rfl rfl rfl rfl (fun u => ?_) | refine s_build1M tok rfl rfl rfl rfl rfl rfl rfl (fun u => ?_) | refine zba tok rfl rfl rfl rfl rfl rfl rfl rfl (by decide) (fun u => ?_)); refine s_append1 tok 1 rfl rfl rfl rfl rfl rfl (by decide) rfl rfl rfl rfl (by omega) (by omega) (fun w => ?_)
              repeat (first | refine gA pk ?_)
              exact ⟨i + 1, _, w, ⟨by omega, hnext.symm⟩, by omega, .sub (by exact subQ) (by rw [hrow]; exact .drop (OSub.refl _))⟩
      · clear s3
        cases b1
        · simp only [Bool.false_eq_true, if_false, Option.toList, List.append_nil] at hnext
          repeat (first | refine gN pk ?_)
          refine zrg ((List.range 18).map fun i => if inL [15] i = true then .eff else if inL [1, 3, 5, 7, 13] i = true then .read else .pure) [] [0, 1, 2, 3, 4, 5, 6, 7, 8, 9, 10, 11, 12, 13, 14, 15, 16, 17] .stop mixed rfl rfl (by decide +kernel) ?_
          repeat' (first | (with_reducible show AG _ _ _ _ _ _ _ _ _ _; first | exact zgn | refine zgs ?_ | refine znd ?_ ?_) | (show AMid _ _ _ _; first | refine zmf ?_ | refine zmg (by first | exact OSub.refl _ | exact .drop (OSub.refl _) | exact .drop (.drop (OSub.refl _))) ?_) | refine gY pk ?_ | (show AL _ _ _ _ _ _ _; first | refine jX tok yk ?_) | fail)
          repeat (first | refine gN pk ?_)
          refine zrg ((List.range 20).map fun i => if inL [13, 17, 18] i = true then .eff else if inL [0, 1, 2, 3, 5, 7, 9, 11] i = true then .read else .pure) [17] [0, 1, 2, 3, 4, 5, 6, 7, 8, 9, 10, 11, 12] (.nd 13 [14, 15, 16] (.nd 17 [18, 19] .stop .stop) (.nd 17 [13, 14, 15, 16, 18, 19] .stop .stop)) mixed rfl rfl (by decide +kernel) ?_
          repeat' (first | (with_reducible show AG _ _ _ _ _ _ _ _ _ _; first | exact zgn | refine zgs ?_ | refine znd ?_ ?_) | (show AMid _ _ _ _; first | refine zmf ?_ | refine zmg (by first | exact OSub.refl _ | exact .drop (OSub.refl _) | exact .drop (.drop (OSub.refl _))) ?_) | refine gY pk ?_ | (show AL _ _ _ _ _ _ _; first | refine jX tok yk ?_ | refine jP s4 ?_ | refine jL tok (fun uz => ?_) | refine jS tok 0 ?_) | fail)
          all_goals
            repeat (first | refine gA pk ?_ | (show AL _ _ _ _ _ _ _; first | refine jS tok 0 ?_ | refine jO tok 0 ?_))
            exact ⟨i + 1, out, v, ⟨by omega, hnext.symm⟩, by omega, .sub (by exact subQ) (.drop (OSub.refl _))⟩
        · cases b2
          · simp only [Bool.false_eq_true, if_false, if_true, Option.toList, List.append_nil] at hnext
            repeat (first | refine gN pk ?_)
            refine zrg ((List.range 18).map fun i => if inL [15] i = true then .eff else if inL [1, 3, 5, 7, 13] i = true then .read else .pure) [] [0, 1, 2, 3, 4, 5, 6, 7, 8, 9, 10, 11, 12, 13, 14, 15, 16, 17] .stop mixed rfl rfl (by decide +kernel) ?_
            repeat' (first | (with_reducible show AG _ _ _ _ _ _ _ _ _ _; first | exact zgn | refine zgs ?_ | refine znd ?_ ?_) | (show AMid _ _ _ _; first | refine zmf ?_ | refine zmg (by first | exact OSub.refl _ | exact .drop (OSub.refl _) | exact .drop (.drop (OSub.refl _))) ?_) | refine gY pk ?_ | (show AL _ _ _ _ _ _ _; first | refine jX tok yk ?_) | fail)
            repeat (first | refine gN pk ?_)
            refine zrg ((List.range 20).map fun i => if inL [13, 17, 18] i = true then .eff else if inL [0, 1, 2, 3, 5, 7, 9, 11] i = true then .read else .pure) [17] [0, 1, 2, 3, 4, 5, 6, 7, 8, 9, 10, 11, 12] (.nd 13 [14, 15, 16] (.nd 17 [18, 19] .stop .stop) (.nd 17 [13, 14, 15, 16, 18, 19] .stop .stop)) mixed rfl rfl (by decide +kernel) ?_
            repeat' (first | (with_reducible show AG _ _ _ _ _ _ _ _ _ _; first | exact zgn | refine zgs ?_ | refine znd ?_ ?_) | (show AMid _ _ _ _; first | refine zmf ?_ | refine zmg (by first | exact OSub.refl _ | exact .drop (OSub.refl _) | exact .drop (.drop (OSub.refl _))) ?_) | refine gY pk ?_ | (show AL _ _ _ _ _ _ _; first | refine jX tok yk ?_ | refine jP s4 ?_ | refine jL tok (fun uz => ?_) | refine jS tok 0 ?_) | fail)
            all_goals
              repeat (first | refine gN pk ?_ | (show AL _ _ _ _ _ _ _; first | refine jS tok 0 ?_ | refine jO tok 0 ?_))
              refine zrg ((List.range 19).map fun i => if inL [13, 17] i = true then .eff else if inL [0, 1, 2, 3, 5, 7, 9, 11] i = true then .read else .pure) [] [0, 1, 2, 3, 4, 5, 6, 7, 8, 9, 10, 11, 12, 13, 14, 15, 16, 17, 18] .stop mixed rfl rfl (by decide +kernel) ?_
              repeat' (first | (with_reducible show AG _ _ _ _ _ _ _ _ _ _; first | exact zgn | refine zgs ?_ | refine znd ?_ ?_) | (show AMid _ _ _ _; first | refine zmf ?_ | refine zmg (by first | exact OSub.refl _ | exact .drop (OSub.refl _) | exact .drop (.drop (OSub.refl _))) ?_) | refine gY pk ?_ | (show AL _ _ _ _ _ _ _; first | refine jX tok yk ?_ | refine jO tok 0 ?_ | refine jP s5 ?_) | fail)
              repeat (first | refine gA pk ?_ | (show AL _ _ _ _ _ _ _; first | refine jS tok 0 ?_ | refine jO tok 0 ?_))
              exact ⟨i + 1, out, v, ⟨by omega, hnext.symm⟩, by omega, .sub (by exact subQ) (.drop (OSub.refl _))⟩
          · simp only [if_true, Option.toList] at hnext
            repeat (first | refine gN pk ?_)
            refine zrg ((List.range 18).map fun i => if inL [15] i = true then .eff else if inL [1, 3, 5, 7, 13] i = true then .read else .pure) [] [0, 1, 2, 3, 4, 5, 6, 7, 8, 9, 10, 11, 12, 13, 14, 15, 16, 17] .stop mixed rfl rfl (by decide +kernel) ?_
            repeat' (first | (with_reducible show AG _ _ _ _ _ _ _ _ _ _; first | exact zgn | refine zgs ?_ | refine znd ?_ ?_) | (show AMid _ _ _ _; first | refine zmf ?_ | refine zmg (by first | exact OSub.refl _ | exact .drop (OSub.refl _) | exact .drop (.drop (OSub.refl _))) ?_) | refine gY pk ?_ | (show AL _ _ _ _ _ _ _; first | refine jX tok yk ?_) | fail)
            repeat (first | refine gN pk ?_)
            refine zrg ((List.range 20).map fun i => if inL [13, 17, 18] i = true then .eff else if inL [0, 1, 2, 3, 5, 7, 9, 11] i = true then .read else .pure) [17] [0, 1, 2, 3, 4, 5, 6, 7, 8, 9, 10, 11, 12] (.nd 13 [14, 15, 16] (.nd 17 [18, 19] .stop .stop) (.nd 17 [13, 14, 15, 16, 18, 19] .stop .stop)) mixed rfl rfl (by decide +kernel) ?_
            repeat' (first | (with_reducible show AG _ _ _ _ _ _ _ _ _ _; first | exact zgn | refine zgs ?_ | refine znd ?_ ?_) | (show AMid _ _ _ _; first | refine zmf ?_ | refine zmg (by first | exact OSub.refl _ | exact .drop (OSub.refl _) | exact .drop (.drop (OSub.refl _))) ?_) | refine gY pk ?_ | (show AL _ _ _ _ _ _ _; first | refine jX tok yk ?_ | refine jP s4 ?_ | refine jL tok (fun uz => ?_) | refine jS tok 0 ?_) | fail)
            all_goals
              repeat (first | refine gN pk ?_ | (show AL _ _ _ _ _ _ _; first | refine jS tok 0 ?_ | refine jO tok 0 ?_))
              refine zrg ((List.range 19).map fun i => if inL [13, 17] i = true then .eff else if inL [0, 1, 2, 3, 5, 7, 9, 11] i = true then .read else .pure) [] [0, 1, 2, 3, 4, 5, 6, 7, 8, 9, 10, 11, 12, 13, 14, 15, 16, 17, 18] .stop mixed rfl rfl (by decide +kernel) ?_
              repeat' (first | (with_reducible show AG _ _ _ _ _ _ _ _ _ _; first | exact zgn | refine zgs ?_ | refine znd ?_ ?_) | (show AMid _ _ _ _; first | refine zmf ?_ | refine zmg (by first | exact OSub.refl _ | exact .drop (OSub.refl _) | exact .drop (.drop (OSub.refl _))) ?_) | refine gY pk ?_ | (show AL _ _ _ _ _ _ _; first | refine jX tok yk ?_ | refine jO tok 0 ?_ | refine jP s5 ?_) | fail)
              repeat (first | refine gN pk ?_ | (show AL _ _ _ _ _ _ _; first | refine jS tok 0 ?_ | refine jO tok 0 ?_))
              refine zrg ((List.range 13).map fun i => if inL [8, 10, 11] i = true then .eff else if inL [2, 4, 6] i = true then .read else .pure) [8] [0, 1, 2, 3, 4, 5, 6, 7] (.nd 8 [9, 10, 11, 12] .stop .stop) mixed rfl rfl (by decide +kernel) ?_
              repeat' (first | (with_reducible show AG _ _ _ _ _ _ _ _ _ _; first | exact zgn | refine zgs ?_ | refine znd ?_ ?_) | (show AMid _ _ _ _; first | refine zmf ?_ | refine zmg (by first | exact OSub.refl _ | exact .drop (OSub.refl _) | exact .drop (.drop (OSub.refl _))) ?_) | refine gY pk ?_ | (show AL _ _ _ _ _ _ _; first | refine jO tok 0 ?_ | refine jP s6 ?_) | fail)
              (first | refine s_build1 tok rfl rfl rfl rfl rfl rfl rfl rfl (fun u => ?_) | refine s_build1M tok rfl rfl rfl rfl rfl rfl rfl (fun u => ?_) | refine zba tok rfl rfl rfl rfl rfl rfl rfl rfl (by decide) (fun u => ?_)); refine s_append1 tok 1 rfl rfl rfl rfl rfl rfl (by decide) rfl rfl rfl rfl (by omega) (by omega) (fun w => ?_)
              repeat (first | refine gA pk ?_)
              exact ⟨i + 1, _, w, ⟨by omega, hnext.symm⟩, by omega, .sub (by exact subQ) (by rw [hrow]; exact .drop (OSub.refl _))⟩
    · obtain rfl : i = ge.length := by omega
      subst hout
      refine a_frz 0 13 rfl rfl ?_
      repeat (first | refine gA pk ?_)
      refine finQ ?_
      exact ⟨rfl, rfl⟩
end Go.Proofs.YtimfponihbfimaaGreat
end
