/-
  Parts of the proof of the law IncrementalOpposite (texts W50): steps, plain mathematics, contracts of functions. Each theorem states its own conditions.
-/
import Derived.Test.YtddohheabpiljaaGreatB09
import Derived.Test.YtddohheabpiljaaGreatB34
import Derived.Test.YtddohheabpiljaaGreatB35
section
/-
  Watches: the matches of all patterns. Conditions: small type graphs.
-/
namespace Go.Proofs.YtddohheabpiljaaGreat
open Go.Sj Go.Sj.Typ Go.Sj.Sta Go.Sj.Inc
set_option maxRecDepth 8000
set_option linter.unusedVariables false
set_option linter.unusedSimpArgs false
set_option maxHeartbeats 16000000

abbrev cGr (g : Gr) : List AV := [ints g.nodes, edsA g.edges]
abbrev grsA (l : List Gr) : AV := .im 2 (l.map cGr)
abbrev cMos (l : List Mo) : List AV := [mosA l]
abbrev mssA (l : List (List Mo)) : AV := .im 1 (l.map cMos)
theorem Pure.subA {P : Program} {f : FuncId} {args args' : List AV} {y : AV} (h : Go.Sj.Pure P f args y) (hs : SubL args' args) : Go.Sj.Pure P f args' y :=
  ⟨h.ok, fun σ F w vs a b => h.out σ F w vs a (hs.vrs b)⟩
section
variable {P : Program} {N : Nat} {ops : List Oper} {Q : St → Own → Prop} {L : Own} {rest : List (Oper × Kd)} {l : List (Nat × AV)}
theorem s_storeX {tt : List (TypeId × TD)} (ok : TOK P tt) (i : Nat) {o : Oper} {T : TypeId} {x y : Operand} {d : TD} {v : Value} {E j sz : Nat} {es ees : List (List AV)} {c : AV}
    (ho : o.op = .store T x y) (hdst : o.dst = none) (hg : guardA ops o (lk l) = some true) (hT : lkT tt T = some d) (hd1 : d.size = 1) (hx : ev (lk l) x = .pt v 1 j 0) (hy : ev (lk l) y = .im sz ees) (hL : L[i]? = some (v, .row E 1 es)) (hj : es[j]? = some [c])
    (n : AL P N ops Q rest (lk l) (L.set i (v, .row E 1 (es.set j [.im sz ees])))) : AL P N ops Q ((o, .eff) :: rest) (lk l) L := by
  refine s_store ok i ho hdst hg hT hx hy rfl (by rw [hd1]; rfl) (by omega) hL rfl (cells := [c]) (by simp only [obAt, hj]; rfl) (by simp [AV.cells]) ?_
  have : obSet (.row E 1 es) j 0 (AV.cells (.im sz ees)) = .row E 1 (es.set j [.im sz ees]) := by
    simp only [obSet, List.getD_eq_getElem?_getD, hj, AV.cells]
    rfl
  rw [this]
  exact n
end
def parM (L : List (List Mo)) (n i : Nat) : List (List AV) := (L.take i).map cMos ++ List.replicate (n - i) [nilS]
theorem parM_len {L : List (List Mo)} {n i : Nat} (hL : L.length = n) (hi : i ≤ n) : (parM L n i).length = n := by unfold parM; simp; omega
theorem parM_get {L : List (List Mo)} {n i : Nat} (hL : L.length = n) (hi : i < n) : (parM L n i)[i]? = some [nilS] := by
  unfold parM
  have h1 : ((L.take i).map cMos).length = i := by simp; omega
  rw [List.getElem?_append_right (by omega), h1, Nat.sub_self, List.getElem?_replicate, if_pos (by omega)]
theorem parM_set {L : List (List Mo)} {n i : Nat} {l : List Mo} (hL : L.length = n) (hi : L[i]? = some l) : (parM L n i).set i [mosA l] = parM L n (i + 1) := by
  have hlt := (List.getElem?_eq_some_iff.1 hi).1
  unfold parM
  obtain ⟨d, hd⟩ : ∃ d, n - i = d + 1 := ⟨n - i - 1, by omega⟩
  rw [hd, show n - (i + 1) = d by omega, List.replicate_succ, List.set_append_right _ _ (by simp; omega), List.take_add_one, hi]
  have : i - ((L.take i).map cMos).length = 0 := by simp; omega
  rw [this]
  simp
theorem parM_full {L : List (List Mo)} {n : Nat} (hL : L.length = n) : parM L n n = L.map cMos := by unfold parM; rw [← hL, List.take_length]; simp
theorem imats_spec (t : Tys) (ht : Small t) (ps : List Gr) (g : Gr) (inj : Bool) (hps : ∀ p ∈ ps, OkG p) (hl : ps.length ≤ 140737488355328) (hg : OkG g) :
    Pure Tryz.prog 33 [tysA t, grsA ps, grA g, AB inj] (.tup [mssA (matsR t ps g inj).1, AI (matsR t ps g inj).2]) := by
  have lps : (ps.map cGr).length = ps.length := by simp
  have s0 := Pure.subA (sAll_spec t ht ⟨[], []⟩ g ⟨by decide, by decide⟩ hg inj) (args' := [tysA t, .agg [nilS, nilS], grA g, AB inj]) ⟨Sub.refl _, Sub.agg (m := [ints [], edsA []]) ⟨Sub.nil 1, Sub.nil 3, trivial⟩, Sub.refl _, Sub.refl _, trivial⟩
  have sp := fun (p : Gr) (hp : p ∈ ps) => sAll_spec t ht p g (hps p hp) hg inj
  obtain ⟨r, hr⟩ : ∃ r, matsR t ps g inj = r := ⟨_, rfl⟩
  rw [hr]
  unfold matsR matsE at hr
  by_cases h0 : (allR t ⟨[], []⟩ g inj).2 = 0
  · rw [if_neg (Decidable.not_not.2 h0)] at hr
    rw [h0] at s0
    by_cases h5 : 5 < ps.length
    · rw [if_pos h5, if_pos (by decide)] at hr
      subst hr
      refine a_enter Tryz.func33 (by kernel_rfl) rfl Tryz.ntmps33 rfl (by simp) ?_
      refine a_seq ?_
      refine a_reg ?_
      repeat (first | refine gZ pk ?_ | (show AL _ _ _ _ _ _ _; first | refine jB (fun u => ?_)))
      refine a_frzBox 1 4 rfl rfl ?_
      refine a_frzBox 0 6 rfl rfl ?_
      repeat (first | refine gA pk ?_ | (show AL _ _ _ _ _ _ _; first | refine jP s0 ?_))
      refine fin (x := .tup [nilS, AI 3]) (.inr rfl) rfl (Sub.tup (m := [mssA [], AI 3]) ⟨Sub.nil 1, Sub.refl _, trivial⟩) ?_ (OSub.none _)
      exact ⟨rfl, rfl⟩
    · rw [if_neg h5] at hr
      have lL : (matsL t ps g inj).length = ps.length := by unfold matsL; simp
      have z1 : List.replicate (((ps.map cGr).length : Int)).toNat (List.map AV.lit [Value.slice none 0 0]) = parM (matsL t ps g inj) ps.length 0 := by unfold parM; simp
      refine a_enter Tryz.func33 (by kernel_rfl) rfl Tryz.ntmps33 rfl (by simp) ?_
      refine a_seq ?_
      refine a_reg ?_
      repeat (first | refine gZ pk ?_ | (show AL _ _ _ _ _ _ _; first | refine jB (fun u => ?_)))
      refine a_frzBox 1 4 rfl rfl ?_
      refine a_frzBox 0 6 rfl rfl ?_
      repeat (first | refine gA pk ?_ | (show AL _ _ _ _ _ _ _; first | refine jP s0 ?_ | refine s_makeQ tok rfl rfl rfl rfl rfl rfl rfl rfl z1 (by omega) (by omega) (by simp; omega) (by omega) (fun a m j => ?_)))
      rw [lps]
      refine a_loopX (fun i : Nat => [(3, AB inj), (4, tysP t), (6, grP g), (12, .lit (.slice a m j)), (34, grsA ps), (35, AI ps.length), (36, AI i)]) (fun i => [(.slice a m j, .row 70 1 (parM (matsL t ps g inj) ps.length i))]) (fun i => i ≤ ps.length ∧ ∀ (j : Nat) (q : Gr), j < i → ps[j]? = some q → (allR t q g inj).2 = 0) (fun i => ps.length - i) 0 ⟨Nat.zero_le _, fun j q hj => (by omega)⟩ ?_ (OSub.refl _) ?_
      · exact subQ
      · rintro i ⟨hi, hno⟩
        have hlp := parM_len lL hi
        rcases Nat.lt_or_ge i ps.length with h | h
        · have hp := List.getElem?_eq_getElem h
          have s1 := sp _ (List.getElem_mem h)
          generalize ps[i] = p at hp s1
          have xk : (ps.map cGr)[(i : Int).toNat]? = some (cGr p) := map_get (f := cGr) hp
          by_cases he : (allR t p g inj).2 = 0
          · have hm : (matsL t ps g inj)[i]? = some (allR t p g inj).1 := by unfold matsL; rw [List.getElem?_map, hp]; rfl
            have hset := parM_set lL hm
            have hget := parM_get lL h
            have hnext : ∀ (j : Nat) (q : Gr), j < i + 1 → ps[j]? = some q → (allR t q g inj).2 = 0 := fun j q hj hq => by
              rcases Nat.lt_or_ge j i with h2 | h2
              · exact hno j q h2 hq
              · obtain rfl : j = i := by omega
                rw [hp] at hq
                cases hq
                exact he
            rw [he] at s1
            generalize (allR t p g inj).1 = l1 at *
            obtain ⟨pn, pe⟩ := p
            change Pure _ _ [tysA t, .agg [ints pn, edsA pe], grA g, AB inj] _ at s1
            repeat (first | refine gA pk ?_ | (show AL _ _ _ _ _ _ _; first | refine jX tok xk ?_ | refine jL tok (fun ux => ?_) | refine jS tok 0 ?_ | refine jO tok 0 ?_ | refine jP s1 ?_ | refine s_ownIndex tok 1 rfl rfl rfl rfl (by decide) rfl rfl rfl rfl rfl rfl (by omega) (by omega) ?_ | refine s_storeX tok 1 rfl rfl rfl rfl rfl rfl rfl rfl hget ?_))
            exact ⟨i + 1, ⟨by omega, hnext⟩, by omega, by exact subQ, by rw [← hset]; exact .drop (OSub.refl _)⟩
          · have hpat := patE_at hp hno he
            rw [hpat, if_pos he] at hr
            subst hr
            generalize (allR t p g inj).2 = e at *
            generalize (allR t p g inj).1 = l1 at *
            obtain ⟨pn, pe⟩ := p
            change Pure _ _ [tysA t, .agg [ints pn, edsA pe], grA g, AB inj] _ at s1
            repeat (first | refine gA pk ?_ | (show AL _ _ _ _ _ _ _; first | refine jX tok xk ?_ | refine jL tok (fun ux => ?_) | refine jS tok 0 ?_ | refine jO tok 0 ?_ | refine jP s1 ?_))
            refine fin (x := .tup [nilS, AI e]) (.inr rfl) rfl (Sub.tup (m := [mssA [], AI e]) ⟨Sub.nil 1, Sub.refl _, trivial⟩) ?_ (OSub.none _)
            exact ⟨rfl, rfl⟩
        · obtain rfl : i = ps.length := by omega
          have hpat := patE_none (t := t) (ps := ps) (g := g) (inj := inj) (fun j q hq => hno j q (List.getElem?_eq_some_iff.1 hq).1 hq)
          rw [hpat, if_neg (by decide)] at hr
          subst hr
          rw [parM_full lL]
          refine a_frz 0 12 rfl rfl ?_
          repeat (first | refine gA pk ?_)
          refine finQ ?_
          exact ⟨rfl, rfl⟩
  · rw [if_pos h0, if_pos h0] at hr
    subst hr
    generalize (allR t ⟨[], []⟩ g inj).2 = e at *
    refine a_enter Tryz.func33 (by kernel_rfl) rfl Tryz.ntmps33 rfl (by simp) ?_
    refine a_seq ?_
    refine a_reg ?_
    repeat (first | refine gZ pk ?_ | (show AL _ _ _ _ _ _ _; first | refine jB (fun u => ?_)))
    refine a_frzBox 1 4 rfl rfl ?_
    refine a_frzBox 0 6 rfl rfl ?_
    repeat (first | refine gA pk ?_ | (show AL _ _ _ _ _ _ _; first | refine jP s0 ?_))
    refine fin (x := .tup [nilS, AI e]) (.inr rfl) rfl (Sub.tup (m := [mssA [], AI e]) ⟨Sub.nil 1, Sub.refl _, trivial⟩) ?_ (OSub.none _)
    exact ⟨rfl, rfl⟩
end Go.Proofs.YtddohheabpiljaaGreat

end
