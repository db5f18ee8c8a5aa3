/- Parts of a proof. -/
import Derived.Test.YtddohheabpiljaaGreatU27
set_option linter.unusedVariables false
set_option linter.unusedSimpArgs false
section
namespace Go.Proofs.YtddohheabpiljaaGreat
open Go.Sj Go.Sj.Typ Go.Sj.Sta Go.Sj.Inc
set_option maxRecDepth 8000
set_option maxHeartbeats 16000000
abbrev cGr (g : Gr) : List AV := [ints g.nodes, edsA g.edges]
abbrev grsA (l : List Gr) : AV := .im 2 (l.map cGr)
abbrev cMos (l : List Mo) : List AV := [mosA l]
abbrev mssA (l : List (List Mo)) : AV := .im 1 (l.map cMos)
theorem Pure.subA {P : Program} {f : FuncId} {args args' : List AV} {y : AV} (h : Go.Sj.Pure P f args y) (hs : SubL args' args) : Go.Sj.Pure P f args' y :=
  ⟨h.ok, fun σ F w vs a b => h.out σ F w vs a (hs.vrs b)⟩
section
variable {P : Program} {N : Nat} {ops : List Oper} {Q : St → Own → Prop} {L : Own} {rest : List (Oper × Kd)} {l : List (Nat × AV)}
theorem s_storeX {tt : List (TypeId × TD)} (ok : TOK P tt) (i : Nat) {o : Oper} {T : TypeId} {x y : Operand} {d : TD} {v : Value} {E j sz : Nat} {es ees : List (List AV)} {c : AV}
    (ho : o.op = .store T x y) (hdst : o.dst = none) (hg : guardA ops o (lk l) = some true) (hT : lkT tt T = some d) (hd1 : d.size = 1) (hx : ev (lk l) x = .pt v 1 j 0) (hy : ev (lk l) y = .im sz ees) (hL : L[i]? = some (v, .row E 1 es)) (hj : es[j]? = some [c])
    (n : AL P N ops Q rest (lk l) (L.set i (v, .row E 1 (es.set j [.im sz ees])))) : AL P N ops Q ((o, .eff) :: rest) (lk l) L := by
  refine s_store ok i ho hdst hg hT hx hy rfl (by rw [hd1]; rfl) (by omega) hL rfl (cells := [c]) (by simp only [obAt, hj]; rfl) (by simp [AV.cells]) ?_
  have : obSet (.row E 1 es) j 0 (AV.cells (.im sz ees)) = .row E 1 (es.set j [.im sz ees]) := by
    simp only [obSet, List.getD_eq_getElem?_getD, hj, AV.cells]
    rfl
  rw [this]
  exact n
end
def parM (L : List (List Mo)) (n i : Nat) : List (List AV) := (L.take i).map cMos ++ List.replicate (n - i) [nilS]
theorem parM_len {L : List (List Mo)} {n i : Nat} (hL : L.length = n) (hi : i ≤ n) : (parM L n i).length = n := by unfold parM; simp; omega
theorem parM_get {L : List (List Mo)} {n i : Nat} (hL : L.length = n) (hi : i < n) : (parM L n i)[i]? = some [nilS] := by
  unfold parM
  have h1 : ((L.take i).map cMos).length = i := by simp; omega
  rw [List.getElem?_append_right (by omega), h1, Nat.sub_self, List.getElem?_replicate, if_pos (by omega)]
theorem parM_set {L : List (List Mo)} {n i : Nat} {l : List Mo} (hL : L.length = n) (hi : L[i]? = some l) : (parM L n i).set i [mosA l] = parM L n (i + 1) := by
  have hlt := (List.getElem?_eq_some_iff.1 hi).1
  unfold parM
  obtain ⟨d, hd⟩ : ∃ d, n - i = d + 1 := ⟨n - i - 1, by omega⟩
  rw [hd, show n - (i + 1) = d by omega, List.replicate_succ, List.set_append_right _ _ (by simp; omega), List.take_add_one, hi]
  have : i - ((L.take i).map cMos).length = 0 := by simp; omega
  rw [this]
  simp
theorem parM_full {L : List (List Mo)} {n : Nat} (hL : L.length = n) : parM L n n = L.map cMos := by unfold parM; rw [← hL, List.take_length]; simp
theorem imats_spec (t : Tys) (ht : Small t) (ps : List Gr) (g : Gr) (inj : Bool) (hps : ∀ p ∈ ps, OkG p) (hl : ps.length ≤ 140737488355328) (hg : OkG g) :
    Pure Tryz.prog 33 [tysA t, grsA ps, grA g, AB inj] (.tup [mssA (matsR t ps g inj).1, AI (matsR t ps g inj).2]) := by
  have lps : (ps.map cGr).length = ps.length := by simp
  have s0 := Pure.subA (sAll_spec t ht ⟨[], []⟩ g ⟨by decide, by decide⟩ hg inj) (args' := [tysA t, .agg [nilS, nilS], grA g, AB inj]) ⟨Sub.refl _, Sub.agg (m := [ints [], edsA []]) ⟨Sub.nil 1, Sub.nil 3, trivial⟩, Sub.refl _, Sub.refl _, trivial⟩
  have sp := fun (p : Gr) (hp : p ∈ ps) => sAll_spec t ht p g (hps p hp) hg inj
  obtain ⟨r, hr⟩ : ∃ r, matsR t ps g inj = r := ⟨_, rfl⟩
  rw [hr]
  unfold matsR matsE at hr
  by_cases h0 : (allR t ⟨[], []⟩ g inj).2 = 0
  · rw [if_neg (Decidable.not_not.2 h0)] at hr
    rw [h0] at s0
    by_cases h5 : 5 < ps.length
    · rw [if_pos h5, if_pos (by decide)] at hr
      subst hr
      refine zen Tryz.func33 (by kernel_rfl) rfl Tryz.ntmps33 rfl (by simp) ?_
      refine a_seq ?_
      refine a_reg ?_
      repeat (first | refine gZ pk ?_ | (show AL _ _ _ _ _ _ _; first | refine jB (fun u => ?_)))
      refine zfb 1 4 rfl rfl ?_
      refine zfb 0 6 rfl rfl ?_
      repeat (first | refine gA pk ?_ | (show AL _ _ _ _ _ _ _; first | refine jP s0 ?_))
      refine fin (x := .tup [nilS, AI 3]) (.inr rfl) rfl (Sub.tup (m := [mssA [], AI 3]) ⟨Sub.nil 1, Sub.refl _, trivial⟩) ?_ (OSub.none _)
      exact ⟨rfl, rfl⟩
    · rw [if_neg h5] at hr
      have lL : (matsL t ps g inj).length = ps.length := by unfold matsL; simp
      have z1 : List.replicate (((ps.map cGr).length : Int)).toNat (List.map AV.lit [Value.slice none 0 0]) = parM (matsL t ps g inj) ps.length 0 := by unfold parM; simp
      refine zen Tryz.func33 (by kernel_rfl) rfl Tryz.ntmps33 rfl (by simp) ?_
      refine a_seq ?_
      refine a_reg ?_
      repeat (first | refine gZ pk ?_ | (show AL _ _ _ _ _ _ _; first | refine jB (fun u => ?_)))
      refine zfb 1 4 rfl rfl ?_
      refine zfb 0 6 rfl rfl ?_
      repeat (first | refine gA pk ?_ | (show AL _ _ _ _ _ _ _; first | refine jP s0 ?_ | refine s_makeQ tok rfl rfl rfl rfl rfl rfl rfl rfl z1 (by omega) (by omega) (by simp; omega) (by omega) (fun a m j => ?_)))
      rw [lps]
      refine zlx (fun i : Nat => [(3, AB inj), (4, tysP t), (6, grP g), (12, .lit (.slice a m j)), (34, grsA ps), (35, AI ps.length), (36, AI i)]) (fun i => [(.slice a m j, .row 70 1 (parM (matsL t ps g inj) ps.length i))]) (fun i => i ≤ ps.length ∧ ∀ (j : Nat) (q : Gr), j < i → ps[j]? = some q → (allR t q g inj).2 = 0) (fun i => ps.length - i) 0 ⟨Nat.zero_le _, fun j q hj => (by omega)⟩ ?_ (OSub.refl _) ?_
      · exact subQ
      · rintro i ⟨hi, hno⟩
        have hlp := parM_len lL hi
        rcases Nat.lt_or_ge i ps.length with h | h
        · have hp := List.getElem?_eq_getElem h
          have s1 := sp _ (List.getElem_mem h)
          generalize ps[i] = p at hp s1
          have xk : (ps.map cGr)[(i : Int).toNat]? = some (cGr p) := zmp (f := cGr) hp
          by_cases he : (allR t p g inj).2 = 0
          · have hm : (matsL t ps g inj)[i]? = some (allR t p g inj).1 := by unfold matsL; rw [List.getElem?_map, hp]; rfl
            have hset := parM_set lL hm
            have hget := parM_get lL h
            have hnext : ∀ (j : Nat) (q : Gr), j < i + 1 → ps[j]? = some q → (allR t q g inj).2 = 0 := fun j q hj hq => by
              rcases Nat.lt_or_ge j i with h2 | h2
              · exact hno j q h2 hq
              · obtain rfl : j = i := by omega
                rw [hp] at hq
                cases hq
                exact he
            rw [he] at s1
            generalize (allR t p g inj).1 = l1 at *
            obtain ⟨pn, pe⟩ := p
            change Pure _ _ [tysA t, .agg [ints pn, edsA pe], grA g, AB inj] _ at s1
            repeat (first | refine gA pk ?_ | (show AL _ _ _ _ _ _ _; first | refine jX tok xk ?_ | refine jL tok (fun ux => ?_) | refine jS tok 0 ?_ | refine jO tok 0 ?_ | refine jP s1 ?_ | refine zoi tok 1 rfl rfl rfl rfl (by decide) rfl rfl rfl rfl rfl rfl (by omega) (by omega) ?_ | refine s_storeX tok 1 rfl rfl rfl rfl rfl rfl rfl rfl hget ?_))
            exact ⟨i + 1, ⟨by omega, hnext⟩, by omega, by exact subQ, by rw [← hset]; exact .drop (OSub.refl _)⟩
          · have hpat := patE_at hp hno he
            rw [hpat, if_pos he] at hr
            subst hr
            generalize (allR t p g inj).2 = e at *
            generalize (allR t p g inj).1 = l1 at *
            obtain ⟨pn, pe⟩ := p
            change Pure _ _ [tysA t, .agg [ints pn, edsA pe], grA g, AB inj] _ at s1
            repeat (first | refine gA pk ?_ | (show AL _ _ _ _ _ _ _; first | refine jX tok xk ?_ | refine jL tok (fun ux => ?_) | refine jS tok 0 ?_ | refine jO tok 0 ?_ | refine jP s1 ?_))
            refine fin (x := .tup [nilS, AI e]) (.inr rfl) rfl (Sub.tup (m := [mssA [], AI e]) ⟨Sub.nil 1, Sub.refl _, trivial⟩) ?_ (OSub.none _)
            exact ⟨rfl, rfl⟩
        · obtain rfl : i = ps.length := by omega
          have hpat := patE_none (t := t) (ps := ps) (g := g) (inj := inj) (fun j q hq => hno j q (List.getElem?_eq_some_iff.1 hq).1 hq)
          rw [hpat, if_neg (by decide)] at hr
          subst hr
          rw [parM_full lL]
          refine a_frz 0 12 rfl rfl ?_
          repeat (first | refine gA pk ?_)
          refine finQ ?_
          exact ⟨rfl, rfl⟩
  · rw [if_pos h0, if_pos h0] at hr
    subst hr
    generalize (allR t ⟨[], []⟩ g inj).2 = e at *
    refine zen Tryz.func33 (by kernel_rfl) rfl Tryz.ntmps33 rfl (by simp) ?_
    refine a_seq ?_
    refine a_reg ?_
    repeat (first | refine gZ pk ?_ | (show AL _ _ _ _ _ _ _; first | refine jB (fun u => ?_)))
    refine zfb 1 4 rfl rfl ?_
    refine zfb 0 6 rfl rfl ?_
    repeat (first | refine gA pk ?_ | (show AL _ _ _ _ _ _ _; first | refine jP s0 ?_))
    refine fin (x := .tup [nilS, AI e]) (.inr rfl) rfl (Sub.tup (m := [mssA [], AI e]) ⟨Sub.nil 1, Sub.refl _, trivial⟩) ?_ (OSub.none _)
    exact ⟨rfl, rfl⟩
theorem gmats_spec (t : Tys) (ht : Small t) (ps : List Gr) (g : Gr) (inj : Bool) (hps : ∀ p ∈ ps, OkG p) (hl : ps.length ≤ 140737488355328) (hg : OkG g) :
    Pure Tryz.prog 36 [tysA t, grsA ps, grA g, AB inj] (.tup [mssA (matsR t ps g inj).1, AI (matsR t ps g inj).2]) := by
  have lps : (ps.map cGr).length = ps.length := by simp
  have s0 := Pure.subA (gAll_spec t ht ⟨[], []⟩ g ⟨by decide, by decide⟩ hg inj) (args' := [tysA t, .agg [nilS, nilS], grA g, AB inj]) ⟨Sub.refl _, Sub.agg (m := [ints [], edsA []]) ⟨Sub.nil 1, Sub.nil 3, trivial⟩, Sub.refl _, Sub.refl _, trivial⟩
  have sp := fun (p : Gr) (hp : p ∈ ps) => gAll_spec t ht p g (hps p hp) hg inj
  obtain ⟨r, hr⟩ : ∃ r, matsR t ps g inj = r := ⟨_, rfl⟩
  rw [hr]
  unfold matsR matsE at hr
  by_cases h0 : (allR t ⟨[], []⟩ g inj).2 = 0
  · rw [if_neg (Decidable.not_not.2 h0)] at hr
    rw [h0] at s0
    by_cases h5 : 5 < ps.length
    · rw [if_pos h5, if_pos (by decide)] at hr
      subst hr
      refine zen Tryz.func36 (by kernel_rfl) rfl Tryz.ntmps36 rfl (by simp) ?_
      refine a_seq ?_
      refine a_reg ?_
      repeat (first | refine gZ pk ?_ | (show AL _ _ _ _ _ _ _; first | refine jB (fun u => ?_)))
      refine zfb 1 4 rfl rfl ?_
      refine zfb 0 6 rfl rfl ?_
      repeat (first | refine gA pk ?_ | (show AL _ _ _ _ _ _ _; first | refine jP s0 ?_))
      refine fin (x := .tup [nilS, AI 3]) (.inr rfl) rfl (Sub.tup (m := [mssA [], AI 3]) ⟨Sub.nil 1, Sub.refl _, trivial⟩) ?_ (OSub.none _)
      exact ⟨rfl, rfl⟩
    · rw [if_neg h5] at hr
      have lL : (matsL t ps g inj).length = ps.length := by unfold matsL; simp
      refine zen Tryz.func36 (by kernel_rfl) rfl Tryz.ntmps36 rfl (by simp) ?_
      refine a_seq ?_
      refine a_reg ?_
      repeat (first | refine gZ pk ?_ | (show AL _ _ _ _ _ _ _; first | refine jB (fun u => ?_)))
      refine zfb 1 4 rfl rfl ?_
      refine zfb 0 6 rfl rfl ?_
      repeat (first | refine gA pk ?_ | (show AL _ _ _ _ _ _ _; first | refine jP s0 ?_))
      refine a_loopG2 (fun (i : Nat) (vo : Value) => [(1, grsA ps), (3, AB inj), (4, tysP t), (6, grP g), (12, .lit vo), (13, AI i)]) (fun i vo => [(vo, .row 70 1 (((matsL t ps g inj).take i).map cMos))]) (fun i _ => i ≤ ps.length ∧ ∀ (j : Nat) (q : Gr), j < i → ps[j]? = some q → (allR t q g inj).2 = 0) (fun i _ => ps.length - i) 0 (.slice none 0 0) ⟨Nat.zero_le _, fun j q hj => (by omega)⟩ (.sub (by exact subQ) (.free (OSub.none _))) ?_
      rintro i vo ⟨hi, hno⟩
      have hlp : (((matsL t ps g inj).take i).map cMos).length = i := by rw [List.length_map, List.length_take]; omega
      rcases Nat.lt_or_ge i ps.length with h | h
      · have hp := List.getElem?_eq_getElem h
        have s1 := sp _ (List.getElem_mem h)
        generalize ps[i] = p at hp s1
        have xk : (ps.map cGr)[(i : Int).toNat]? = some (cGr p) := zmp (f := cGr) hp
        by_cases he : (allR t p g inj).2 = 0
        · have hm : (matsL t ps g inj)[i]? = some (allR t p g inj).1 := by unfold matsL; rw [List.getElem?_map, hp]; rfl
          have hset : ((matsL t ps g inj).take (i + 1)).map cMos = ((matsL t ps g inj).take i).map cMos ++ [[mosA (allR t p g inj).1]] := by
            rw [List.take_add_one, hm]; simp
          have hnext : ∀ (j : Nat) (q : Gr), j < i + 1 → ps[j]? = some q → (allR t q g inj).2 = 0 := fun j q hj hq => by
            rcases Nat.lt_or_ge j i with h2 | h2
            · exact hno j q h2 hq
            · obtain rfl : j = i := by omega
              rw [hp] at hq
              cases hq
              exact he
          rw [he] at s1
          generalize (allR t p g inj).1 = l1 at *
          obtain ⟨pn, pe⟩ := p
          change Pure _ _ [tysA t, .agg [ints pn, edsA pe], grA g, AB inj] _ at s1
          repeat (first | refine gN pk ?_)
          refine zrg ((List.range 13).map fun i => if inL [7] i = true then .eff else if inL [0, 3, 4, 5] i = true then .read else .pure) [] [0, 1, 2, 3, 4, 5, 6, 7, 8, 9, 10, 11, 12] .stop mixed rfl rfl (by decide +kernel) ?_
          repeat' (first | (with_reducible show AG _ _ _ _ _ _ _ _ _ _; first | exact zgn | refine zgs ?_ | refine znd ?_ ?_) | (show AMid _ _ _ _; first | refine zmf ?_ | refine zmg (by first | exact OSub.refl _ | exact .drop (OSub.refl _) | exact .drop (.drop (OSub.refl _))) ?_) | refine gY pk ?_ | (show AL _ _ _ _ _ _ _; first | refine jX tok xk ?_ | refine jP s1 ?_) | fail)
          repeat (first | refine gA pk ?_ | (show AL _ _ _ _ _ _ _; first | refine s_build1M tok rfl rfl rfl rfl rfl rfl rfl (fun lv => ?_) | refine zak tok 0 rfl rfl rfl rfl rfl rfl (by decide) rfl rfl rfl rfl (by omega) (by omega) (fun w hw => ?_)))
          exact ⟨i + 1, w, ⟨by omega, hnext⟩, by omega, .sub (by exact subQ) (by rw [hset]; exact OSub.refl _)⟩
        · have hpat := patE_at hp hno he
          rw [hpat, if_pos he] at hr
          subst hr
          generalize (allR t p g inj).2 = e at *
          generalize (allR t p g inj).1 = l1 at *
          obtain ⟨pn, pe⟩ := p
          change Pure _ _ [tysA t, .agg [ints pn, edsA pe], grA g, AB inj] _ at s1
          repeat (first | refine gN pk ?_)
          refine zrg ((List.range 13).map fun i => if inL [7] i = true then .eff else if inL [0, 3, 4, 5] i = true then .read else .pure) [] [0, 1, 2, 3, 4, 5, 6, 7, 8, 9, 10, 11, 12] .stop mixed rfl rfl (by decide +kernel) ?_
          repeat' (first | (with_reducible show AG _ _ _ _ _ _ _ _ _ _; first | exact zgn | refine zgs ?_ | refine znd ?_ ?_) | (show AMid _ _ _ _; first | refine zmf ?_ | refine zmg (by first | exact OSub.refl _ | exact .drop (OSub.refl _) | exact .drop (.drop (OSub.refl _))) ?_) | refine gY pk ?_ | (show AL _ _ _ _ _ _ _; first | refine jX tok xk ?_ | refine jP s1 ?_) | fail)
          repeat (first | refine gA pk ?_)
          refine fin (x := .tup [nilS, AI e]) (.inr rfl) rfl (Sub.tup (m := [mssA [], AI e]) ⟨Sub.nil 1, Sub.refl _, trivial⟩) ?_ (OSub.none _)
          exact ⟨rfl, rfl⟩
      · obtain rfl : i = ps.length := by omega
        have hpat := patE_none (t := t) (ps := ps) (g := g) (inj := inj) (fun j q hq => hno j q (List.getElem?_eq_some_iff.1 hq).1 hq)
        rw [hpat, if_neg (by decide)] at hr
        subst hr
        rw [← lL, List.take_length]
        refine a_frz 0 12 rfl rfl ?_
        rw [lL]
        repeat (first | refine gA pk ?_)
        refine finQ ?_
        exact ⟨rfl, rfl⟩
  · rw [if_pos h0, if_pos h0] at hr
    subst hr
    generalize (allR t ⟨[], []⟩ g inj).2 = e at *
    refine zen Tryz.func36 (by kernel_rfl) rfl Tryz.ntmps36 rfl (by simp) ?_
    refine a_seq ?_
    refine a_reg ?_
    repeat (first | refine gZ pk ?_ | (show AL _ _ _ _ _ _ _; first | refine jB (fun u => ?_)))
    refine zfb 1 4 rfl rfl ?_
    refine zfb 0 6 rfl rfl ?_
    repeat (first | refine gA pk ?_ | (show AL _ _ _ _ _ _ _; first | refine jP s0 ?_))
    refine fin (x := .tup [nilS, AI e]) (.inr rfl) rfl (Sub.tup (m := [mssA [], AI e]) ⟨Sub.nil 1, Sub.refl _, trivial⟩) ?_ (OSub.none _)
    exact ⟨rfl, rfl⟩
end Go.Proofs.YtddohheabpiljaaGreat
end
section
namespace Go.Proofs.YtddohheabpiljaaGreat
open Go.Sj Go.Sj.Typ Go.Sj.Sta Go.Sj.Inc
set_option maxRecDepth 8000
set_option maxHeartbeats 16000000
theorem gCopied_spec (g : Gr) (h1 : g.nodes.length ≤ 1000) (h2 : g.edges.length ≤ 1000) : Pure Tryz.prog 29 [grA g] (grA g) := by
  have ln : (rowI g.nodes).length = g.nodes.length := by simp
  have le : (g.edges.map cEd).length = g.edges.length := by simp
  refine a_enterC Tryz.func29 (by kernel_rfl) rfl Tryz.ntmps29 rfl (tok _ _ rfl) (by simp) ?_
  refine a_seq ?_
  refine a_reg ?_
  repeat (first | refine gZ pk ?_ | (show AL _ _ _ _ _ _ _; first | refine jB (fun u => ?_) | refine jL tok (fun u2 => ?_)))
  refine zfb 1 1 rfl rfl ?_
  refine AWp.mono (Q := fun e st L => e = .normal ∧ GoTo 12 st L (lk [(2, .pt u2 0 0 0)]) [(u2, .box [ints g.nodes, edsA g.edges])]) ?_ (fun e st L h => ?_)
  · refine a_regXP [1, 2, 5, 6] (.nd [0] (.nd [3, 4, 7, 8, 9] .stop (.nd [4, 3, 7, 8, 9] .stop .stop)) (.nd [4, 0, 3, 7, 8, 9] .stop .stop)) mixed rfl rfl (by decide +kernel) ?_
    repeat' (first | (with_reducible show AX _ _ _ _ _ _ _ _ _; first | exact ax_none | refine ax_stop ?_ | refine ax_nd ?_ ?_) | refine gY pk ?_ | (show AL _ _ _ _ _ _ _; first | refine s_build tok (parts := []) rfl rfl rfl rfl rfl rfl rfl rfl (by decide) (by decide) (fun v => ?_) | refine s_appendImF tok 0 rfl rfl rfl rfl rfl rfl (by decide) rfl rfl rfl rfl (rowI_cell _) (by simp only [ln, le, List.length_nil]; omega) (by simp only [ln, le, List.length_nil]; omega) ?_ | refine s_appendImF tok 0 rfl rfl rfl rfl rfl rfl (by decide) rfl rfl rfl rfl (cEd_cell _) (by simp only [ln, le, List.length_nil]; omega) (by simp only [ln, le, List.length_nil]; omega) ?_ | refine s_appendImF tok 1 rfl rfl rfl rfl rfl rfl (by decide) rfl rfl rfl rfl (rowI_cell _) (by simp only [ln, le, List.length_nil]; omega) (by simp only [ln, le, List.length_nil]; omega) ?_ | refine s_appendImF tok 1 rfl rfl rfl rfl rfl rfl (by decide) rfl rfl rfl rfl (cEd_cell _) (by simp only [ln, le, List.length_nil]; omega) (by simp only [ln, le, List.length_nil]; omega) ?_ | refine jS tok 0 ?_ | refine jS tok 1 ?_) | fail)
    all_goals exact ⟨rfl, GoTo.sub (by exact subQ) (OSub.refl _)⟩
  · obtain ⟨rfl, h⟩ := h
    refine zgt h ?_
    refine zfb 0 2 rfl rfl ?_
    repeat (first | refine gA pk ?_)
    exact ⟨.inr rfl, _, _, _, _, rfl, rfl, Turn.of (Sub.of_eq rfl) (OSub.refl _), rfl, rfl⟩
theorem take_eqI {α : Type} {xs ys : List α} {k : Nat} {a b : α} (h1 : xs[k]? = some a) (h2 : ys[k]? = some b) (he : xs.take k = ys.take k) (hab : a = b) : xs.take (k + 1) = ys.take (k + 1) := by
  rw [List.take_add_one, List.take_add_one, h1, h2, he, hab]
theorem gSameInts_spec (xs ys : List Int) (hx : xs.length ≤ 1000000) (hy : ys.length ≤ 1000000) : Pure Tryz.prog 62 [ints xs, ints ys] (AB (decide (xs = ys))) := by
  have lx : (rowI xs).length = xs.length := by simp
  have ly : (rowI ys).length = ys.length := by simp
  by_cases hl : xs.length = ys.length
  · refine zen Tryz.func62 (by kernel_rfl) rfl Tryz.ntmps62 rfl (by simp) ?_
    repeat (first | refine gA pk ?_)
    refine zlx (fun k : Nat => [(0, ints xs), (1, ints ys), (5, AI k)]) (fun _ => []) (fun k => k ≤ xs.length ∧ xs.take k = ys.take k) (fun k => xs.length - k) 0 ⟨Nat.zero_le _, rfl⟩ ?_ (OSub.refl _) ?_
    · exact subQ
    · rintro k ⟨hk, he⟩
      rcases Nat.lt_or_ge k xs.length with h | h
      · have h1 := List.getElem?_eq_getElem h
        have h2 := List.getElem?_eq_getElem (l := ys) (i := k) (by omega)
        generalize xs[k] = a at h1
        generalize ys[k]'(by omega) = b at h2
        have x1 : (rowI xs)[(k : Int).toNat]? = some [AI a] := zmp (f := cI) h1
        have x2 : (rowI ys)[(k : Int).toNat]? = some [AI b] := zmp (f := cI) h2
        by_cases hab : a = b
        · have ht := take_eqI h1 h2 he hab
          repeat (first | refine gA pk ?_ | (show AL _ _ _ _ _ _ _; first | refine jX tok x1 ?_ | refine jX tok x2 ?_))
          exact ⟨k + 1, ⟨by omega, ht⟩, by omega, by exact subQ, OSub.refl _⟩
        · have hne : xs ≠ ys := fun e => by rw [e, h2] at h1; cases h1; exact hab rfl
          rw [decide_eq_false hne]
          repeat (first | refine gA pk ?_ | (show AL _ _ _ _ _ _ _; first | refine jX tok x1 ?_ | refine jX tok x2 ?_))
          refine finQ ?_
          exact ⟨rfl, rfl⟩
      · have : xs = ys := by
          have e1 : xs.take k = xs := List.take_of_length_le (by omega)
          have e2 : ys.take k = ys := List.take_of_length_le (by omega)
          rw [← e1, ← e2, he]
        rw [decide_eq_true this]
        repeat (first | refine gA pk ?_)
        refine finQ ?_
        exact ⟨rfl, rfl⟩
  · rw [decide_eq_false (fun e => hl (by rw [e]))]
    refine zen Tryz.func62 (by kernel_rfl) rfl Tryz.ntmps62 rfl (by simp) ?_
    repeat (first | refine gA pk ?_)
    refine finQ ?_
    exact ⟨rfl, rfl⟩
def gSame (a b : Gr) : Bool := decide (a.nodes = b.nodes) && decide (a.edges = b.edges)
theorem gSame_self (a : Gr) : gSame a a = true := by simp [gSame]
theorem gSame_spec (a b : Gr) (ha : a.nodes.length ≤ 1000000 ∧ a.edges.length ≤ 1000000) (hb : b.nodes.length ≤ 1000000 ∧ b.edges.length ≤ 1000000) : Pure Tryz.prog 37 [grA a, grA b] (AB (gSame a b)) := by
  have lx : (a.edges.map cEd).length = a.edges.length := by simp
  have ly : (b.edges.map cEd).length = b.edges.length := by simp
  have s1 := gSameInts_spec a.nodes b.nodes ha.1 hb.1
  unfold gSame
  by_cases hn : a.nodes = b.nodes
  · rw [decide_eq_true hn] at s1 ⊢
    rw [Bool.true_and]
    by_cases hl : a.edges.length = b.edges.length
    · refine zen Tryz.func37 (by kernel_rfl) rfl Tryz.ntmps37 rfl (by simp) ?_
      refine a_seq ?_
      refine a_reg ?_
      repeat (first | refine gZ pk ?_ | (show AL _ _ _ _ _ _ _; first | refine jB (fun u => ?_)))
      refine zfb 1 2 rfl rfl ?_
      refine zfb 0 3 rfl rfl ?_
      repeat (first | refine gA pk ?_ | (show AL _ _ _ _ _ _ _; first | refine jP s1 ?_))
      refine zlx (fun k : Nat => [(2, grP a), (3, grP b), (5, AI k)]) (fun _ => []) (fun k => k ≤ a.edges.length ∧ a.edges.take k = b.edges.take k) (fun k => a.edges.length - k) 0 ⟨Nat.zero_le _, rfl⟩ ?_ (OSub.none _) ?_
      · exact subQ
      · rintro k ⟨hk, he⟩
        rcases Nat.lt_or_ge k a.edges.length with h | h
        · have h1 := List.getElem?_eq_getElem h
          have h2 := List.getElem?_eq_getElem (l := b.edges) (i := k) (by omega)
          generalize a.edges[k] = x at h1
          generalize b.edges[k]'(by omega) = y at h2
          have x1 : (a.edges.map cEd)[(k : Int).toNat]? = some (cEd x) := zmp (f := cEd) h1
          have x2 : (b.edges.map cEd)[(k : Int).toNat]? = some (cEd y) := zmp (f := cEd) h2
          by_cases hab : x = y
          · have ht := take_eqI h1 h2 he hab
            repeat (first | refine gA pk ?_ | (show AL _ _ _ _ _ _ _; first | refine jX tok x1 ?_ | refine jX tok x2 ?_ | refine s_sne (b := false) (xs := toIE x) (ys := toIE y) se_edge rfl rfl rfl rfl rfl rfl rfl rfl (by rw [decide_eq_true (toIE_eq.2 hab)]; rfl) ?_))
            exact ⟨k + 1, ⟨by omega, ht⟩, by omega, by exact subQ, OSub.none _⟩
          · have hne : a.edges ≠ b.edges := fun e => by rw [e, h2] at h1; cases h1; exact hab rfl
            rw [decide_eq_false hne]
            repeat (first | refine gA pk ?_ | (show AL _ _ _ _ _ _ _; first | refine jX tok x1 ?_ | refine jX tok x2 ?_ | refine s_sne (b := true) (xs := toIE x) (ys := toIE y) se_edge rfl rfl rfl rfl rfl rfl rfl rfl (by rw [decide_eq_false (fun q => hab (toIE_eq.1 q))]; rfl) ?_))
            refine finQ ?_
            exact ⟨rfl, rfl⟩
        · have : a.edges = b.edges := by
            have e1 : a.edges.take k = a.edges := List.take_of_length_le (by omega)
            have e2 : b.edges.take k = b.edges := List.take_of_length_le (by omega)
            rw [← e1, ← e2, he]
          rw [decide_eq_true this]
          repeat (first | refine gA pk ?_)
          refine finQ ?_
          exact ⟨rfl, rfl⟩
    · rw [decide_eq_false (fun e => hl (by rw [e]))]
      refine zen Tryz.func37 (by kernel_rfl) rfl Tryz.ntmps37 rfl (by simp) ?_
      refine a_seq ?_
      refine a_reg ?_
      repeat (first | refine gZ pk ?_ | (show AL _ _ _ _ _ _ _; first | refine jB (fun u => ?_)))
      refine zfb 1 2 rfl rfl ?_
      refine zfb 0 3 rfl rfl ?_
      repeat (first | refine gA pk ?_ | (show AL _ _ _ _ _ _ _; first | refine jP s1 ?_))
      refine finQ ?_
      exact ⟨rfl, rfl⟩
  · rw [decide_eq_false hn] at s1 ⊢
    rw [Bool.false_and]
    refine zen Tryz.func37 (by kernel_rfl) rfl Tryz.ntmps37 rfl (by simp) ?_
    refine a_seq ?_
    refine a_reg ?_
    repeat (first | refine gZ pk ?_ | (show AL _ _ _ _ _ _ _; first | refine jB (fun u => ?_)))
    refine zfb 1 2 rfl rfl ?_
    refine zfb 0 3 rfl rfl ?_
    repeat (first | refine gA pk ?_ | (show AL _ _ _ _ _ _ _; first | refine jP s1 ?_))
    refine finQ ?_
    exact ⟨rfl, rfl⟩
theorem icopied_spec (g : Gr) (h1 : g.nodes.length ≤ 1000) (h2 : g.edges.length ≤ 1000) : Pure Tryz.prog 35 [grA g] (grA g) := by
  have s1 := (CloneN_spec g.nodes (by omega)).pure
  have s2 := (CloneG_spec g.edges (by omega)).pure
  refine a_enterC Tryz.func35 (by kernel_rfl) rfl Tryz.ntmps35 rfl (tok _ _ rfl) (by simp) ?_
  refine a_seq ?_
  refine a_reg ?_
  repeat (first | refine gZ pk ?_ | (show AL _ _ _ _ _ _ _; first | refine jB (fun ug => ?_) | refine jL tok (fun U2 => ?_)))
  refine zfb 1 1 rfl rfl ?_
  refine zrg ((List.range 8).map fun i => if inL [2, 5, 7] i = true then .eff else .pure) [] [0, 1, 3, 4, 2, 5, 6, 7] .stop mixed rfl rfl (by decide +kernel) ?_
  repeat' (first | (with_reducible show AG _ _ _ _ _ _ _ _ _ _; first | exact zgn | refine zgs ?_ | refine znd ?_ ?_) | (show AMid _ _ _ _; first | refine zmf ?_ | refine zmg (by first | exact OSub.refl _ | exact .drop (OSub.refl _) | exact .drop (.drop (OSub.refl _))) ?_) | refine gY pk ?_ | (show AL _ _ _ _ _ _ _; first | refine jP s1 ?_ | refine jP s2 ?_ | refine jS tok 0 ?_) | fail)
  refine zfb 0 2 rfl rfl ?_
  repeat (first | refine gA pk ?_)
  exact ⟨.inr rfl, _, _, _, _, rfl, rfl, Turn.of (Sub.of_eq rfl) (OSub.none _), rfl, rfl⟩
theorem ipatterns_spec (ps : List Gr) (hps : ∀ p ∈ ps, p.nodes.length ≤ 1000 ∧ p.edges.length ≤ 1000) (hl : ps.length ≤ 1000) : Pure Tryz.prog 34 [grsA ps] (grsA ps) := by
  have lps : (ps.map cGr).length = ps.length := by simp
  refine zen Tryz.func34 (by kernel_rfl) rfl Tryz.ntmps34 rfl (by simp) ?_
  repeat (first | refine gA pk ?_)
  rw [lps]
  refine a_loopG2 (fun (i : Nat) (vo : Value) => [(3, .lit vo), (6, grsA ps), (7, AI ps.length), (8, AI i)]) (fun i vo => [(vo, .row 30 2 ((ps.take i).map cGr))]) (fun i _ => i ≤ ps.length) (fun i _ => ps.length - i) 0 (.slice none 0 0) (Nat.zero_le _) (.sub (by exact subQ) (.free (OSub.none _))) ?_
  intro i vo hi
  have hlp : ((ps.take i).map cGr).length = i := by rw [List.length_map, List.length_take]; omega
  rcases Nat.lt_or_ge i ps.length with h | h
  · have hp := List.getElem?_eq_getElem h
    have hpl := hps _ (List.getElem_mem h)
    generalize ps[i] = p at hp hpl
    have s1 := icopied_spec p hpl.1 hpl.2
    have xk : (ps.map cGr)[(i : Int).toNat]? = some (cGr p) := zmp (f := cGr) hp
    have hset : (ps.take (i + 1)).map cGr = (ps.take i).map cGr ++ [cGr p] := by rw [List.take_add_one, hp]; simp
    obtain ⟨pn, pe⟩ := p
    change Pure _ _ [.agg [ints pn, edsA pe]] (.agg [ints pn, edsA pe]) at s1
    repeat (first | refine gA pk ?_ | (show AL _ _ _ _ _ _ _; first | refine jX tok xk ?_ | refine jL tok (fun ux => ?_) | refine jS tok 0 ?_ | refine jO tok 0 ?_ | refine jP s1 ?_ | refine zba tok rfl rfl rfl rfl rfl rfl rfl rfl (by decide) (fun lv => ?_) | refine zak tok 1 rfl rfl rfl rfl rfl rfl (by decide) rfl rfl rfl rfl (by omega) (by omega) (fun w hw => ?_)))
    exact ⟨i + 1, w, by omega, by omega, .sub (by exact subQ) (by rw [hset]; exact .drop (OSub.refl _))⟩
  · obtain rfl : i = ps.length := by omega
    rw [List.take_length]
    refine a_frz 0 3 rfl rfl ?_
    repeat (first | refine gA pk ?_)
    refine finQ ?_
    exact ⟨rfl, rfl⟩
abbrev watA (w : Wat) : AV := .agg [grsA w.ps, ints w.g.nodes, edsA w.g.edges, AB w.inj, mssA w.ms]
theorem inew_spec (t : Tys) (ht : Small t) (ps : List Gr) (g : Gr) (inj : Bool) (hps : ∀ p ∈ ps, OkG p) (hl : ps.length ≤ 140737488355328) (hg : OkG g) :
    Pure Tryz.prog 12 [tysA t, grsA ps, grA g, AB inj] (.tup [watA (newR t ps g inj).1, AI (newR t ps g inj).2]) := by
  have s1 := imats_spec t ht ps g inj hps hl hg
  unfold newR
  unfold matsR at s1
  by_cases he : matsE t ps g inj = 0
  · rw [if_neg (Decidable.not_not.2 he)] at s1 ⊢
    obtain ⟨hG, h5, hall⟩ := matsE_zero he
    have hgn := hG.nl
    have hge := hG.el
    have s2 := ipatterns_spec ps (fun p hp => by
      have := (zvz (allR_zero (hall p hp))).2.1
      have h1 := this.nl
      have h2 := this.el
      exact ⟨by omega, by omega⟩) (by omega)
    have s3 := icopied_spec g (by omega) (by omega)
    generalize matsL t ps g inj = L at *
    refine a_enterM (rs := [.cell 8 37, .tmp 9]) tok Tryz.func12 (by kernel_rfl) rfl Tryz.ntmps12 rfl (by decide) (by simp) ?_
    refine a_seq ?_
    refine a_reg ?_
    repeat (first | refine gZ pk ?_ | (show AL _ _ _ _ _ _ _; first | refine jB (fun u => ?_) | refine jL tok (fun U8 => ?_)))
    refine zfb 2 4 rfl rfl ?_
    refine zfb 1 6 rfl rfl ?_
    repeat (first | refine gN pk ?_ | (show AL _ _ _ _ _ _ _; first | refine jP s1 ?_))
    refine zrg ((List.range 9).map fun i => if inL [1, 3, 7] i = true then .eff else .pure) [] [0, 2, 4, 5, 1, 3, 6, 7, 8] .stop mixed rfl rfl (by decide +kernel) ?_
    repeat' (first | (with_reducible show AG _ _ _ _ _ _ _ _ _ _; first | exact zgn | refine zgs ?_ | refine znd ?_ ?_) | (show AMid _ _ _ _; first | refine zmf ?_ | refine zmg (by first | exact OSub.refl _ | exact .drop (OSub.refl _) | exact .drop (.drop (OSub.refl _))) ?_) | refine gY pk ?_ | (show AL _ _ _ _ _ _ _; first | refine jP s2 ?_ | refine jP s3 ?_ | refine jS tok 0 ?_) | fail)
    refine zfb 0 8 rfl rfl ?_
    refine a_ret ?_
    exact ⟨.inr rfl, _, _, [], rfl, Turn.of (Sub.refl _) (OSub.none _), rfl, rfl⟩
  · rw [if_pos he] at s1 ⊢
    generalize matsE t ps g inj = e at *
    refine a_enterM (rs := [.cell 8 37, .tmp 9]) tok Tryz.func12 (by kernel_rfl) rfl Tryz.ntmps12 rfl (by decide) (by simp) ?_
    refine a_seq ?_
    refine a_reg ?_
    repeat (first | refine gZ pk ?_ | (show AL _ _ _ _ _ _ _; first | refine jB (fun u => ?_) | refine jL tok (fun U8 => ?_)))
    refine zfb 2 4 rfl rfl ?_
    refine zfb 1 6 rfl rfl ?_
    repeat (first | refine gV pk ?_ | (show AL _ _ _ _ _ _ _; first | refine jP s1 ?_ | refine jS tok 0 ?_))
    refine zfb 0 8 rfl rfl ?_
    refine a_ret ?_
    exact ⟨.inr rfl, _, _, [], rfl, Turn.of (Sub.tup (l := [.agg [nilS, nilS, nilS, AB false, nilS], AI e]) (m := [watA ⟨[], ⟨[], []⟩, false, []⟩, AI e]) ⟨Sub.agg (m := [grsA [], ints [], edsA [], AB false, mssA []]) ⟨Sub.nil 2, Sub.nil 1, Sub.nil 3, Sub.refl _, Sub.nil 1, trivial⟩, Sub.refl _, trivial⟩) (OSub.none _), rfl, rfl⟩
end Go.Proofs.YtddohheabpiljaaGreat
end
