/-
  Parts of the proof of the law IncrementalOpposite (texts W41): steps, plain mathematics, contracts of functions. Each theorem states its own conditions.
-/
import Derived.Test.YtddohheabpiljaaGreatB09
import Derived.Test.YtddohheabpiljaaGreatB28
section
/-
  Searches: the table of subtypes (program), and what the reference asks of its arguments. Conditions: small type graphs.
-/
namespace Go.Proofs.YtddohheabpiljaaGreat
open Go.Sj Go.Sj.Typ Go.Sj.Sta Go.Sj.Inc
set_option maxRecDepth 8000
set_option linter.unusedVariables false
set_option linter.unusedSimpArgs false
set_option maxHeartbeats 16000000

theorem obSet_rowB {E j : Nat} {xs : List Bool} {a : Bool} (hj : j < xs.length) : obSet (.row E 1 (xs.map cB)) j 0 [AB a] = .row E 1 ((xs.set j a).map cB) := by
  have hget : (xs.map cB).getD j [] = cB xs[j] := by
    rw [List.getD_eq_getElem?_getD, List.getElem?_map, List.getElem?_eq_getElem hj]; rfl
  simp only [obSet, hget]
  congr 1
  rw [List.map_set]
  rfl
section
variable {P : Program} {N : Nat} {ops : List Oper} {Q : St → Own → Prop} {L : Own} {rest : List (Oper × Kd)} {l : List (Nat × AV)}
theorem s_storeBl {tt : List (TypeId × TD)} (ok : TOK P tt) (i : Nat) {o : Oper} {T : TypeId} {x y : Operand} {d : TD} {v : Value} {E j : Nat} {xs : List Bool} {a : Bool}
    (ho : o.op = .store T x y) (hdst : o.dst = none) (hg : guardA ops o (lk l) = some true) (hT : lkT tt T = some d) (hd1 : d.size = 1) (hx : ev (lk l) x = .pt v 1 j 0) (hy : ev (lk l) y = AB a) (hL : L[i]? = some (v, .row E 1 (xs.map cB))) (hj : j < xs.length)
    (n : AL P N ops Q rest (lk l) (L.set i (v, .row E 1 ((xs.set j a).map cB)))) : AL P N ops Q ((o, .eff) :: rest) (lk l) L := by
  have hget : (xs.map cB)[j]? = some (cB xs[j]) := map_get (List.getElem?_eq_getElem hj)
  refine s_store ok i ho hdst hg hT hx hy rfl (by rw [hd1]; rfl) (by omega) hL rfl (cells := cB xs[j]) (by simp only [obAt, hget]; rfl) (by simp [cB, AV.cells]) ?_
  rw [show AV.cells (AB a) = [AB a] from rfl, obSet_rowB hj]
  exact n
end
theorem range_set {A : Type} (f : Nat → A) (n i : Nat) (x : A) : ((List.range n).map f).set i x = (List.range n).map fun b => if b = i then x else f b := by
  refine List.ext_getElem? fun j => ?_
  rw [List.getElem?_set, List.getElem?_map, List.length_map, List.length_range]
  by_cases hij : i = j
  · subst hij
    by_cases hn : i < n
    · rw [if_pos rfl, if_pos hn, List.getElem?_map, List.getElem?_range hn]; simp
    · rw [if_pos rfl, if_neg hn, List.getElem?_eq_none (by simp; omega)]
  · rw [if_neg hij, List.getElem?_map]
    cases h : (List.range n)[j]? with
    | none => rfl
    | some y =>
      obtain ⟨h1, h2⟩ := List.getElem?_eq_some_iff.1 h
      rw [List.getElem_range] at h2
      subst h2
      simp [Ne.symm hij]
theorem given_zero {t : Tys} {a : Nat} (hv : (validR t).2 = 0) (ha : a < t.nodes.length) : givenR t [(a : Int)] = 0 := by
  unfold givenR
  rw [if_neg (Decidable.not_not.2 hv), if_neg]
  simp only [List.any_cons, List.any_nil, Bool.or_false, outB, decide_eq_true_eq]
  omega
theorem bel_row {t : Tys} {a : Nat} {l : List Int} (hl : l = ((List.range t.nodes.length).map fun (i : Nat) => (i : Int)).filter (fun b => decide ((a : Int) ∈ up t.nodes b))) : (List.range t.nodes.length).map (fun b : Nat => decide ((b : Int) ∈ l)) = (List.range t.nodes.length).map fun (b : Nat) => okT t a b := by
  refine List.map_congr_left fun b hb => ?_
  unfold okT
  subst hl
  have hb := List.mem_range.1 hb
  by_cases h : (a : Int) ∈ up t.nodes b
  · rw [decide_eq_true h, decide_eq_true]
    simp only [List.mem_filter, List.mem_map, List.mem_range, decide_eq_true_eq]
    exact ⟨⟨b, hb, rfl⟩, h⟩
  · rw [decide_eq_false h, decide_eq_false]
    simp only [List.mem_filter, decide_eq_true_eq]
    exact fun hh => h hh.2
theorem sbelow_spec (t : Tys) (ht : Small t) (hv : (validR t).2 = 0) : Pure Tryz.prog 124 [tysA t] (tabA (tabT t)) := by
  have lt : (t.nodes.map cNod).length = t.nodes.length := by simp
  have htn := ht.nodes
  have ltab : (tabT t).length = t.nodes.length := by simp [tabT]
  have hB := fun (a : Nat) (ha : a < t.nodes.length) => show belR t a = _ from if_neg (Decidable.not_not.2 (given_zero hv ha))
  refine a_enter Tryz.func124 (by kernel_rfl) rfl Tryz.ntmps124 rfl (by simp) ?_
  refine a_seq ?_
  refine a_reg ?_
  repeat (first | refine gZ pk ?_ | (show AL _ _ _ _ _ _ _; first | refine jB (fun u => ?_)))
  refine a_frzBox 0 1 rfl rfl ?_
  repeat (first | refine gA pk ?_)
  rw [lt]
  refine a_loopG2 (fun (k : Nat) (vo : Value) => [(1, tysP t), (3, .lit vo), (12, AI t.nodes.length), (13, AI k)]) (fun k vo => [(vo, .row 202 1 (((tabT t).take k).map cRow))]) (fun k vo => k ≤ t.nodes.length) (fun k _ => t.nodes.length - k) 0 (.slice none 0 0) (Nat.zero_le _) (.sub (by exact subQ) (.free (OSub.none _))) ?_
  intro k vo hk
  have lto : (((tabT t).take k).map cRow).length = k := by rw [List.length_map, List.length_take]; omega
  rcases Nat.lt_or_ge k t.nodes.length with h | h
  · have s1 := Below_spec t ht k
    rw [hB k h] at s1
    obtain ⟨l, hl⟩ : ∃ l, ((List.range t.nodes.length).map fun (i : Nat) => (i : Int)).filter (fun b => decide ((k : Int) ∈ up t.nodes b)) = l := ⟨_, rfl⟩
    have hrow := bel_row hl.symm
    have hmem : ∀ x ∈ l, ∃ b : Nat, x = b ∧ b < t.nodes.length := fun x hx => by
      rw [← hl] at hx
      obtain ⟨b, hb, rfl⟩ := List.mem_map.1 (List.mem_filter.1 hx).1
      exact ⟨b, rfl, List.mem_range.1 hb⟩
    have hll : l.length ≤ t.nodes.length := by
      rw [← hl]
      exact Nat.le_trans (List.length_filter_le _ _) (by simp)
    rw [hl] at s1
    have ll : (rowI l).length = l.length := by simp
    have z1 : List.replicate (((t.nodes.map cNod).length : Int)).toNat (List.map AV.lit [Value.bool false]) = ((List.range t.nodes.length).map fun (b : Nat) => decide ((b : Int) ∈ l.take 0)).map cB := by
      rw [lt, List.take_zero, List.map_map]
      refine List.ext_getElem? fun i => ?_
      simp only [List.getElem?_replicate, List.getElem?_map, Int.toNat_natCast]
      by_cases hi : i < t.nodes.length
      · rw [if_pos hi, List.getElem?_range hi]; rfl
      · rw [if_neg hi, List.getElem?_eq_none (by simp; omega)]; rfl
    have htk : (tabT t).take (k + 1) = (tabT t).take k ++ [(List.range t.nodes.length).map fun (b : Nat) => decide ((b : Int) ∈ l)] := by
      have : (tabT t)[k]? = some ((List.range t.nodes.length).map fun (b : Nat) => decide ((b : Int) ∈ l)) := by
        unfold tabT
        rw [List.getElem?_map, List.getElem?_range h, hrow]; rfl
      rw [List.take_add_one, this]; rfl
    repeat (first | refine gA pk ?_ | (show AL _ _ _ _ _ _ _; first | refine s_makeQ tok rfl rfl rfl rfl rfl rfl rfl rfl z1 (by omega) (by omega) (by simp; omega) (by omega) (fun a m j => ?_) | refine jP s1 ?_))
    rw [ll]
    refine a_loopX (fun i : Nat => [(1, tysP t), (3, .lit vo), (5, .lit (.slice a m j)), (12, AI t.nodes.length), (13, AI k), (26, ints l), (27, AI l.length), (28, AI i)]) (fun i => [(.slice a m j, .row 4 1 (((List.range t.nodes.length).map fun (b : Nat) => decide ((b : Int) ∈ l.take i)).map cB)), (vo, .row 202 1 (((tabT t).take k).map cRow))]) (fun i => i ≤ l.length) (fun i => l.length - i) 0 (Nat.zero_le _) ?_ (OSub.refl _) ?_
    · exact subQ
    · intro i hi
      rcases Nat.lt_or_ge i l.length with h2 | h2
      · have hx := List.getElem?_eq_getElem h2
        obtain ⟨b, hb, hbn⟩ := hmem _ (List.getElem_mem h2)
        rw [hb] at hx
        have xk : (rowI l)[(i : Int).toNat]? = some [AI b] := map_get (f := cI) hx
        have lrow : ((List.range t.nodes.length).map fun (b : Nat) => decide ((b : Int) ∈ l.take i)).length = t.nodes.length := by simp
        have lrow' : (((List.range t.nodes.length).map fun (b : Nat) => decide ((b : Int) ∈ l.take i)).map cB).length = t.nodes.length := by simp
        have hset : ((List.range t.nodes.length).map fun (b : Nat) => decide ((b : Int) ∈ l.take i)).set b true = (List.range t.nodes.length).map fun (b : Nat) => decide ((b : Int) ∈ l.take (i + 1)) := by
          rw [range_set]
          refine List.map_congr_left fun b' _ => ?_
          rw [List.take_add_one, hx]
          by_cases hbb : b' = b
          · subst hbb; rw [if_pos rfl]; simp
          · rw [if_neg hbb]
            have : ¬ ((b' : Int) = (b : Int)) := by omega
            simp [this]
        generalize ((List.range t.nodes.length).map fun (b : Nat) => decide ((b : Int) ∈ l.take i)) = R at *
        repeat (first | refine gA pk ?_ | (show AL _ _ _ _ _ _ _; first | refine jX tok xk ?_ | refine s_ownIndex tok 0 rfl rfl rfl rfl (by decide) rfl rfl rfl rfl rfl rfl (by omega) (by omega) ?_ | refine s_storeBl tok 0 rfl rfl rfl rfl rfl rfl rfl rfl (by omega) ?_))
        refine ⟨i + 1, by omega, by omega, by exact subQ, ?_⟩
        rw [← hset]
        exact OSub.refl _
      · obtain rfl : i = l.length := by omega
        rw [List.take_length]
        refine a_frz 0 5 rfl rfl ?_
        repeat (first | refine gA pk ?_ | (show AL _ _ _ _ _ _ _; first | refine s_build1M tok rfl rfl rfl rfl rfl rfl rfl (fun lv => ?_) | refine s_append1K tok 0 rfl rfl rfl rfl rfl rfl (by decide) rfl rfl rfl rfl (by omega) (by omega) (fun w hw => ?_)))
        refine ⟨k + 1, w, by omega, by omega, .sub (by exact subQ) ?_⟩
        rw [htk, List.map_append]
        exact OSub.refl _
  · obtain rfl : k = t.nodes.length := by omega
    rw [← ltab, List.take_length]
    refine a_frz 0 3 rfl rfl ?_
    repeat (first | refine gA pk ?_)
    refine finQ ?_
    exact ⟨rfl, rfl⟩
end Go.Proofs.YtddohheabpiljaaGreat

end
