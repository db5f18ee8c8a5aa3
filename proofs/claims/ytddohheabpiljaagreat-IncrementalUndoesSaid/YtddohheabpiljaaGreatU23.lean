/- Parts of a proof. -/
import Derived.Test.YtddohheabpiljaaGreatU22
set_option linter.unusedVariables false
set_option linter.unusedSimpArgs false
section
namespace Go.Proofs.YtddohheabpiljaaGreat
open Go.Sj Go.Sj.Typ Go.Sj.Sta Go.Sj.Inc
set_option maxRecDepth 8000
set_option maxHeartbeats 16000000
abbrev rsA (t : Tys) (S : Sea) (a b : List Int) (most : Int) (Z : AV) : List AV := [nodsA t.nodes, edgsA t.edges, ints S.p.nodes, edsA S.p.edges, ints S.g.nodes, edsA S.g.edges, ints a, ints b, AB S.inj, AI most, Z]
theorem gused_spec (t : Tys) (S : Sea) (a b : List Int) (most : Int) (Z : AV) (l : List Int) (hl : l.length ≤ 1000) (n : Int) :
    Pure Tryz.prog 128 [.ip (rsA t S a b most Z), ints l, AI n] (AB (S.inj && decide (n ∈ l))) := by
  have ll : (rowI l).length = l.length := by simp
  obtain ⟨ij, hij⟩ : ∃ ij, S.inj = ij := ⟨_, rfl⟩
  obtain ⟨r, hr⟩ : ∃ r, (S.inj && decide (n ∈ l)) = r := ⟨_, rfl⟩
  rw [hr]
  unfold rsA
  rw [hij] at hr ⊢
  refine zen Tryz.func128 (by kernel_rfl) rfl Tryz.ntmps128 rfl (by simp) ?_
  repeat (first | refine gA pk ?_)
  refine zlx (fun k : Nat => [(0, .ip [nodsA t.nodes, edgsA t.edges, ints S.p.nodes, edsA S.p.edges, ints S.g.nodes, edsA S.g.edges, ints a, ints b, AB ij, AI most, Z]), (1, ints l), (2, AI n), (7, AI k)]) (fun _ => []) (fun k => k ≤ l.length ∧ ∀ x ∈ l.take k, x ≠ n) (fun k => l.length - k) 0 ⟨Nat.zero_le _, by simp⟩ ?_ (OSub.none _) ?_
  · exact subQ
  · rintro k ⟨hk, hno⟩
    rcases Nat.lt_or_ge k l.length with h | h
    · cases ij with
      | false =>
        have hr2 : r = false := by rw [← hr]; rfl
        subst hr2
        repeat (first | refine gA pk ?_)
        refine finQ ?_
        exact ⟨rfl, rfl⟩
      | true =>
        have hx := List.getElem?_eq_getElem h
        have hxm := List.getElem_mem h
        generalize l[k] = x at hx hxm
        have xk : (rowI l)[(k : Int).toNat]? = some [AI x] := zmp (f := cI) hx
        by_cases hxn : x = n
        · subst hxn
          have hr2 : r = true := by rw [← hr, decide_eq_true hxm]; rfl
          subst hr2
          repeat (first | refine gA pk ?_ | (show AL _ _ _ _ _ _ _; first | refine jX tok xk ?_))
          refine finQ ?_
          exact ⟨rfl, rfl⟩
        · repeat (first | refine gA pk ?_ | (show AL _ _ _ _ _ _ _; first | refine jX tok xk ?_))
          exact ⟨k + 1, ⟨by omega, fun z hz => by
            rw [List.take_add_one, hx] at hz
            rcases List.mem_append.1 hz with hz | hz
            · exact hno z hz
            · simp at hz; subst hz; exact hxn⟩, by omega, by exact subQ, OSub.none _⟩
    · obtain rfl : k = l.length := by omega
      rw [List.take_length] at hno
      have hr2 : r = false := by rw [← hr, decide_eq_false (fun hm => hno n hm rfl), Bool.and_false]
      subst hr2
      repeat (first | refine gA pk ?_)
      refine finQ ?_
      exact ⟨rfl, rfl⟩
theorem gfits_rec (t : Tys) (S : Sea) (hS : SeaOk S) (a b : List Int) (most : Int) (Z : AV) (ns : List Int) (hn : ns.length ≤ 1000) :
    Pure Tryz.prog 126 [.ip (rsA t S a b most Z), ints ns] (AB (gfitB S ns)) := by
  have hpl := hS.p.el
  have hgl := hS.g.el
  have lp : (S.p.edges.map cEd).length = S.p.edges.length := by simp
  have lg : (S.g.edges.map cEd).length = S.g.edges.length := by simp
  have ln : (rowI ns).length = ns.length := by simp
  obtain ⟨r, hr⟩ : ∃ r, gfitB S ns = r := ⟨_, rfl⟩
  rw [hr]
  refine zen Tryz.func126 (by kernel_rfl) rfl Tryz.ntmps126 rfl (by simp) ?_
  repeat (first | refine gA pk ?_)
  refine zlx (fun i : Nat => [(0, .ip (rsA t S a b most Z)), (1, ints ns), (5, AI i)]) (fun _ => []) (fun i => i ≤ S.p.edges.length ∧ ∀ (j : Nat) (x : Ed), j < i → S.p.edges[j]? = some x → gfitT S ns x j = true) (fun i => S.p.edges.length - i) 0 ⟨Nat.zero_le _, fun j x hj => (by omega)⟩ ?_ (OSub.none _) ?_
  · exact subQ
  · rintro i ⟨hi, hall⟩
    rcases Nat.lt_or_ge i S.p.edges.length with h | h
    · have hx := List.getElem?_eq_getElem h
      have hxe := (hS.p.edges _ (List.getElem_mem h)).2
      generalize S.p.edges[i] = x at hx hxe
      obtain ⟨x1, x2, x3⟩ := x
      simp only at hxe
      have xk : (S.p.edges.map cEd)[(i : Int).toNat]? = some [AI x1, AI x2, AI x3] := zmp (f := cEd) hx
      have hnext : gfitT S ns ⟨x1, x2, x3⟩ i = true → ∀ (j : Nat) (x : Ed), j < i + 1 → S.p.edges[j]? = some x → gfitT S ns x j = true := fun ht j x hj hjx => by
        rcases Nat.lt_or_ge j i with h2 | h2
        · exact hall j x h2 hjx
        · obtain rfl : j = i := by omega
          rw [hx] at hjx
          cases hjx
          exact ht
      by_cases h1 : x2 < ns.length
      · by_cases h3 : x3 < ns.length
        · have hn2 := List.getElem?_eq_getElem (l := ns) (i := x2.toNat) (by omega)
          have hn3 := List.getElem?_eq_getElem (l := ns) (i := x3.toNat) (by omega)
          generalize ns[x2.toNat]'(by omega) = n2 at *
          generalize ns[x3.toNat]'(by omega) = n3 at *
          have k2 : (rowI ns)[x2.toNat]? = some [AI n2] := zmp (f := cI) hn2
          have k3 : (rowI ns)[x3.toNat]? = some [AI n3] := zmp (f := cI) hn3
          repeat (first | refine gN pk ?_ | (show AL _ _ _ _ _ _ _; first | refine jX tok xk ?_ | refine jL tok (fun u => ?_) | refine jS tok 0 ?_ | refine jO tok 0 ?_))
          refine zfb 0 6 rfl rfl ?_
          have hsucc : ∀ k, (List.range (k + 1)).any (eqE S ns i) = ((List.range k).any (eqE S ns i) || eqE S ns i k) := fun k => by rw [List.range_succ, List.any_append]; simp
          refine zlx (fun k : Nat => [(0, .ip (rsA t S a b most Z)), (1, ints ns), (5, AI i), (6, .ip [AI x1, AI x2, AI x3]), (7, AB ((List.range k).any (eqE S ns i))), (8, AI k)]) (fun _ => []) (fun k => k ≤ S.g.edges.length) (fun k => S.g.edges.length - k) 0 (Nat.zero_le _) ?_ (OSub.none _) ?_
          · exact subQ
          · intro k hk
            rcases Nat.lt_or_ge k S.g.edges.length with h4 | h4
            · have hy := List.getElem?_eq_getElem h4
              have heq : eqE S ns i k = (decide (S.g.edges[k].ty = x1) && (decide (S.g.edges[k].fr = n2) && decide (S.g.edges[k].to = n3))) := by
                unfold eqE
                rw [hx, hy]
                simp only [List.getD_eq_getElem?_getD, hn2, hn3, Option.getD_some]
              have hsk := hsucc k
              generalize S.g.edges[k] = y at hy heq
              obtain ⟨y1, y2, y3⟩ := y
              simp only at heq
              have yk : (S.g.edges.map cEd)[(k : Int).toNat]? = some [AI y1, AI y2, AI y3] := zmp (f := cEd) hy
              rw [heq] at hsk
              cases hok : (List.range k).any (eqE S ns i) with
              | true =>
                rw [hok, Bool.true_or] at hsk
                repeat (first | refine gN pk ?_ | (show AL _ _ _ _ _ _ _; first | refine jX tok yk ?_ | refine jL tok (fun u => ?_) | refine jS tok 0 ?_))
                refine zfb 0 9 rfl rfl ?_
                repeat (first | (show AWp _ _ _ _ _ _; first | refine a_regR mixed (by decide +kernel) ?_) | refine gN pk ?_)
                refine ⟨k + 1, by omega, by omega, ?_, OSub.none _⟩
                show SubS _ (lk [(0, .ip (rsA t S a b most Z)), (1, ints ns), (5, AI i), (6, .ip [AI x1, AI x2, AI x3]), (7, AB ((List.range (k + 1)).any (eqE S ns i))), (8, AI ((k + 1 : Nat) : Int))])
                rw [hsk]
                exact subQ
              | false =>
                rw [hok, Bool.false_or] at hsk
                by_cases e1 : y1 = x1
                · by_cases e2 : y2 = n2
                  · by_cases e3 : y3 = n3
                    all_goals
                      rw [decide_eq_true e1, decide_eq_true e2] at hsk
                      first | rw [decide_eq_true e3] at hsk | rw [decide_eq_false e3] at hsk
                      simp only [Bool.and_true, Bool.and_false] at hsk
                      repeat (first | refine gN pk ?_ | (show AL _ _ _ _ _ _ _; first | refine jX tok yk ?_ | refine jL tok (fun u => ?_) | refine jS tok 0 ?_))
                      refine zfb 0 9 rfl rfl ?_
                      repeat (first | (show AWp _ _ _ _ _ _; first | refine a_regR mixed (by decide +kernel) ?_) | refine gN pk ?_ | (show AL _ _ _ _ _ _ _; first | refine jX tok k2 ?_ | refine jX tok k3 ?_))
                      refine ⟨k + 1, by omega, by omega, ?_, OSub.none _⟩
                      show SubS _ (lk [(0, .ip (rsA t S a b most Z)), (1, ints ns), (5, AI i), (6, .ip [AI x1, AI x2, AI x3]), (7, AB ((List.range (k + 1)).any (eqE S ns i))), (8, AI ((k + 1 : Nat) : Int))])
                      rw [hsk]
                      exact subQ
                  · rw [decide_eq_false e2, Bool.false_and, Bool.and_false] at hsk
                    repeat (first | refine gN pk ?_ | (show AL _ _ _ _ _ _ _; first | refine jX tok yk ?_ | refine jL tok (fun u => ?_) | refine jS tok 0 ?_))
                    refine zfb 0 9 rfl rfl ?_
                    repeat (first | (show AWp _ _ _ _ _ _; first | refine a_regR mixed (by decide +kernel) ?_) | refine gN pk ?_ | (show AL _ _ _ _ _ _ _; first | refine jX tok k2 ?_ | refine jX tok k3 ?_))
                    refine ⟨k + 1, by omega, by omega, ?_, OSub.none _⟩
                    show SubS _ (lk [(0, .ip (rsA t S a b most Z)), (1, ints ns), (5, AI i), (6, .ip [AI x1, AI x2, AI x3]), (7, AB ((List.range (k + 1)).any (eqE S ns i))), (8, AI ((k + 1 : Nat) : Int))])
                    rw [hsk]
                    exact subQ
                · rw [decide_eq_false e1, Bool.false_and] at hsk
                  repeat (first | refine gN pk ?_ | (show AL _ _ _ _ _ _ _; first | refine jX tok yk ?_ | refine jL tok (fun u => ?_) | refine jS tok 0 ?_))
                  refine zfb 0 9 rfl rfl ?_
                  repeat (first | (show AWp _ _ _ _ _ _; first | refine a_regR mixed (by decide +kernel) ?_) | refine gN pk ?_ | (show AL _ _ _ _ _ _ _; first | refine jX tok k2 ?_ | refine jX tok k3 ?_))
                  refine ⟨k + 1, by omega, by omega, ?_, OSub.none _⟩
                  show SubS _ (lk [(0, .ip (rsA t S a b most Z)), (1, ints ns), (5, AI i), (6, .ip [AI x1, AI x2, AI x3]), (7, AB ((List.range (k + 1)).any (eqE S ns i))), (8, AI ((k + 1 : Nat) : Int))])
                  rw [hsk]
                  exact subQ
            · obtain rfl : k = S.g.edges.length := by omega
              have ht : gfitT S ns ⟨x1, x2, x3⟩ i = (List.range S.g.edges.length).any (eqE S ns i) := by
                unfold gfitT
                simp [h1, h3]
              rw [← ht]
              cases hv : gfitT S ns ⟨x1, x2, x3⟩ i with
              | true =>
                repeat (first | refine gA pk ?_)
                exact ⟨i + 1, ⟨by omega, hnext hv⟩, by omega, by exact subQ, OSub.none _⟩
              | false =>
                rw [gfitB_false hx hv] at hr
                subst hr
                repeat (first | refine gA pk ?_)
                refine finQ ?_
                exact ⟨rfl, rfl⟩
        · have ht : gfitT S ns ⟨x1, x2, x3⟩ i = true := by unfold gfitT; simp [h3]
          repeat (first | refine gA pk ?_ | (show AL _ _ _ _ _ _ _; first | refine jX tok xk ?_ | refine jL tok (fun u => ?_) | refine jS tok 0 ?_ | refine jO tok 0 ?_))
          exact ⟨i + 1, ⟨by omega, hnext ht⟩, by omega, by exact subQ, OSub.none _⟩
      · have ht : gfitT S ns ⟨x1, x2, x3⟩ i = true := by unfold gfitT; simp [h1]
        repeat (first | refine gA pk ?_ | (show AL _ _ _ _ _ _ _; first | refine jX tok xk ?_ | refine jL tok (fun u => ?_) | refine jS tok 0 ?_ | refine jO tok 0 ?_))
        exact ⟨i + 1, ⟨by omega, hnext ht⟩, by omega, by exact subQ, OSub.none _⟩
    · obtain rfl : i = S.p.edges.length := by omega
      rw [gfitB_true (fun j x hj => hall j x (List.getElem?_eq_some_iff.1 hj).1 hj)] at hr
      subst hr
      repeat (first | refine gA pk ?_)
      refine finQ ?_
      exact ⟨rfl, rfl⟩
end Go.Proofs.YtddohheabpiljaaGreat
end
section
namespace Go.Proofs.YtddohheabpiljaaGreat
open Go.Sj Go.Sj.Typ Go.Sj.Sta
set_option maxRecDepth 8000
set_option maxHeartbeats 8000000
theorem cI_cell (l : List Int) : (rowI l).all (fun e => e.all AV.cell) = true := List.all_eq_true.2 fun x hx => by
  obtain ⟨a, _, rfl⟩ := List.mem_map.1 hx; rfl
theorem cEd_cell (l : List Ed) : (l.map cEd).all (fun e => e.all AV.cell) = true := List.all_eq_true.2 fun x hx => by
  obtain ⟨a, _, rfl⟩ := List.mem_map.1 hx; rfl
theorem CloneN_spec (l : List Int) (hs : l.length ≤ 1099511627776) : Gives Tryz.prog 59 [ints l] 3 1 (rowI l) := by
  have ll : (rowI l).length = l.length := by simp
  refine zen Tryz.func59 (by kernel_rfl) rfl Tryz.ntmps59 rfl (by simp) ?_
  repeat (first | refine gA pk ?_)
  refine s_eqNil tok rfl rfl rfl rfl rfl rfl (fun h => ?_) ?_
  · repeat (first | refine gA pk ?_)
    refine fin (x := .lit _) (.inr rfl) rfl (Sub.refl _) ⟨_, rfl, rfl⟩ ?_
    rw [h]
    exact .free .nil
  · repeat (first | refine gA pk ?_ | (show AL _ _ _ _ _ _ _; first | refine s_build tok (parts := []) rfl rfl rfl rfl rfl rfl rfl rfl (by decide) (by decide) (fun v => ?_)))
    refine s_appendIm tok 0 rfl rfl rfl rfl rfl rfl (by decide) rfl rfl rfl rfl (cI_cell l) (by simp only [ll, List.length_nil]; omega) (by simp only [ll, List.length_nil]; omega) (fun v' => ?_)
    repeat (first | refine gA pk ?_)
    refine finR ?_
    exact ⟨_, rfl, rfl⟩
theorem CloneG_spec (l : List Ed) (hs : l.length ≤ 1099511627776) : Gives Tryz.prog 60 [edsA l] 85 3 (l.map cEd) := by
  have ll : (l.map cEd).length = l.length := by simp
  refine zen Tryz.func60 (by kernel_rfl) rfl Tryz.ntmps60 rfl (by simp) ?_
  repeat (first | refine gA pk ?_)
  refine s_eqNil tok rfl rfl rfl rfl rfl rfl (fun h => ?_) ?_
  · repeat (first | refine gA pk ?_)
    refine fin (x := .lit _) (.inr rfl) rfl (Sub.refl _) ⟨_, rfl, rfl⟩ ?_
    rw [h]
    exact .free .nil
  · repeat (first | refine gA pk ?_ | (show AL _ _ _ _ _ _ _; first | refine s_build tok (parts := []) rfl rfl rfl rfl rfl rfl rfl rfl (by decide) (by decide) (fun v => ?_)))
    refine s_appendIm tok 0 rfl rfl rfl rfl rfl rfl (by decide) rfl rfl rfl rfl (cEd_cell l) (by simp only [ll, List.length_nil]; omega) (by simp only [ll, List.length_nil]; omega) (fun v' => ?_)
    repeat (first | refine gA pk ?_)
    refine finR ?_
    exact ⟨_, rfl, rfl⟩
end Go.Proofs.YtddohheabpiljaaGreat
end
section
namespace Go.Sj
set_option maxRecDepth 8000
section
variable {P : Program} {N : Nat} {ops : List Oper} {Q : St → Own → Prop} {L : Own} {rest : List (Oper × Kd)} {l : List (Nat × AV)} {k : Kd} {q : Nat}
theorem zsb {tt : List (TypeId × TD)} (ok : TOK P tt) (i : Nat) {o : Oper} {T : TypeId} {x y : Operand} {d : TD} {v u : Value} {off : Nat} {cells cs : List AV}
    (ho : o.op = .store T x y) (hdst : o.dst = none) (hg : guardA ops o (lk l) = some true) (hT : lkT tt T = some d) (hd1 : d.size = 1) (hx : ev (lk l) x = .pt v 0 0 off) (hy : ev (lk l) y = .lit u) (hu : u.oneCell' = true) (hL : L[i]? = some (v, .box cells)) (hoff : off < cells.length) (hcs : cells.set off (.lit u) = cs)
    (n : AL P N ops Q rest (lk l) (L.set i (v, .box cs))) : AL P N ops Q ((o, .eff) :: rest) (lk l) L := by
  subst hcs
  refine s_store ok i ho hdst hg hT hx hy (by simpa [AV.storable, AV.cell] using hu) (by rw [hd1]; rfl) (by omega) hL rfl (cells := cells.drop off) rfl (by simp [AV.cells]; omega) ?_
  exact n
end
end Go.Sj
end
