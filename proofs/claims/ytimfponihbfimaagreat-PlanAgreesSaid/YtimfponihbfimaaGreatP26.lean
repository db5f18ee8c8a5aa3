/- Parts of a proof. -/
import Derived.Test.YtimfponihbfimaaGreatP25
set_option linter.unusedVariables false
set_option linter.unusedSimpArgs false
section
namespace Go.Proofs.YtimfponihbfimaaGreat
open Go.Sj Go.Sj.Typ Go.Sj.Sta Go.Sj.Inc
set_option maxRecDepth 8000
set_option maxHeartbeats 16000000
theorem se_edge : SE Tryz.prog 112 3 := se_of Tryz.underlying112 (by kernel_rfl) (by kernel_rfl) rfl (by kernel_rfl)
abbrev toIE (e : Ed) : List Int := [e.ty, e.fr, e.to]
theorem toIE_eq {a b : Ed} : toIE a = toIE b ↔ a = b := by
  obtain ⟨a1, a2, a3⟩ := a
  obtain ⟨b1, b2, b3⟩ := b
  simp [toIE]
abbrev cMo (m : Mo) : List AV := [ints m.1, ints m.2]
abbrev mosA (l : List Mo) : AV := .im 2 (l.map cMo)
abbrev fdA (S : Sea) (tb : AV) (X Y Z : AV) (most : Int) : List AV := [ints S.p.nodes, edsA S.p.edges, ints S.g.nodes, edsA S.g.edges, tb, optA S.pn, optA S.pe, AB S.inj, AI most, X, Y, Z]
structure SeaOk (S : Sea) : Prop where
  p : GV S.p
  g : GV S.g
  pn : ∀ l, S.pn = some l → l.length = S.p.nodes.length
  pe : ∀ l, S.pe = some l → l.length = S.p.edges.length
theorem sfits_spec (S : Sea) (hS : SeaOk S) (tb Y Z : AV) (most : Int) (ns : List Int) (i k : Nat) (hns : ns.length ≤ 100) (hi : i < S.p.edges.length) (hk : k < S.g.edges.length) (hends : ∀ x, S.p.edges[i]? = some x → x.fr < ns.length ∧ x.to < ns.length) :
    Pure Tryz.prog 168 [.ip (fdA S tb (ints ns) Y Z most), AI i, AI k] (AB (fitB S ns i k)) := by
  have hpl := hS.p.el
  have hgl := hS.g.el
  have lp : (S.p.edges.map cEd).length = S.p.edges.length := by simp
  have lg : (S.g.edges.map cEd).length = S.g.edges.length := by simp
  have ln : (rowI ns).length = ns.length := by simp
  have s1 := sgiven_spec S.pe i (fun x hx => by have := hS.pe x hx; omega)
  have hx := List.getElem?_eq_getElem hi
  have hy := List.getElem?_eq_getElem hk
  obtain ⟨h1, h2⟩ := hends _ hx
  have hxe := (hS.p.edges _ (List.getElem_mem hi)).2
  have hfit : fitB S ns i k = (!offN S.pe i k && decide (S.g.edges[k] = ⟨S.p.edges[i].ty, ns.getD S.p.edges[i].fr.toNat 0, ns.getD S.p.edges[i].to.toNat 0⟩)) := by
    unfold fitB eqE
    rw [hx, hy]
    simp only
    congr 1
    generalize S.g.edges[k] = y
    obtain ⟨y1, y2, y3⟩ := y
    simp only [Ed.mk.injEq, Bool.decide_and]
  generalize S.p.edges[i] = x at *
  generalize S.g.edges[k] = y at *
  obtain ⟨x1, x2, x3⟩ := x
  simp only at h1 h2 hxe hfit
  have hn2 := List.getElem?_eq_getElem (l := ns) (i := x2.toNat) (by omega)
  have hn3 := List.getElem?_eq_getElem (l := ns) (i := x3.toNat) (by omega)
  rw [List.getD_eq_getElem?_getD, List.getD_eq_getElem?_getD, hn2, hn3] at hfit
  simp only [Option.getD_some] at hfit
  generalize ns[x2.toNat]'(by omega) = n2 at *
  generalize ns[x3.toNat]'(by omega) = n3 at *
  have xk : (S.p.edges.map cEd)[(i : Int).toNat]? = some [AI x1, AI x2, AI x3] := zmp (f := cEd) hx
  have yk : (S.g.edges.map cEd)[(k : Int).toNat]? = some (cEd y) := zmp (f := cEd) hy
  have k2 : (rowI ns)[x2.toNat]? = some [AI n2] := zmp (f := cI) hn2
  have k3 : (rowI ns)[x3.toNat]? = some [AI n3] := zmp (f := cI) hn3
  unfold offN at hfit
  rw [hfit]
  generalize gvn S.pe i = w at *
  by_cases hw : 0 ≤ w
  · by_cases hwk : w = k
    · rw [show (!(decide (0 ≤ w) && decide (w ≠ (k : Int)))) = true by simp [hwk], Bool.true_and]
      obtain ⟨b, hb⟩ : ∃ b, decide (y = ⟨x1, n2, n3⟩) = b := ⟨_, rfl⟩
      have hb' : decide (toIE y = toIE ⟨x1, n2, n3⟩) = b := by rw [← hb]; exact decide_eq_decide.2 toIE_eq
      rw [hb]
      refine zen Tryz.func168 (by kernel_rfl) rfl Tryz.ntmps168 rfl (by simp) ?_
      refine a_seq ?_
      repeat (first | refine gN pk ?_ | (show AL _ _ _ _ _ _ _; first | refine jX tok xk ?_ | refine jL tok (fun u => ?_) | refine jS tok 0 ?_ | refine jP s1 ?_ | refine s_pe (x := optA S.pe) tok rfl rfl rfl rfl ?_))
      refine zfb 0 7 rfl rfl ?_
      repeat (first | (show AWp _ _ _ _ _ _; first | refine a_regR mixed (by decide +kernel) ?_) | refine gN pk ?_ | (show AL _ _ _ _ _ _ _; first | refine jX tok yk ?_ | refine jX tok k2 ?_ | refine jX tok k3 ?_ | refine s_seq (b := b) (xs := toIE y) (ys := toIE ⟨x1, n2, n3⟩) se_edge rfl rfl rfl rfl rfl rfl rfl rfl hb' ?_))
      refine finQ ?_
      exact ⟨rfl, rfl⟩
    · rw [show (!(decide (0 ≤ w) && decide (w ≠ (k : Int)))) = false by simp [hw, hwk], Bool.false_and]
      refine zen Tryz.func168 (by kernel_rfl) rfl Tryz.ntmps168 rfl (by simp) ?_
      refine a_seq ?_
      repeat (first | refine gA pk ?_ | (show AL _ _ _ _ _ _ _; first | refine jX tok xk ?_ | refine jL tok (fun u => ?_) | refine jS tok 0 ?_ | refine jP s1 ?_ | refine s_pe (x := optA S.pe) tok rfl rfl rfl rfl ?_))
      refine finQ ?_
      exact ⟨rfl, rfl⟩
  · rw [show (!(decide (0 ≤ w) && decide (w ≠ (k : Int)))) = true by simp [hw], Bool.true_and]
    obtain ⟨b, hb⟩ : ∃ b, decide (y = ⟨x1, n2, n3⟩) = b := ⟨_, rfl⟩
    have hb' : decide (toIE y = toIE ⟨x1, n2, n3⟩) = b := by rw [← hb]; exact decide_eq_decide.2 toIE_eq
    rw [hb]
    refine zen Tryz.func168 (by kernel_rfl) rfl Tryz.ntmps168 rfl (by simp) ?_
    refine a_seq ?_
    repeat (first | refine gN pk ?_ | (show AL _ _ _ _ _ _ _; first | refine jX tok xk ?_ | refine jL tok (fun u => ?_) | refine jS tok 0 ?_ | refine jP s1 ?_ | refine s_pe (x := optA S.pe) tok rfl rfl rfl rfl ?_))
    refine zfb 0 7 rfl rfl ?_
    repeat (first | (show AWp _ _ _ _ _ _; first | refine a_regR mixed (by decide +kernel) ?_) | refine gN pk ?_ | (show AL _ _ _ _ _ _ _; first | refine jX tok yk ?_ | refine jX tok k2 ?_ | refine jX tok k3 ?_ | refine s_seq (b := b) (xs := toIE y) (ys := toIE ⟨x1, n2, n3⟩) se_edge rfl rfl rfl rfl rfl rfl rfl rfl hb' ?_))
    refine finQ ?_
    exact ⟨rfl, rfl⟩
def possB (S : Sea) (ns : List Int) : Bool := (List.range S.p.edges.length).all fun i => match S.p.edges[i]? with
  | some x => !decide (max x.fr x.to = (ns.length : Int) - 1) || (List.range S.g.edges.length).any (fitB S ns i)
  | none => true
theorem poss_dead {S : Sea} (hP : GV S.p) {ns es : List Int} {m : Nat} (h : possB S ns = false) (hm : m = remS S ns es) (hn : ns.length ≤ S.p.nodes.length) (he : es = []) : findL S m ns es = [] := by
  unfold possB at h
  obtain ⟨i, hi, hx⟩ := List.all_eq_false.1 h
  have hil := List.mem_range.1 hi
  have he1 := List.getElem?_eq_getElem hil
  have hin := (hP.edges _ (List.getElem_mem hil)).2
  rw [he1] at hx
  generalize S.p.edges[i] = x at *
  simp only [Bool.not_eq_true, Bool.or_eq_false_iff, Bool.not_eq_false', decide_eq_true_eq] at hx
  obtain ⟨h1, h2⟩ := hx
  subst he
  refine find_dead he1 m ns [] hm (by omega) (by omega) hn (Nat.zero_le _) (fun _ => rfl) (fun k hk => ?_)
  have := List.any_eq_false.1 h2 k (List.mem_range.2 hk)
  simpa using this
def possT (S : Sea) (ns : List Int) (x : Ed) (i : Nat) : Bool := !decide (max x.fr x.to = (ns.length : Int) - 1) || (List.range S.g.edges.length).any (fitB S ns i)
theorem possB_false {S : Sea} {ns : List Int} {i : Nat} {x : Ed} (hx : S.p.edges[i]? = some x) (h : possT S ns x i = false) : possB S ns = false := by
  refine List.all_eq_false.2 ⟨i, List.mem_range.2 (List.getElem?_eq_some_iff.1 hx).1, ?_⟩
  rw [hx]
  simpa [possT] using h
theorem possB_true {S : Sea} {ns : List Int} (h : ∀ (i : Nat) (x : Ed), S.p.edges[i]? = some x → possT S ns x i = true) : possB S ns = true := by
  refine List.all_eq_true.2 fun i hi => ?_
  have hx := List.getElem?_eq_getElem (List.mem_range.1 hi)
  rw [hx]
  exact h i _ hx
theorem spossible_spec (S : Sea) (hS : SeaOk S) (tb Y Z : AV) (most : Int) (ns : List Int) (hns : ns.length ≤ 100) :
    Pure Tryz.prog 167 [.ip (fdA S tb (ints ns) Y Z most)] (AB (possB S ns)) := by
  have hpl := hS.p.el
  have hgl := hS.g.el
  have lp : (S.p.edges.map cEd).length = S.p.edges.length := by simp
  have lg : (S.g.edges.map cEd).length = S.g.edges.length := by simp
  have ln : (rowI ns).length = ns.length := by simp
  obtain ⟨r, hr⟩ : ∃ r, possB S ns = r := ⟨_, rfl⟩
  rw [hr]
  refine zen Tryz.func167 (by kernel_rfl) rfl Tryz.ntmps167 rfl (by simp) ?_
  repeat (first | refine gA pk ?_)
  rw [lp, ln]
  refine zlx (fun i : Nat => [(0, .ip (fdA S tb (ints ns) Y Z most)), (3, AI ((ns.length : Int) - 1)), (18, edsA S.p.edges), (19, AI S.p.edges.length), (20, AI i)]) (fun _ => []) (fun i => i ≤ S.p.edges.length ∧ ∀ (j : Nat) (x : Ed), j < i → S.p.edges[j]? = some x → possT S ns x j = true) (fun i => S.p.edges.length - i) 0 ⟨Nat.zero_le _, fun j x hj => (by omega)⟩ ?_ (OSub.none _) ?_
  · exact subQ
  · rintro i ⟨hi, hall⟩
    rcases Nat.lt_or_ge i S.p.edges.length with h | h
    · have hx := List.getElem?_eq_getElem h
      have hxe := (hS.p.edges _ (List.getElem_mem h)).2
      generalize S.p.edges[i] = x at hx hxe
      obtain ⟨x1, x2, x3⟩ := x
      simp only at hxe
      have xk : (S.p.edges.map cEd)[(i : Int).toNat]? = some [AI x1, AI x2, AI x3] := zmp (f := cEd) hx
      have hnext : possT S ns ⟨x1, x2, x3⟩ i = true → ∀ (j : Nat) (x : Ed), j < i + 1 → S.p.edges[j]? = some x → possT S ns x j = true := fun ht j x hj hjx => by
        rcases Nat.lt_or_ge j i with h2 | h2
        · exact hall j x h2 hjx
        · obtain rfl : j = i := by omega
          rw [hx] at hjx
          cases hjx
          exact ht
      by_cases hm : max x2 x3 = (ns.length : Int) - 1
      · have s1 := fun (k : Nat) (hk : k < S.g.edges.length) => sfits_spec S hS tb Y Z most ns i k hns h hk (fun z hz => by rw [hx] at hz; cases hz; simp only; omega)
        repeat (first | refine gA pk ?_ | (show AL _ _ _ _ _ _ _; first | refine jX tok xk ?_ | refine jL tok (fun u => ?_) | refine jS tok 0 ?_ | refine jO tok 0 ?_ | refine s_max2 rfl rfl rfl rfl rfl ?_))
        rw [lg]
        refine zlx (fun k : Nat => [(0, .ip (fdA S tb (ints ns) Y Z most)), (3, AI ((ns.length : Int) - 1)), (4, AI i), (6, AB false), (18, edsA S.p.edges), (19, AI S.p.edges.length), (20, AI i), (37, AI S.g.edges.length), (38, AI k)]) (fun _ => []) (fun k => k ≤ S.g.edges.length ∧ ∀ j, j < k → fitB S ns i j = false) (fun k => S.g.edges.length - k) 0 ⟨Nat.zero_le _, fun j hj => (by omega)⟩ ?_ (OSub.none _) ?_
        · exact subQ
        · rintro k ⟨hk, hno⟩
          rcases Nat.lt_or_ge k S.g.edges.length with h2 | h2
          · have s2 := s1 k h2
            cases hf : fitB S ns i k with
            | true =>
              rw [hf] at s2
              have ht : possT S ns ⟨x1, x2, x3⟩ i = true := by
                unfold possT
                rw [List.any_eq_true.2 ⟨k, List.mem_range.2 h2, hf⟩, Bool.or_true]
              repeat (first | refine gA pk ?_ | (show AL _ _ _ _ _ _ _; first | refine jP s2 ?_))
              exact ⟨i + 1, ⟨by omega, hnext ht⟩, by omega, by exact subQ, OSub.none _⟩
            | false =>
              rw [hf] at s2
              repeat (first | refine gA pk ?_ | (show AL _ _ _ _ _ _ _; first | refine jP s2 ?_))
              exact ⟨k + 1, ⟨by omega, fun j hj => by rcases Nat.lt_or_ge j k with h3 | h3; exact hno j h3; obtain rfl : j = k := by omega
                                                      exact hf⟩, by omega, by exact subQ, OSub.none _⟩
          · obtain rfl : k = S.g.edges.length := by omega
            have ht : possT S ns ⟨x1, x2, x3⟩ i = false := by
              unfold possT
              rw [decide_eq_true hm, List.any_eq_false.2 (fun j hj => by rw [hno j (List.mem_range.1 hj)]; decide)]
              rfl
            rw [possB_false hx ht] at hr
            subst hr
            repeat (first | refine gA pk ?_)
            refine finQ ?_
            exact ⟨rfl, rfl⟩
      · have ht : possT S ns ⟨x1, x2, x3⟩ i = true := by
          unfold possT
          rw [decide_eq_false hm]
          rfl
        repeat (first | refine gA pk ?_ | (show AL _ _ _ _ _ _ _; first | refine jX tok xk ?_ | refine jL tok (fun u => ?_) | refine jS tok 0 ?_ | refine jO tok 0 ?_ | refine s_max2 rfl rfl rfl rfl rfl ?_))
        exact ⟨i + 1, ⟨by omega, hnext ht⟩, by omega, by exact subQ, OSub.none _⟩
    · obtain rfl : i = S.p.edges.length := by omega
      rw [possB_true (fun j x hj => hall j x (List.getElem?_eq_some_iff.1 hj).1 hj)] at hr
      subst hr
      repeat (first | refine gA pk ?_)
      refine finQ ?_
      exact ⟨rfl, rfl⟩
end Go.Proofs.YtimfponihbfimaaGreat
end
section
namespace Go.Proofs.YtimfponihbfimaaGreat
open Go.Sj Go.Sj.Typ Go.Sj.Sta
set_option maxRecDepth 8000
set_option maxHeartbeats 8000000
theorem cI_cell (l : List Int) : (rowI l).all (fun e => e.all AV.cell) = true := List.all_eq_true.2 fun x hx => by
  obtain ⟨a, _, rfl⟩ := List.mem_map.1 hx; rfl
theorem cEd_cell (l : List Ed) : (l.map cEd).all (fun e => e.all AV.cell) = true := List.all_eq_true.2 fun x hx => by
  obtain ⟨a, _, rfl⟩ := List.mem_map.1 hx; rfl
theorem CloneN_spec (l : List Int) (hs : l.length ≤ 1099511627776) : Gives Tryz.prog 122 [ints l] 3 1 (rowI l) := by
  have ll : (rowI l).length = l.length := by simp
  refine zen Tryz.func122 (by kernel_rfl) rfl Tryz.ntmps122 rfl (by simp) ?_
  repeat (first | refine gA pk ?_)
  refine s_eqNil tok rfl rfl rfl rfl rfl rfl (fun h => ?_) ?_
  · repeat (first | refine gA pk ?_)
    refine fin (x := .lit _) (.inr rfl) rfl (Sub.refl _) ⟨_, rfl, rfl⟩ ?_
    rw [h]
    exact .free .nil
  · repeat (first | refine gA pk ?_ | (show AL _ _ _ _ _ _ _; first | refine s_build tok (parts := []) rfl rfl rfl rfl rfl rfl rfl rfl (by decide) (by decide) (fun v => ?_)))
    refine s_appendIm tok 0 rfl rfl rfl rfl rfl rfl (by decide) rfl rfl rfl rfl (cI_cell l) (by simp only [ll, List.length_nil]; omega) (by simp only [ll, List.length_nil]; omega) (fun v' => ?_)
    repeat (first | refine gA pk ?_)
    refine finR ?_
    exact ⟨_, rfl, rfl⟩
end Go.Proofs.YtimfponihbfimaaGreat
end
section
namespace Go.Sj
set_option maxRecDepth 8000
section
variable {P : Program} {N : Nat} {ops : List Oper} {Q : St → Own → Prop} {L : Own} {rest : List (Oper × Kd)} {l : List (Nat × AV)} {k : Kd} {q : Nat}
theorem zsb {tt : List (TypeId × TD)} (ok : TOK P tt) (i : Nat) {o : Oper} {T : TypeId} {x y : Operand} {d : TD} {v u : Value} {off : Nat} {cells cs : List AV}
    (ho : o.op = .store T x y) (hdst : o.dst = none) (hg : guardA ops o (lk l) = some true) (hT : lkT tt T = some d) (hd1 : d.size = 1) (hx : ev (lk l) x = .pt v 0 0 off) (hy : ev (lk l) y = .lit u) (hu : u.oneCell' = true) (hL : L[i]? = some (v, .box cells)) (hoff : off < cells.length) (hcs : cells.set off (.lit u) = cs)
    (n : AL P N ops Q rest (lk l) (L.set i (v, .box cs))) : AL P N ops Q ((o, .eff) :: rest) (lk l) L := by
  subst hcs
  refine s_store ok i ho hdst hg hT hx hy (by simpa [AV.storable, AV.cell] using hu) (by rw [hd1]; rfl) (by omega) hL rfl (cells := cells.drop off) rfl (by simp [AV.cells]; omega) ?_
  exact n
end
end Go.Sj
end
