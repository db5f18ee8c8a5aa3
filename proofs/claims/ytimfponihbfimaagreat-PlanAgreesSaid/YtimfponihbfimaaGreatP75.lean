/- Parts of a proof. -/
import Derived.WalkKit
import Derived.WalkSpells
import Derived.WalkLawsBesides
import Derived.Deep.Draws
import Derived.Orders
import Derived.Still
import Derived.Laws.Cover3
import Derived.ProofKit
import Derived.WideKeyArgs
import Derived.OpenShut
import Derived.SizedLaws
import Derived.Laws.Externs
import Derived.Laws.Runes
import Derived.Handy
import Derived.Lib.AppendZerosOnto
import Derived.Lib.Overlaps
import Derived.Test.YtimfponihbfimaaGreatP01
import Derived.Test.YtimfponihbfimaaGreatP02
import Derived.Test.YtimfponihbfimaaGreatP03
import Derived.Test.YtimfponihbfimaaGreatP04
import Derived.Test.YtimfponihbfimaaGreatP05
import Derived.Test.YtimfponihbfimaaGreatP06
import Derived.Test.YtimfponihbfimaaGreatP07
import Derived.Test.YtimfponihbfimaaGreatP08
import Derived.Test.YtimfponihbfimaaGreatP09
import Derived.Test.YtimfponihbfimaaGreatP11
import Derived.Test.YtimfponihbfimaaGreatP12
import Derived.Test.YtimfponihbfimaaGreatP23
import Derived.Test.YtimfponihbfimaaGreatP24
import Derived.Test.YtimfponihbfimaaGreatP28
set_option linter.unusedVariables false
set_option linter.unusedSimpArgs false
section
namespace Go.Sj
section steps
variable {P : Program} {N : Nat} {ops : List Oper} {Q : St → Own → Prop} {L : Own} {rest : List (Oper × Kd)} {l : List (Nat × AV)} {k : Kd} {q : Nat}
section heads
variable {tt : List (TypeId × TD)} (ok : TOK P tt) {o : Oper} (hdst : o.dst = some q) (hd : Nat.blt q N = true) (hg : guardA ops o (lk l) = some true)
include ok hdst hd hg
end heads
theorem s_rem {o : Oper} {T T' : TypeId} {x y : Operand} {kk : IntKind} {a b : Int} (ho : o.op = .binOp .rem T x y T') (hdst : o.dst = some q) (hd : Nat.blt q N = true) (hg : guardA ops o (lk l) = some true)
    (hx : ev (lk l) x = .lit (.int kk a)) (hy : ev (lk l) y = .lit (.int kk b)) (ha : 0 ≤ a) (hb : 0 < b)
    (n : AL P N ops Q rest (lk ((q, .lit (.int kk (a % b))) :: l)) L) : AL P N ops Q ((o, k) :: rest) (lk l) L := by
  obtain ⟨dst, op', ty, pos, after, g⟩ := o
  simp only at ho
  subst ho
  refine s_pure hdst hd hg ⟨fun σ F w ρ hR hρ => ⟨.int kk (a % b), ?_, .lit _⟩⟩ n
  have h1 := hρ x (by simp [Op.operands])
  have h2 := hρ y (by simp [Op.operands])
  rw [hx] at h1
  rw [hy] at h2
  have hb0 : b ≠ 0 := by omega
  simp [execOp, h1.lit_inv, h2.lit_inv, eqGuard, binOp, Op.intDiv, hb0, Int.tmod_eq_emod_of_nonneg ha]
end steps
end Go.Sj
namespace Go.Sj
section
variable {P : Program} {N : Nat} {ops : List Oper} {Q : St → Own → Prop} {L : Own} {rest : List (Oper × Kd)} {l : List (Nat × AV)} {k : Kd} {q : Nat}
end
end Go.Sj
namespace Go.Sj
end Go.Sj
namespace Go.Sj
section
variable {P : Program} {N : Nat} {ops : List Oper} {Q : St → Own → Prop} {L : Own} {rest : List (Oper × Kd)} {l : List (Nat × AV)} {k : Kd} {q : Nat}
end
end Go.Sj
end
section
namespace Go.Sj
theorem a_freeze {P : Program} {N : Nat} {c : Code} {Q : Exit → St → Own → Prop} {st : St} {L : Own} (i : Nat) {v : Value} {E sz : Nat} {es : List (List AV)} (hL : L[i]? = some (v, .row E sz es)) (st' : St) (hst : FZS v sz es st st') (M : Own) (hM : FZO v sz es (L.eraseIdx i) M)
    (k : AWp P N c Q st' M) : AWp P N c Q st L :=
  ⟨fun σ F w a hr ht => by
    obtain ⟨h1, h2⟩ := (hr.at hL).freeze hM
    have ht' : TR (frz σ w v) N st' a := ⟨ht.defers, ht.size, fun j => hst j _ _ h2 ((ht.mono (frz_le σ w v)).vals j)⟩
    exact wp_mono (k.out _ F w a h1 ht') fun e a' w' hp => hp.le (frz_le σ w v)⟩
end Go.Sj
namespace Go.Sj
section
variable {P : Program} {N : Nat} {ops : List Oper} {Q : St → Own → Prop} {L : Own} {rest : List (Oper × Kd)} {l : List (Nat × AV)} {k : Kd} {q : Nat}
end
end Go.Sj
namespace Go.Sj
section
variable {P : Program} {N : Nat} {ops : List Oper} {Q : St → Own → Prop} {L : Own} {rest : List (Oper × Kd)} {l : List (Nat × AV)} {q : Nat}
end
end Go.Sj
namespace Go.Sj
section
variable {P : Program} {N : Nat} {ops : List Oper} {Q : St → Own → Prop} {L : Own} {rest : List (Oper × Kd)} {l : List (Nat × AV)} {k : Kd} {q : Nat}
theorem s_loadI {tt : List (TypeId × TD)} (ok : TOK P tt) (i : Nat) {o : Oper} {T : TypeId} {x : Operand} {d : TD} {v : Value} {E j : Nat} {xs : List Int} {a : Int}
    (ho : o.op = .load T x) (hdst : o.dst = some q) (hd : Nat.blt q N = true) (hg : guardA ops o (lk l) = some true) (hk : k ≠ .pure) (hT : lkT tt T = some d) (ha : d.isAgg = false) (hx : ev (lk l) x = .pt v 1 j 0) (hL : L[i]? = some (v, .row E 1 (rowI xs))) (hj : xs[j]? = some a)
    (n : AL P N ops Q rest (lk ((q, AI a) :: l)) L) : AL P N ops Q ((o, k) :: rest) (lk l) L :=
  s_ownLoad ok i ho hdst hd hg hk hT hx hL rfl (cells := [AI a]) (by simp only [obAt, zmp hj]; rfl) (by simp [partA, ha]) (by simp) n
end
end Go.Sj
end
section
namespace Go.Sj
open Go.ChangeShapes Go.WideShapes Go.ChangeAt Go.RowKit
theorem reads_arr {P : Program} {t e n : Nat} {k : IntKind} (ht : P.underlying t = some (.array n e)) (he : P.underlying e = some (.int k)) (hc : P.cellsOf e = 1) (hct : P.cellsOf t = n) (hn : 0 < n) :
    Reads P t n (fun l : List Int => l.map fun m => .lit (.int k m)) (fun l => l.length = n ∧ ∀ m ∈ l, (Lit.int k m).wf = true) :=
  ⟨hct, hn, fun l h => by simp [h.1], fun {H enc w base sp held fuel cs x} h => by
    obtain ⟨xs, m, _, _, hl, hxl, hi⟩ := DataW.trod_array ht h
    rw [hct] at hl
    have each : ∀ i, i < n → ∃ z : Int, cs[i]? = some (.int k z) ∧ (Lit.int k z).wf = true := by
      intro i hin
      have := hi i hin
      rw [List.getElem?_eq_getElem (by omega)] at this
      obtain ⟨z, hz, _, hw⟩ := DataW.trod_int he this
      rw [hc, Nat.mul_one] at hz
      refine ⟨z, ?_, hw⟩
      have := congrArg (·[0]?) hz
      simpa [List.getElem?_take] using this
    obtain ⟨l, hll, hr⟩ := list_of n each
    refine ⟨l, ⟨hll, fun z hz => ?_⟩, by simp [hl, hll], fun j a y ha hy => ?_⟩
    · obtain ⟨i, hi', rfl⟩ := List.mem_iff_getElem.1 hz
      exact (hr i _ (List.getElem?_eq_getElem hi')).2
    · rw [List.getElem?_map] at ha
      cases hlj : l[j]? with
      | none => rw [hlj] at ha; cases ha
      | some z =>
        rw [hlj] at ha
        simp at ha
        subst ha
        have := (hr j z hlj).1
        rw [hy] at this
        cases this
        exact .lit _⟩
variable {H : Type} {enc : TypeId × Value → H} {P : Program}
end Go.Sj
namespace Go.Sj
open Go.ChangeShapes Go.WideShapes Go.ChangeAt Go.RowKit
end Go.Sj
namespace Go.Sj
open Go.ChangeShapes Go.WideShapes Go.ChangeAt Go.RowKit
end Go.Sj
end
section
namespace Go.Sj
section
variable {N : Nat} {st st' st'' : St} {L L' L'' : Own}
end
theorem a_know {P : Program} {N : Nat} {c : Code} {Q : Exit → St → Own → Prop} {st : St} {L : Own} (i : Nat) {v : Value} {E sz : Nat} {es : List (List AV)} (hL : L[i]? = some (v, .row E sz es)) (k : v.oneCell' = true → AWp P N c Q st L) : AWp P N c Q st L :=
  ⟨fun σ F w a h1 h2 => (k (own_row_cell (h1.own1 hL))).out σ F w a h1 h2⟩
end Go.Sj
namespace Go.Sj
end Go.Sj
namespace Go.Sj
section
variable {P : Program} {N : Nat} {ops : List Oper} {Q : St → Own → Prop} {L : Own} {rest : List (Oper × Kd)} {l : List (Nat × AV)} {k : Kd} {q : Nat}
theorem s_arrIp {tt : List (TypeId × TD)} (ok : TOK P tt) {o : Oper} {T : TypeId} {x y : Operand} {E m s1 b1 : Nat} {z1 : List Value} {d : TD} {cells : List AV} {kk : IntKind} {i : Int} (ho : o.op = .indexAddr T x y) (hdst : o.dst = some q) (hd : Nat.blt q N = true) (hg : guardA ops o (lk l) = some true)
    (hT : lkT tt T = some ⟨.array m E, s1, b1, z1⟩) (hE : lkT tt E = some d) (hx : ev (lk l) x = .ip cells) (hy : ev (lk l) y = .lit (.int kk i)) (h0 : 0 ≤ i) (h1 : i < m)
    (n : AL P N ops Q rest (lk ((q, .ip (cells.drop (i.toNat * d.size))) :: l)) L) : AL P N ops Q ((o, k) :: rest) (lk l) L := by
  obtain ⟨dst, op', ty, pos, after, g⟩ := o
  simp only at ho
  subst ho
  refine s_pure hdst hd hg ⟨fun σ F w ρ hR hρ => ?_⟩ n
  have e1 := hρ x (by simp [Op.operands])
  have e2 := hρ y (by simp [Op.operands])
  rw [hx] at e1
  rw [hy] at e2
  have hu := (ok _ _ hT).array rfl
  have hs := (ok _ _ hE).sizeOf_run
  generalize hv : ρ x = u at e1
  cases e1 with
  | ip _ b off c E' fr f a1 a2 a3 =>
    refine ⟨.pointer (some ⟨b, off + i.toNat * d.size, none⟩), ?_, .ip _ b (off + i.toNat * d.size) c E' fr (fun j => f (i.toNat * d.size + j)) a1 (fun j y hy => ?_) (fun j y hy => ?_)⟩
    · have hadd : (⟨b, off, none⟩ : Addr).add (i.toNat * d.size) = ⟨b, off + i.toNat * d.size, none⟩ := by
        unfold Addr.add; split <;> simp_all
      simp [execOp, hv, e2.lit_inv, Instr.indexAt, Instr.sureAddr, asIntOf, run_underlying hu, h0, h1, hs, hadd]
    · rw [List.getElem?_drop] at hy
      rw [Nat.add_assoc]
      exact a2 _ y hy
    · rw [List.getElem?_drop] at hy
      exact a3 _ y hy
end
end Go.Sj
namespace Go.Sj
end Go.Sj
namespace Go.Sj
section
variable {P : Program} {N : Nat} {ops : List Oper} {Q : St → Own → Prop} {L : Own} {rest : List (Oper × Kd)} {l : List (Nat × AV)} {k : Kd} {q : Nat}
end
end Go.Sj
namespace Go.Sj
section
variable {P : Program} {N : Nat} {ops : List Oper} {Q : St → Own → Prop} {L : Own} {rest : List (Oper × Kd)} {l : List (Nat × AV)} {k : Kd} {q : Nat}
end
end Go.Sj
namespace Go.Sj
end Go.Sj
end
section
namespace Go.Sj
section
variable {P : Program} {N : Nat} {ops : List Oper} {Q : St → Own → Prop} {L : Own} {rest : List (Oper × Kd)} {l : List (Nat × AV)} {k : Kd} {q : Nat}
end
end Go.Sj
namespace Go.Sj
section
variable {P : Program} {N : Nat} {ops : List Oper} {Q : St → Own → Prop} {L : Own} {rest : List (Oper × Kd)} {l : List (Nat × AV)} {k : Kd} {q : Nat}
end
end Go.Sj
namespace Go.Sj
section
variable {P : Program} {N : Nat} {ops : List Oper} {Q : St → Own → Prop} {L : Own} {rest : List (Oper × Kd)} {l : List (Nat × AV)} {k : Kd} {q : Nat}
end
end Go.Sj
namespace Go.Sj
section
variable {P : Program} {N : Nat} {ops : List Oper} {Q : St → Own → Prop} {L : Own} {rest : List (Oper × Kd)} {l : List (Nat × AV)} {k : Kd} {q : Nat}
end
end Go.Sj
namespace Go.Sj
section
variable {P : Program} {N : Nat} {ops : List Oper} {Q : St → Own → Prop} {L : Own} {rest : List (Oper × Kd)} {l : List (Nat × AV)} {k : Kd} {q : Nat}
theorem s_zeroArr {tt : List (TypeId × TD)} (ok : TOK P tt) {o : Oper} {T : TypeId} {n E s1 b1 : Nat} {z : List Value} {d : TD} (ho : o.op = .build T #[]) (hdst : o.dst = some q) (hd : Nat.blt q N = true) (hg : guardA ops o (lk l) = some true)
    (hT : lkT tt T = some ⟨.array n E, s1, b1, z⟩) (hE : lkT tt E = some d)
    (nx : AL P N ops Q rest (lk ((q, .agg (z.map .lit)) :: l)) L) : AL P N ops Q ((o, k) :: rest) (lk l) L := by
  obtain ⟨dst, op', ty, pos, after, g⟩ := o
  simp only at ho
  subst ho
  refine s_pure hdst hd hg ⟨fun σ F w ρ hR hρ => ?_⟩ nx
  obtain ⟨z0, hz, hzl⟩ := (ok _ _ hT).zero_run w
  simp only at hzl
  have hu := (ok _ _ hT).array rfl
  have hs := (ok _ _ hE).sizeOf_run
  refine ⟨.agg z0.cells, ?_, ?_⟩
  · simp only [execOp, Instr.build, Sem.run_bind, hz, Result.andThen_ok, run_underlying hu, hs, List.map_toArray, List.map_nil]
    simp [Instr.fill, Sem.run_pure]
  · have h := VR.agg_of (VRs.lits (σ := σ) z)
    rw [← hzl] at h ⊢
    simpa using h
theorem s_eqD {o : Oper} {T T' : TypeId} {x y : Operand} {kk : IntKind} {a b : Int} (ho : o.op = .binOp .eql T x y T') (hdst : o.dst = some q) (hd : Nat.blt q N = true) (hg : guardA ops o (lk l) = some true)
    (hx : ev (lk l) x = .lit (.int kk a)) (hy : ev (lk l) y = .lit (.int kk b))
    (n : AL P N ops Q rest (lk ((q, .lit (.bool (decide (a = b)))) :: l)) L) : AL P N ops Q ((o, k) :: rest) (lk l) L := by
  refine s_cmp ho hdst hd hg hx hy rfl (fun h => ?_) (fun h => ?_)
  · simp only [cmpP] at h
    rw [decide_eq_true h] at n
    exact n
  · simp only [cmpP] at h
    rw [decide_eq_false h] at n
    exact n
end
theorem subLL_map {A : Type} {f g : A → List AV} (h : ∀ a, SubL (f a) (g a)) : ∀ l : List A, SubLL (l.map f) (l.map g)
  | [] => trivial
  | a :: l => ⟨h a, subLL_map h l⟩
end Go.Sj
namespace Go.Sj
def ATK (ks : List Kd) (P : Program) (N : Nat) (l : List Oper) (Q : St → Own → Prop) : OT → St → Own → Prop
  | .seg is, st, L => AL P N l Q (mkLK ks l is) st L
  | .br is a b, st, L => AL P N l (fun st' L' => ATK ks P N l Q a st' L' ∧ ATK ks P N l Q b st' L') (mkLK ks l is) st L
theorem atk_seg {ks : List Kd} {P : Program} {N : Nat} {l : List Oper} {Q : St → Own → Prop} {is : List Nat} {st : St} {L : Own} (h : AL P N l Q (mkLK ks l is) st L) : ATK ks P N l Q (.seg is) st L := h
theorem atk_br {ks : List Kd} {P : Program} {N : Nat} {l : List Oper} {Q : St → Own → Prop} {is : List Nat} {a b : OT} {st : St} {L : Own} (h : AL P N l (fun st' L' => ATK ks P N l Q a st' L' ∧ ATK ks P N l Q b st' L') (mkLK ks l is) st L) : ATK ks P N l Q (.br is a b) st L := h
theorem AAny_treeK {ks : List Kd} {P : Program} {N : Nat} {l : List Oper} {Q : St → Own → Prop} : ∀ (t : OT) (listed : Array Bool) (st : St) (L : Own), t.all l.length = true → ATK ks P N l Q t st L →
    (chkT l.toArray ks false t listed = true → AAny P N l ks Q t.len listed st L) ∧
    (∀ k o, chkT l.toArray ks true t listed = true → t.hd = some k → l[k]? = some o → ks.getD k .eff = .eff → ∃ m, t.len = m + 1 ∧ AK P N l .eff o (AAny P N l ks Q m (listed.setIfInBounds k true)) st L)
  | .seg is, listed, st, L, hall, h => by
    obtain ⟨f1, f2⟩ := mkLK_facts (ks := ks) hall
    simp only [ATK] at h
    refine ⟨fun hc => ?_, fun k o hc hk ho hkd => ?_⟩
    · simp only [chkT, chkF] at hc
      split at hc
      · rename_i li hli
        have := AAny_pre (ks := ks) (Q := Q) (fuel := 0) (li := li) h (fun st L hq => ⟨by simpa using hc, hq⟩) is listed f1 f2 hli
        rw [← f1] at this
        exact this
      · cases hc
    · cases is with
      | nil => cases hk
      | cons k' is =>
        simp only [OT.hd, Option.some.injEq] at hk
        subst hk
        simp only [chkT, chkF] at hc
        simp only [OT.all, List.all_cons, Bool.and_eq_true] at hall
        obtain ⟨g1, g2⟩ := mkLK_facts (ks := ks) hall.2
        rw [mkLK_cons ho, hkd] at h
        split at hc
        · rename_i li hli
          refine ⟨is.length, rfl, (AL_head h).mono fun st' L' h' => ?_⟩
          have := AAny_pre (ks := ks) (Q := Q) (fuel := 0) (li := li) h' (fun st L hq => ⟨by simpa using hc, hq⟩) is _ g1 g2 hli
          rw [← g1] at this
          exact this
        · cases hc
  | .br is a b, listed, st, L, hall, h => by
    simp only [OT.all, Bool.and_eq_true] at hall
    obtain ⟨⟨hall1, ha⟩, hb⟩ := hall
    obtain ⟨f1, f2⟩ := mkLK_facts (ks := ks) hall1
    simp only [ATK] at h
    have part : ∀ (li : Array Bool), (match a.hd, b.hd with
      | some x, some y => (Region.ready .any l.toArray li == [x, y]) && (ks.getD x .eff == .eff) && (ks.getD y .eff == .eff) && (a.len == b.len) && chkT l.toArray ks true a li && chkT l.toArray ks true b li
      | _, _ => false) = true → ∀ st' L', ATK ks P N l Q a st' L' ∧ ATK ks P N l Q b st' L' → AAny P N l ks Q a.len li st' L' := by
      intro li hc st' L' ⟨hA, hB⟩
      split at hc
      · rename_i x y hx hy
        simp only [Bool.and_eq_true, beq_iff_eq] at hc
        obtain ⟨⟨⟨⟨⟨c1, c2⟩, c3⟩, c4⟩, c5⟩, c6⟩ := hc
        have hlen : ∃ m, a.len = m + 1 := by
          cases a with
          | seg is => cases is with
            | nil => cases hx
            | cons k is => exact ⟨is.length, rfl⟩
          | br is a b => cases is with
            | nil => cases hx
            | cons k is => exact ⟨is.length + a.len, by simp only [OT.len, List.length_cons]; omega⟩
        obtain ⟨m, hm⟩ := hlen
        rw [hm]
        refine ⟨fun hr => (by rw [hr] at c1; cases c1), fun i hi o ho => ?_⟩
        rw [c1] at hi
        rcases List.mem_cons.1 hi with rfl | hi
        · have hk := c2
          obtain ⟨m', e1, e2⟩ := (AAny_treeK a li st' L' ha hA).2 i o c5 hx ho hk
          obtain rfl : m = m' := by omega
          rw [hk]; exact e2
        · obtain rfl : i = y := by simpa using hi
          have hk := c3
          obtain ⟨m', e1, e2⟩ := (AAny_treeK b li st' L' hb hB).2 i o c6 hy ho hk
          obtain rfl : m = m' := by omega
          rw [hk]; exact e2
      · cases hc
    refine ⟨fun hc => ?_, fun k o hc hk ho hkd => ?_⟩
    · simp only [chkT, chkF] at hc
      split at hc
      · rename_i li hli
        have := AAny_pre (ks := ks) (Q := Q) (fuel := a.len) (li := li) h (part li hc) is listed f1 f2 hli
        rw [← f1] at this
        exact this
      · cases hc
    · cases is with
      | nil => cases hk
      | cons k' is =>
        simp only [OT.hd, Option.some.injEq] at hk
        subst hk
        simp only [chkT, chkF] at hc
        simp only [List.all_cons, Bool.and_eq_true] at hall1
        obtain ⟨g1, g2⟩ := mkLK_facts (ks := ks) hall1.2
        rw [mkLK_cons ho, hkd] at h
        split at hc
        · rename_i li hli
          refine ⟨is.length + a.len, by simp only [OT.len, List.length_cons]; omega, (AL_head h).mono fun st' L' h' => ?_⟩
          have := AAny_pre (ks := ks) (Q := Q) (fuel := a.len) (li := li) h' (part li hc) is _ g1 g2 hli
          rw [← g1] at this
          exact this
        · cases hc
theorem a_regTK {ks : List Kd} {P : Program} {N : Nat} {Q : Exit → St → Own → Prop} {st : St} {L : Own} {id : Nat} {l : List Oper} (t : OT) (hm : P.follows .mixedOrders = true) (hlen : t.len = l.length) (hin : t.all l.length = true)
    (hc : chkT l.toArray ks false t (Array.replicate l.length false) = true)
    (h : ATK ks P N l (fun st' L' => Q .normal st' L') t st L) : AWp P N (.region id l.toArray true) Q st L :=
  ⟨fun σ F w a hr ht => wp_region_any hm (by
    have h1 := (AAny_treeK t (Array.replicate l.length false) st L hin h).1 hc
    rw [hlen] at h1
    have := AAny_wp (F := F) (Q' := Post σ N F Q) l.length _ st L σ a { w with drawn := w.drawn + 1 } h1 (hr.grow (fun _ _ => rfl) rfl rfl) ht (fun τ st' L' a' w' a1 a2 a3 a4 => ⟨τ, st', L', a1, a2, a3, a4⟩)
    simpa using this)⟩
end Go.Sj
end
section
namespace Go.Sj.Typ
open Go.Sj
end Go.Sj.Typ
namespace Go.Sj.Typ
open Go.Sj
end Go.Sj.Typ
namespace Go.Sj.Typ
open Go.Sj
section
variable {ns : List Nod} (h : PR ns ns.length)
include h
end
def nmS (l : List UInt8) (i : Nat) : ByteArray := (ByteArray.mk l.toArray).extract i (i + 1)
def upper : List UInt8 := [65, 66, 67, 68, 69, 70]
def lower : List UInt8 := [117, 118, 119, 120, 121, 122]
def edgeL : List UInt8 := [101, 102, 103, 104, 105]
def offS : ByteArray := ⟨#[111, 102, 102]⟩
def onS : ByteArray := ⟨#[111, 110]⟩
def madeA (i : Nat) (y : Int) : List Att := if y % 4 = 1 then [⟨nmS lower i, -3, 3 + y / 4 % 9, []⟩] else if y % 4 = 2 then [⟨nmS lower i, 0, 1, [offS, onS]⟩] else []
def madeN (i : Nat) (x y : Int) : Nod := ⟨nmS upper i, x % (i + 1) - 1, decide (x / 16 % 4 = 3), madeA i y⟩
def codeAt (l : List (Int × Int)) (i : Nat) : Int × Int := l.getD i (0, 0)
def madeNs (l : List (Int × Int)) (n : Nat) : List Nod := (List.range n).map fun i => madeN i (codeAt l i).1 (codeAt l i).2
def zmu (l : List (Int × Int)) : Nat := if l.length = 0 then 1 else min 6 l.length
def madeE (n : Nat) (i : Nat) (c : Int × Int) : Edg := ⟨nmS edgeL i, c.1 % n, c.2 % n, 0, -1, 0, -1⟩
def madeEs (n : Nat) (l : List (Int × Int)) (m : Nat) : List Edg := (List.range m).map fun i => madeE n i (codeAt l i)
def madeT (nodes edges : List (Int × Int)) : Tys := ⟨madeNs nodes (zmu nodes), madeEs (zmu nodes) edges (min 5 edges.length)⟩
def Cd (l : List (Int × Int)) : Prop := ∀ c ∈ l, (0 ≤ c.1 ∧ c.1 ≤ 255) ∧ (0 ≤ c.2 ∧ c.2 ≤ 255)
theorem codeAt_rng {l : List (Int × Int)} (h : Cd l) (i : Nat) : (0 ≤ (codeAt l i).1 ∧ (codeAt l i).1 ≤ 255) ∧ (0 ≤ (codeAt l i).2 ∧ (codeAt l i).2 ≤ 255) := by
  unfold codeAt
  rw [List.getD_eq_getElem?_getD]
  cases hx : l[i]? with
  | none => simp
  | some c => exact h c (List.mem_of_getElem? hx)
theorem madeNum_rng (l : List (Int × Int)) : 1 ≤ zmu l ∧ zmu l ≤ 6 := by
  unfold zmu
  split <;> omega
theorem nm_upper : ∀ i, i < 6 → nameB (nmS upper i) = true ∧ (nmS upper i).size = 1 := by decide +kernel
theorem nm_lower : ∀ i, i < 6 → nameB (nmS lower i) = true ∧ (nmS lower i).size = 1 := by decide +kernel
theorem nm_edge : ∀ i, i < 5 → nameB (nmS edgeL i) = true ∧ (nmS edgeL i).size = 1 := by decide +kernel
theorem nm_upper_ne : ∀ i, i < 6 → ∀ j, j < i → nmS upper j ≠ nmS upper i := by decide +kernel
theorem nm_lower_ne : ∀ i, i < 6 → ∀ j, j < i → nmS lower j ≠ nmS lower i := by decide +kernel
theorem nm_edge_ne : ∀ i, i < 5 → ∀ j, j < i → nmS edgeL j ≠ nmS edgeL i := by decide +kernel
theorem names_on : namesE [offS, onS] = 0 := by decide +kernel
theorem madeNs_get {l : List (Int × Int)} {n i : Nat} (h : i < n) : (madeNs l n)[i]? = some (madeN i (codeAt l i).1 (codeAt l i).2) := by simp [madeNs, h]
theorem madeNs_len (l : List (Int × Int)) (n : Nat) : (madeNs l n).length = n := by simp [madeNs]
theorem madePR (l : List (Int × Int)) (n : Nat) : PR (madeNs l n) n := fun i m hi hm => by
  rw [madeNs_get hi] at hm
  cases hm
  simp only [madeN]
  have h1 := Int.emod_nonneg (codeAt l i).1 (b := (i : Int) + 1) (by omega)
  have h2 := Int.emod_lt_of_pos (codeAt l i).1 (b := (i : Int) + 1) (by omega)
  omega
theorem madeA_len (i : Nat) (y : Int) : (madeA i y).length ≤ 1 := by
  unfold madeA
  split
  · simp
  · split <;> simp
theorem madeA_mem {i : Nat} {y : Int} {a : Att} (h : a ∈ madeA i y) : a.name = nmS lower i := by
  unfold madeA at h
  split at h
  · obtain rfl := List.mem_singleton.1 h; rfl
  · split at h
    · obtain rfl := List.mem_singleton.1 h; rfl
    · cases h
theorem madeA_body {i : Nat} {y : Int} {a : Att} (h : a ∈ madeA i y) : bodyE a = 0 := by
  unfold madeA at h
  split at h
  · obtain rfl := List.mem_singleton.1 h
    unfold bodyE rangeE
    rw [show namesE [] = 0 from rfl, if_neg (by decide), if_pos rfl, if_pos]
    simp only
    omega
  · split at h
    · obtain rfl := List.mem_singleton.1 h
      unfold bodyE rangeE
      rw [names_on, if_neg (by decide), if_neg (by simp), if_pos]
      simp
    · cases h
theorem made_attrs {l : List (Int × Int)} {n : Nat} : ∀ (m : Nat) (a : Int), a + 1 ≤ m → a < n → (attrsOf (madeNs l n) a).length ≤ m ∧ ∀ x ∈ attrsOf (madeNs l n) a, ∃ i : Nat, (i : Int) ≤ a ∧ x ∈ madeA i (codeAt l i).2
  | 0, a, hm, ha => by rw [attrsOf_neg (by omega)]; simp
  | m + 1, a, hm, ha => by
    by_cases h0 : a < 0
    · rw [attrsOf_neg h0]; simp
    · have hx := madeNs_get (l := l) (n := n) (i := a.toNat) (by omega)
      have hp := madePR l n a.toNat _ (by omega) hx
      rw [attrsOf_step (madePR l n) (by omega) ha hx]
      obtain ⟨i1, i2⟩ := made_attrs (l := l) (n := n) m _ (by omega : (madeN a.toNat (codeAt l a.toNat).1 (codeAt l a.toNat).2).par + 1 ≤ m) (by omega)
      have := madeA_len a.toNat (codeAt l a.toNat).2
      refine ⟨by rw [List.length_append]; simp only [madeN] at *; omega, fun x hx => ?_⟩
      rcases List.mem_append.1 hx with h1 | h1
      · obtain ⟨i, hi, hxi⟩ := i2 x h1
        exact ⟨i, by omega, hxi⟩
      · exact ⟨a.toNat, by omega, h1⟩
theorem made_node {l : List (Int × Int)} {n i : Nat} (hn : n ≤ 6) (hi : i < n) : nodeE (madeNs l n) i = 0 := by
  have hx := madeNs_get (l := l) hi
  have hp := madePR l n i _ hi hx
  have hst := attrsOf_step (madePR l n) (a := (i : Int)) (by omega) (by omega) hx
  obtain ⟨hl1, hm1⟩ := made_attrs (l := l) (n := n) 6 (i : Int) (by omega) (by omega)
  obtain ⟨_, hm2⟩ := made_attrs (l := l) (n := n) 6 (madeN i (codeAt l i).1 (codeAt l i).2).par (by omega) (by omega)
  unfold nodeE
  rw [hx]
  simp only
  have hany : ((madeNs l n).take i).any (fun m => decide (m.name = (madeN i (codeAt l i).1 (codeAt l i).2).name)) = false := by
    rw [List.any_eq_false]
    intro m hm
    rw [List.mem_take_iff_getElem] at hm
    obtain ⟨j, hj, rfl⟩ := hm
    have hjl : j < n := by rw [madeNs_len] at hj; omega
    have : (madeNs l n)[j]'(by rw [madeNs_len]; exact hjl) = madeN j (codeAt l j).1 (codeAt l j).2 := by
      have := madeNs_get (l := l) hjl
      rw [List.getElem?_eq_getElem (by rw [madeNs_len]; exact hjl)] at this
      exact Option.some.inj this
    rw [this]
    exact fun h => nm_upper_ne i (by omega) j (by omega) (of_decide_eq_true h)
  rw [if_neg (by simp only [madeN]; rw [(nm_upper i (by omega)).1]; decide), hany, if_neg (by decide), if_neg (by omega)]
  have hal := madeA_len i (codeAt l i).2
  rw [if_neg (by simp only [madeN]; omega), if_neg (by omega)]
  refine firstN_none fun j hj => ?_
  have hj0 : j = 0 := by simp only [madeN] at hj; omega
  subst hj0
  have hlen : (attrsOf (madeNs l n) i).length - (madeN i (codeAt l i).1 (codeAt l i).2).attrs.length + 0 = (attrsOf (madeNs l n) (madeN i (codeAt l i).1 (codeAt l i).2).par).length := by
    rw [hst, List.length_append]; omega
  rw [hlen]
  have hone : ∃ a, madeA i (codeAt l i).2 = [a] := by
    simp only [madeN] at hj
    match hma : madeA i (codeAt l i).2, hj, hal with
    | [a], _, _ => exact ⟨a, rfl⟩
    | [], hj, _ => simp at hj
    | _ :: _ :: _, _, hal => simp at hal
  obtain ⟨a, hone⟩ := hone
  have hat : (madeN i (codeAt l i).1 (codeAt l i).2).attrs = [a] := hone
  rw [hst, hat]
  unfold attAt
  rw [List.getElem?_append_right (Nat.le_refl _), Nat.sub_self]
  simp only [List.getElem?_cons_zero, List.take_left']
  have ham : a ∈ madeA i (codeAt l i).2 := by rw [hone]; exact List.mem_cons_self ..
  unfold attrE
  rw [madeA_mem ham, (nm_lower i (by omega)).1, if_neg (by decide)]
  rw [if_neg, madeA_body ham]
  rw [Bool.not_eq_true, List.any_eq_false]
  intro x hx'
  obtain ⟨j, hj, hxj⟩ := hm2 x hx'
  rw [madeA_mem hxj]
  exact fun h => nm_lower_ne i (by omega) j (by omega) (of_decide_eq_true h)
theorem madeEs_get {n : Nat} {l : List (Int × Int)} {m i : Nat} (h : i < m) : (madeEs n l m)[i]? = some (madeE n i (codeAt l i)) := by simp [madeEs, h]
theorem madeEs_len (n : Nat) (l : List (Int × Int)) (m : Nat) : (madeEs n l m).length = m := by simp [madeEs]
theorem made_edge {t : Tys} {n m i : Nat} {l : List (Int × Int)} (ht : t.edges = madeEs n l m) (hn : t.nodes.length = n) (h0 : 0 < n) (hm : m ≤ 5) (hi : i < m) : edgeE t i = 0 := by
  have hx := madeEs_get (n := n) (l := l) hi
  unfold edgeE
  rw [ht, hx]
  simp only
  have hany : ((madeEs n l m).take i).any (fun e => decide (e.name = (madeE n i (codeAt l i)).name)) = false := by
    rw [List.any_eq_false]
    intro e he
    rw [List.mem_take_iff_getElem] at he
    obtain ⟨j, hj, rfl⟩ := he
    have hjl : j < m := by rw [madeEs_len] at hj; omega
    have : (madeEs n l m)[j]'(by rw [madeEs_len]; exact hjl) = madeE n j (codeAt l j) := by
      have := madeEs_get (n := n) (l := l) hjl
      rw [List.getElem?_eq_getElem (by rw [madeEs_len]; exact hjl)] at this
      exact Option.some.inj this
    rw [this]
    exact fun h => nm_edge_ne i (by omega) j (by omega) (of_decide_eq_true h)
  have a1 := Int.emod_nonneg (codeAt l i).1 (b := (n : Int)) (by omega)
  have a2 := Int.emod_lt_of_pos (codeAt l i).1 (b := (n : Int)) (by omega)
  have b1 := Int.emod_nonneg (codeAt l i).2 (b := (n : Int)) (by omega)
  have b2 := Int.emod_lt_of_pos (codeAt l i).2 (b := (n : Int)) (by omega)
  rw [if_neg (by simp only [madeE]; rw [(nm_edge i (by omega)).1]; decide), hany, if_neg (by decide), if_pos]
  rw [hn]
  refine ⟨⟨a1, a2⟩, ⟨b1, b2⟩, ?_, ?_⟩ <;> (show boundP 0 (-1); unfold boundP; omega)
theorem made_valid (nodes edges : List (Int × Int)) : (validR (madeT nodes edges)).2 = 0 := by
  obtain ⟨h1, h2⟩ := madeNum_rng nodes
  refine validR_zero.2 ⟨?_, ?_, ?_, fun j hj => ?_, fun j hj => ?_⟩
  · simp only [madeT, madeNs_len]; omega
  · simp only [madeT, madeNs_len]; omega
  · simp only [madeT, madeEs_len]; omega
  · simp only [madeT, madeNs_len] at hj
    exact made_node h2 hj
  · simp only [madeT, madeEs_len] at hj
    exact made_edge (n := zmu nodes) (m := min 5 edges.length) (l := edges) rfl (by simp only [madeT, madeNs_len]) (by omega) (by omega) hj
theorem made_small (nodes edges : List (Int × Int)) : Small (madeT nodes edges) := by
  obtain ⟨h1, h2⟩ := madeNum_rng nodes
  refine ⟨by simp only [madeT, madeNs_len]; omega, by simp only [madeT, madeEs_len]; omega, fun n hn => ?_, fun e he => ?_⟩
  · simp only [madeT, madeNs, List.mem_map, List.mem_range] at hn
    obtain ⟨i, hi, rfl⟩ := hn
    refine ⟨by simp only [madeN]; rw [(nm_upper i (by omega)).2]; decide, by have := madeA_len i (codeAt nodes i).2; simp only [madeN]; omega, fun a ha => ?_⟩
    have ha' : a ∈ madeA i (codeAt nodes i).2 := ha
    refine ⟨by rw [madeA_mem ha', (nm_lower i (by omega)).2]; decide, ?_⟩
    unfold madeA at ha'
    split at ha'
    · obtain rfl := List.mem_singleton.1 ha'; simp
    · split at ha'
      · obtain rfl := List.mem_singleton.1 ha'
        refine ⟨by simp, ?_⟩
        simp only
        decide
      · cases ha'
  · simp only [madeT, madeEs, List.mem_map, List.mem_range] at he
    obtain ⟨i, hi, rfl⟩ := he
    simp only [madeE]
    rw [(nm_edge i (by omega)).2]; decide
theorem made_nodes (nodes edges : List (Int × Int)) : (madeT nodes edges).nodes.length = zmu nodes := by simp only [madeT, madeNs_len]
end Go.Sj.Typ
namespace Go.Sj.Typ
open Go.Sj
section
variable {nodes edges : List (Int × Int)}
end
theorem wf_n8 {a : Int} (h : (Lit.int .u8 a).wf = true) : 0 ≤ a ∧ a ≤ 255 := by
  simp only [Lit.wf, Bool.and_eq_true, decide_eq_true_eq] at h
  rw [show IntKind.u8.min = 0 by decide, show IntKind.u8.max = 255 by decide] at h
  exact h
def Okn (n : Nat) (l : List Int) : Prop := l.length = n ∧ ∀ m ∈ l, (Lit.int .u8 m).wf = true
def c82 (c : Int × Int) : List AV := [A8 c.1, A8 c.2]
def toC2 : List Int → Int × Int
  | [a, b] => (a, b)
  | _ => (0, 0)
theorem toC2_c {l : List Int} (h : l.length = 2) : (l.map fun m => AV.lit (.int .u8 m)) = c82 (toC2 l) := by
  match l, h with
  | [a, b], _ => rfl
theorem toC2_ok {l : List Int} (h : Okn 2 l) : (0 ≤ (toC2 l).1 ∧ (toC2 l).1 ≤ 255) ∧ (0 ≤ (toC2 l).2 ∧ (toC2 l).2 ≤ 255) := by
  obtain ⟨h1, h2⟩ := h
  match l, h1, h2 with
  | [a, b], _, h2 => exact ⟨wf_n8 (h2 a (by simp)), wf_n8 (h2 b (by simp))⟩
end Go.Sj.Typ
end
section
namespace Go.Sj.Sta
open Go.Sj Go.Sj.Typ
end Go.Sj.Sta
namespace Go.Sj.Sta
open Go.Sj Go.Sj.Typ
end Go.Sj.Sta
namespace Go.Sj.Sta
open Go.Sj Go.Sj.Typ
end Go.Sj.Sta
namespace Go.Sj.Sta
open Go.Sj Go.Sj.Typ
section
variable {ns : List Nod} (hp : PR ns ns.length)
end
end Go.Sj.Sta
namespace Go.Sj.Sta
open Go.Sj Go.Sj.Typ
section
variable {t : Tys} {g : Gr} {p q : List Int} (h : TV t g) (hp : Prm p g.nodes.length) (hq : Prm q g.edges.length)
include h hp hq
end
section
variable {t : Tys} {g : Gr} (h : TV t g)
include h
end
end Go.Sj.Sta
namespace Go.Sj.Sta
open Go.Sj Go.Sj.Typ
def c83 (c : Int × Int × Int) : List AV := [A8 c.1, A8 c.2.1, A8 c.2.2]
def toC3 : List Int → Int × Int × Int
  | [a, b, c] => (a, b, c)
  | _ => (0, 0, 0)
def In3 (c : Int × Int × Int) : Prop := (0 ≤ c.1 ∧ c.1 ≤ 255) ∧ (0 ≤ c.2.1 ∧ c.2.1 ≤ 255) ∧ (0 ≤ c.2.2 ∧ c.2.2 ≤ 255)
theorem toC3_c {l : List Int} (h : l.length = 3) : (l.map fun m => AV.lit (.int .u8 m)) = c83 (toC3 l) := by
  match l, h with
  | [a, b, c], _ => rfl
theorem toC3_ok {l : List Int} (h : Okn 3 l) : In3 (toC3 l) := by
  obtain ⟨h1, h2⟩ := h
  match l, h1, h2 with
  | [a, b, c], _, h2 => exact ⟨wf_n8 (h2 a (by simp)), wf_n8 (h2 b (by simp)), wf_n8 (h2 c (by simp))⟩
abbrev c8 (n : Int) : List AV := [A8 n]
abbrev bytesA (l : List Int) : AV := .im 1 (l.map c8)
def g8s (l : List Int) : List AV := l.map fun m => .lit (.int .u8 m)
theorem u8s_ok {x : List Int} (h : (∀ m ∈ x, (Lit.int .u8 m).wf = true) ∧ x.length ≤ reachBytes) : (∀ m ∈ x, 0 ≤ m ∧ m ≤ 255) ∧ x.length ≤ 140737488355328 := by
  have h2 := h.2
  unfold reachBytes at h2
  exact ⟨fun m hm => wf_n8 (h.1 m hm), by omega⟩
end Go.Sj.Sta
namespace Go.Sj.Sta
open Go.Sj Go.Sj.Typ
end Go.Sj.Sta
end
section
namespace Go.Sj
end Go.Sj
namespace Go.Sj.Part
set_option maxRecDepth 8000
def nextRow (i : Nat) (row : List Nat) (v : Nat) : Bool := v == i || row.getD v 0 == v
def nextTo (i : Nat) (row : List Nat) (k : Nat) : List (List Nat) := ((List.range k).filter (nextRow i row)).map fun v => row ++ [v]
def nextAll (i : Nat) (rows : List (List Nat)) : List (List Nat) := rows.flatMap fun row => nextTo i row (i + 1)
def allTo : Nat → List (List Nat)
  | 0 => [[]]
  | i + 1 => nextAll i (allTo i)
def allR (n : Int) : List (List Nat) × Int := if 7 < n then ([], 3) else if n < 0 then ([], 6) else (allTo n.toNat, 0)
end Go.Sj.Part
end
section
namespace Go.Sj.Inc
open Go.Sj Go.Sj.Sta Go.Sj.Typ
set_option maxRecDepth 8000
def capR (l : List Mo) : List Mo × Int := if 5000 < l.length then ([], 3) else (l, 0)
def allR (t : Tys) (p g : Gr) (inj : Bool) : List Mo × Int := if validS t p g ≠ 0 then ([], validS t p g) else capR (matL (seaA t p g inj))
end Go.Sj.Inc
end
section
namespace Go.Sj.Pln
open Go.Sj Go.Sj.Sta Go.Sj.Typ Go.Sj.Inc
set_option maxRecDepth 8000
theorem known_unk {s : Kn} : knownB s = true ↔ unk s = 0 := by
  unfold knownB unk
  rw [Bool.and_eq_true]
  simp only [Bool.not_eq_true', List.contains_eq_mem, decide_eq_false_iff_not, ← List.count_eq_zero]
  omega
theorem known_all {s : Kn} (h : knownB s = true) : (∀ b ∈ s.ns, b = true) ∧ ∀ b ∈ s.es, b = true := by
  unfold knownB at h
  rw [Bool.and_eq_true] at h
  simp only [Bool.not_eq_true', List.contains_eq_mem, decide_eq_false_iff_not] at h
  exact ⟨fun b hb => by cases b; exact absurd hb h.1; rfl, fun b hb => by cases b; exact absurd hb h.2; rfl⟩
theorem poss_mem {p : Gr} {s : Kn} {o : Opn} : o ∈ poss p s ↔ opE p s o = 0 := by
  unfold poss
  rw [List.mem_filter, decide_eq_true_eq]
  refine ⟨fun h => h.2, fun h => ⟨?_, h⟩⟩
  obtain ⟨k, e⟩ := o
  unfold opsL opsN opsE
  simp only [List.mem_append, List.mem_map, List.mem_range]
  rcases opE_zero h with ⟨h1, h2, _⟩ | ⟨h1, h2, _⟩
  · simp only at h1 h2
    exact .inl (.inl ⟨e.toNat, by omega, by rw [h1]; congr 1; omega⟩)
  · simp only at h1 h2
    rcases h1 with h1 | h1
    · exact .inl (.inr ⟨e.toNat, by omega, by rw [h1]; congr 1; omega⟩)
    · exact .inr ⟨e.toNat, by omega, by rw [h1]; congr 1; omega⟩
theorem poss_nil {p : Gr} {s : Kn} (hp : GV p) (hs : KnOk p s) : poss p s = [] ↔ knownB s = true := by
  constructor
  · intro h
    have hno : ∀ o, opE p s o ≠ 0 := fun o ho => by
      have := poss_mem.2 ho
      rw [h] at this
      cases this
    have hn : ∀ (i : Nat) (b : Bool), s.ns[i]? = some b → b = true := fun i b hb => by
      obtain ⟨hi, _⟩ := List.getElem?_eq_some_iff.1 hb
      have := hno ⟨1, i⟩
      unfold opE nodK at this
      rw [if_pos rfl, if_pos (by simp only; rw [← hs.nl]; omega)] at this
      simp only [Int.toNat_natCast, List.getD_eq_getElem?_getD, hb, Option.getD_some] at this
      cases b
      · exact absurd rfl this
      · rfl
    have he : ∀ (i : Nat) (b : Bool), s.es[i]? = some b → b = true := fun i b hb => by
      obtain ⟨hi, _⟩ := List.getElem?_eq_some_iff.1 hb
      have := hno ⟨3, i⟩
      have hi2 : i < p.edges.length := by rw [← hs.el]; exact hi
      unfold opE edgP edgK edP nodK at this
      have hx := hp.edges _ (List.getElem_mem hi2)
      rw [if_neg (by simp), if_pos (.inr rfl), if_pos (by simp only; omega)] at this
      simp only [Int.toNat_natCast, List.getD_eq_getElem?_getD, hb, Option.getD_some, List.getElem?_eq_getElem hi2] at this
      generalize p.edges[i] = x at *
      have a1 : s.ns[x.fr.toNat]? = some true := by
        have hh := List.getElem?_eq_getElem (l := s.ns) (i := x.fr.toNat) (by rw [hs.nl]; omega)
        rw [hh, hn _ _ hh]
      have a2 : s.ns[x.to.toNat]? = some true := by
        have hh := List.getElem?_eq_getElem (l := s.ns) (i := x.to.toNat) (by rw [hs.nl]; omega)
        rw [hh, hn _ _ hh]
      rw [a1, a2] at this
      cases b
      · exact absurd rfl this
      · rfl
    unfold knownB
    rw [Bool.and_eq_true]
    simp only [Bool.not_eq_true', List.contains_eq_mem, decide_eq_false_iff_not]
    refine ⟨fun h => ?_, fun h => ?_⟩
    · obtain ⟨i, hi⟩ := List.getElem?_of_mem h
      cases hn i _ hi
    · obtain ⟨i, hi⟩ := List.getElem?_of_mem h
      cases he i _ hi
  · intro h
    rw [known_unk] at h
    refine List.eq_nil_iff_forall_not_mem.2 fun o ho => ?_
    have := unk_aft hs (poss_mem.1 ho)
    omega
def mkP (p : Gr) (f : Nat → Int) : Nat → Nat → Kn → List Opn
  | 0, _, _ => []
  | m + 1, i, k => if poss p k = [] then [] else (poss p k).getD (f i % (poss p k).length).toNat ⟨0, 0⟩ :: mkP p f m (i + 1) (aftK p k ((poss p k).getD (f i % (poss p k).length).toNat ⟨0, 0⟩))
theorem pick_mem {A : Type} {l : List A} (h : l ≠ []) (z : Int) (d : A) : l.getD (z % l.length).toNat d ∈ l := by
  have h0 : 0 < l.length := List.length_pos_iff.2 h
  have h1 := Int.emod_nonneg z (b := (l.length : Int)) (by omega)
  have h2 := Int.emod_lt_of_pos z (b := (l.length : Int)) (by omega)
  rw [List.getD_eq_getElem?_getD, List.getElem?_eq_getElem (by omega)]
  exact List.getElem_mem _
theorem mkP_valid {p : Gr} (hp : GV p) (f : Nat → Int) : ∀ (m i : Nat) (k : Kn), KnOk p k → unk k ≤ m → planE p k (mkP p f m i k) = 0
  | 0, i, k, hk, hu => by
    unfold mkP planE
    rw [if_pos (known_unk.2 (by omega))]
  | m + 1, i, k, hk, hu => by
    unfold mkP
    split
    · rename_i h
      unfold planE
      rw [if_pos ((poss_nil hp hk).1 h)]
    · rename_i h
      have h1 := poss_mem.1 (pick_mem h (f i) ⟨0, 0⟩)
      generalize (poss p k).getD (f i % (poss p k).length).toNat ⟨0, 0⟩ = o at *
      unfold planE
      rw [if_neg (Decidable.not_not.2 h1)]
      exact mkP_valid hp f m (i + 1) _ (aftK_ok hk o) (by have := unk_aft hk h1; omega)
theorem plan_len {p : Gr} : ∀ (l : List Opn) (k : Kn), KnOk p k → planE p k l = 0 → l.length ≤ unk k
  | [], k, hk, h => Nat.zero_le _
  | o :: l, k, hk, h => by
    unfold planE at h
    split at h
    · rename_i h1; exact absurd h h1
    · rename_i h1
      have hu := unk_aft hk (Decidable.not_not.1 h1)
      have := plan_len l _ (aftK_ok hk o) h
      simp only [List.length_cons]
      omega
end Go.Sj.Pln
end
section
namespace Go.Sj.Can
open Go.Sj Go.Sj.Sta
set_option maxRecDepth 8000
theorem cmpI_lt {x y : Int} : cmpI x y < 0 ↔ x < y := by
  unfold cmpI
  repeat' split
  all_goals omega
section
variable (N : Int → Int) (T : Int → Int → List Int)
variable {N T}
end
section
variable (N : Int → Int) (T : Int → Int → List Int) (n : Nat)
variable {N T n}
end
section
variable (N : Int → Int) (T : Int → Int → List Int) (n : Nat)
variable {N T n}
end
end Go.Sj.Can
end
section
namespace Go.Sj.Inc
open Go.Sj Go.Sj.Sta Go.Sj.Typ
set_option maxRecDepth 8000
def gfitT (S : Sea) (ns : List Int) (x : Ed) (i : Nat) : Bool := !(decide (x.fr < ns.length) && decide (x.to < ns.length)) || (List.range S.g.edges.length).any (eqE S ns i)
def gfitB (S : Sea) (ns : List Int) : Bool := (List.range S.p.edges.length).all fun i => match S.p.edges[i]? with
  | some x => gfitT S ns x i
  | none => true
theorem gfitB_false {S : Sea} {ns : List Int} {i : Nat} {x : Ed} (hx : S.p.edges[i]? = some x) (h : gfitT S ns x i = false) : gfitB S ns = false := by
  refine List.all_eq_false.2 ⟨i, List.mem_range.2 (List.getElem?_eq_some_iff.1 hx).1, ?_⟩
  rw [hx]
  simpa using h
theorem gfitB_true {S : Sea} {ns : List Int} (h : ∀ (i : Nat) (x : Ed), S.p.edges[i]? = some x → gfitT S ns x i = true) : gfitB S ns = true := by
  refine List.all_eq_true.2 fun i hi => ?_
  have hx := List.getElem?_eq_getElem (List.mem_range.1 hi)
  rw [hx]
  exact h i _ hx
theorem gfit_dead {S : Sea} (hP : GV S.p) {ns es : List Int} {m : Nat} (h : gfitB S ns = false) (hm : m = remS S ns es) (hn : ns.length ≤ S.p.nodes.length) (he : es = []) : findL S m ns es = [] := by
  unfold gfitB at h
  obtain ⟨i, hi, hx⟩ := List.all_eq_false.1 h
  have hil := List.mem_range.1 hi
  have he1 := List.getElem?_eq_getElem hil
  have hin := (hP.edges _ (List.getElem_mem hil)).2
  rw [he1] at hx
  generalize S.p.edges[i] = x at *
  unfold gfitT at hx
  simp only [Bool.not_eq_true, Bool.or_eq_false_iff, Bool.not_eq_false', Bool.and_eq_true, decide_eq_true_eq] at hx
  obtain ⟨⟨h1, h1'⟩, h2⟩ := hx
  subst he
  refine find_dead he1 m ns [] hm (by omega) (by omega) hn (Nat.zero_le _) (fun _ => rfl) (fun k hk => ?_)
  have := List.any_eq_false.1 h2 k (List.mem_range.2 hk)
  unfold fitB
  rw [Bool.eq_false_iff.2 this, Bool.and_false]
theorem find_congr {S S' : Sea} (hp : S'.p = S.p) (hg : S'.g = S.g) (ho : S'.ok = S.ok) (hi : S'.inj = S.inj) (hn : ∀ i k, offN S'.pn i k = offN S.pn i k) (he : ∀ i k, offN S'.pe i k = offN S.pe i k) : ∀ (m : Nat) (ns es : List Int), findL S' m ns es = findL S m ns es
  | 0, ns, es => rfl
  | m + 1, ns, es => by
    have h1 : ∀ ns k, candN S' ns k = candN S ns k := fun ns k => by unfold candN; rw [hp, hg, ho, hi, hn]
    have h2 : ∀ ns es k, candE S' ns es k = candE S ns es k := fun ns es k => by unfold candE fitB eqE; rw [hp, hg, hi, he]
    unfold findL
    rw [hp, hg]
    simp only [h1, h2, find_congr hp hg ho hi hn he m]
theorem off_none (n i k : Nat) : offN (some (noneL n)) i k = offN none i k := by
  have : gvn (some (noneL n)) i = -1 := by
    show (List.replicate n (-1 : Int)).getD i (-1) = -1
    rw [List.getD_eq_getElem?_getD, List.getElem?_replicate]
    split <;> rfl
  unfold offN
  rw [this]
  rfl
def seaO (t : Tys) (p g : Gr) (inj : Bool) : Sea := ⟨p, g, okT t, some (noneL p.nodes.length), some (noneL p.edges.length), inj⟩
theorem mat_open (t : Tys) (p g : Gr) (inj : Bool) : matL (seaO t p g inj) = matL (seaA t p g inj) :=
  find_congr (S := seaA t p g inj) (S' := seaO t p g inj) rfl rfl rfl rfl (fun i k => off_none p.nodes.length i k) (fun i k => off_none p.edges.length i k) _ _ _
end Go.Sj.Inc
end
section
namespace Go.Sj.Inc
open Go.Sj Go.Sj.Sta Go.Sj.Typ
set_option maxRecDepth 8000
theorem cmpL_pre_lt : ∀ (p : List Int) {k l : Int} (r s : List Int), k < l → Can.cmpL (p ++ k :: r) (p ++ l :: s) < 0
  | [], k, l, r, s, h => by
    show Can.cmpL (k :: r) (l :: s) < 0
    rw [Can.cmpL]
    have := Can.cmpI_lt.2 h
    rw [if_pos (by omega)]
    exact this
  | x :: p, k, l, r, s, h => by
    show Can.cmpL (x :: (p ++ k :: r)) (x :: (p ++ l :: s)) < 0
    rw [Can.cmpL, if_neg (by rw [Can.cmpI_zero.2 rfl]; decide)]
    exact cmpL_pre_lt p r s h
abbrev SrtM (l : List Mo) : Prop := l.Pairwise fun a b => cmpM a b < 0
theorem srtM_ext : ∀ {l l' : List Mo}, SrtM l → SrtM l' → (∀ x, x ∈ l ↔ x ∈ l') → l = l'
  | [], [], _, _, _ => rfl
  | [], b :: l', _, _, h => absurd ((h b).2 (List.mem_cons_self ..)) (by simp)
  | a :: l, [], _, _, h => absurd ((h a).1 (List.mem_cons_self ..)) (by simp)
  | a :: l, b :: l', h1, h2, h => by
    have h1' := List.pairwise_cons.1 h1
    have h2' := List.pairwise_cons.1 h2
    have hab : a = b := by
      rcases List.mem_cons.1 ((h a).1 (List.mem_cons_self ..)) with e | ha
      · exact e
      · rcases List.mem_cons.1 ((h b).2 (List.mem_cons_self ..)) with e | hb
        · exact e.symm
        · have k1 := h1'.1 b hb
          have k2 := h2'.1 a ha
          rw [cmpM_anti a b] at k2
          omega
    subst hab
    have self : ∀ x, cmpM x x < 0 → False := fun x hx => by rw [cmpM_self] at hx; omega
    congr 1
    refine srtM_ext h1'.2 h2'.2 fun x => ⟨fun hx => ?_, fun hx => ?_⟩
    · rcases List.mem_cons.1 ((h x).1 (List.mem_cons_of_mem _ hx)) with e | hb
      · subst e; exact (self x (h1'.1 x hx)).elim
      · exact hb
    · rcases List.mem_cons.1 ((h x).2 (List.mem_cons_of_mem _ hx)) with e | hb
      · subst e; exact (self x (h2'.1 x hx)).elim
      · exact hb
structure IsF (S : Sea) (i j : Nat) (x : Mo) : Prop where
  nl : x.1.length = S.p.nodes.length
  el : x.2.length = S.p.edges.length
  ns : ∀ u, i ≤ u → u < S.p.nodes.length → ∃ k : Nat, x.1[u]? = some (k : Int) ∧ k < S.g.nodes.length ∧ candN S (x.1.take u) k = true
  es : ∀ u, j ≤ u → u < S.p.edges.length → ∃ k : Nat, x.2[u]? = some (k : Int) ∧ k < S.g.edges.length ∧ candE S x.1 (x.2.take u) k = true
theorem snoc_take {l p : List Int} {k : Int} (h : l.take (p ++ [k]).length = p ++ [k]) : l.take p.length = p ∧ l[p.length]? = some k := by
  rw [List.length_append, List.length_singleton] at h
  have hl : p.length + 1 ≤ l.length := by
    have := congrArg List.length h
    simp at this
    omega
  rw [List.take_add_one] at h
  have h1 := List.append_inj_left h (by simp; omega)
  refine ⟨h1, ?_⟩
  rw [h1] at h
  have h2 := List.append_cancel_left h
  cases h3 : l[p.length]? with
  | none => rw [h3] at h2; cases h2
  | some z => rw [h3] at h2; simpa using h2
theorem find_mem {S : Sea} : ∀ (m : Nat) (ns es : List Int), m = remS S ns es → ns.length ≤ S.p.nodes.length → es.length ≤ S.p.edges.length → (ns.length < S.p.nodes.length → es = []) → ∀ x : Mo, x ∈ findL S m ns es ↔ (x.1.take ns.length = ns ∧ x.2.take es.length = es ∧ IsF S ns.length es.length x)
  | 0, ns, es, hm, hn, he, hne, x => by
    unfold remS at hm
    unfold findL
    rw [List.mem_singleton]
    constructor
    · rintro rfl
      exact ⟨List.take_length, List.take_length, ⟨by show ns.length = _; omega, by show es.length = _; omega, fun u h1 h2 => by omega, fun u h1 h2 => by omega⟩⟩
    · rintro ⟨h1, h2, h3⟩
      have h4 := h3.nl
      have h5 := h3.el
      rw [List.take_of_length_le (by omega)] at h1 h2
      exact Prod.ext h1 h2
  | m + 1, ns, es, hm, hn, he, hne, x => by
    unfold remS at hm
    unfold findL
    split
    · rename_i hlt
      have he0 := hne hlt
      subst he0
      rw [List.mem_flatMap]
      have ih := fun k : Nat => find_mem (S := S) m (ns ++ [(k : Int)]) [] (by unfold remS; simp only [List.length_append, List.length_cons, List.length_nil] at hm ⊢; omega) (by simp; omega) (Nat.zero_le _) (fun _ => rfl) x
      constructor
      · rintro ⟨k, hk, hx⟩
        split at hx
        · rename_i hc
          obtain ⟨h1, h2, h3⟩ := (ih k).1 hx
          obtain ⟨h4, h5⟩ := snoc_take h1
          refine ⟨h4, h2, ⟨h3.nl, h3.el, fun u hu1 hu2 => ?_, h3.es⟩⟩
          rcases Nat.lt_or_ge ns.length u with h | h
          · exact h3.ns u (by simp; omega) hu2
          · obtain rfl : u = ns.length := by omega
            exact ⟨k, h5, List.mem_range.1 hk, by rw [h4]; exact hc⟩
        · cases hx
      · rintro ⟨h1, h2, h3⟩
        obtain ⟨k, hk1, hk2, hk3⟩ := h3.ns ns.length (Nat.le_refl _) hlt
        rw [h1] at hk3
        refine ⟨k, List.mem_range.2 hk2, ?_⟩
        rw [if_pos hk3, ih k]
        exact ⟨take_snoc h1 hk1, h2, ⟨h3.nl, h3.el, fun u hu1 hu2 => h3.ns u (by simp at hu1; omega) hu2, h3.es⟩⟩
    · rename_i hlt
      rw [List.mem_flatMap]
      have hnl : ns.length = S.p.nodes.length := by omega
      have ih := fun k : Nat => find_mem (S := S) m ns (es ++ [(k : Int)]) (by unfold remS; simp only [List.length_append, List.length_cons, List.length_nil] at hm ⊢; omega) hn (by simp; omega) (fun h => absurd h hlt) x
      constructor
      · rintro ⟨k, hk, hx⟩
        split at hx
        · rename_i hc
          obtain ⟨h1, h2, h3⟩ := (ih k).1 hx
          obtain ⟨h4, h5⟩ := snoc_take h2
          have h6 : x.1 = ns := by rw [← h1, List.take_of_length_le (by rw [h3.nl]; omega)]
          refine ⟨h1, h4, ⟨h3.nl, h3.el, h3.ns, fun u hu1 hu2 => ?_⟩⟩
          rcases Nat.lt_or_ge es.length u with h | h
          · exact h3.es u (by simp; omega) hu2
          · obtain rfl : u = es.length := by omega
            exact ⟨k, h5, List.mem_range.1 hk, by rw [h4, h6]; exact hc⟩
        · cases hx
      · rintro ⟨h1, h2, h3⟩
        have h6 : x.1 = ns := by rw [← h1, List.take_of_length_le (by rw [h3.nl]; omega)]
        obtain ⟨k, hk1, hk2, hk3⟩ := h3.es es.length (Nat.le_refl _) (by omega)
        rw [h2, h6] at hk3
        refine ⟨k, List.mem_range.2 hk2, ?_⟩
        rw [if_pos hk3, ih k]
        exact ⟨h1, take_snoc h2 hk1, ⟨h3.nl, h3.el, h3.ns, fun u hu1 hu2 => h3.es u (by simp at hu1; omega) hu2⟩⟩
theorem mat_mem {S : Sea} {x : Mo} : x ∈ matL S ↔ IsF S 0 0 x := by
  unfold matL
  rw [find_mem (S := S) (S.p.nodes.length + S.p.edges.length) [] [] rfl (Nat.zero_le _) (Nat.zero_le _) (fun _ => rfl) x]
  exact ⟨fun h => h.2.2, fun h => ⟨rfl, rfl, h⟩⟩
theorem take_dec {l p : List Int} {k : Int} (h : l.take (p ++ [k]).length = p ++ [k]) : ∃ r, l = p ++ k :: r := by
  refine ⟨l.drop (p ++ [k]).length, ?_⟩
  have := List.take_append_drop (p ++ [k]).length l
  rw [h] at this
  simpa using this.symm
theorem cmpM_fst {a b : Mo} (h : Can.cmpL a.1 b.1 < 0) : cmpM a b < 0 := by
  unfold cmpM
  rw [if_pos (by omega)]
  exact h
theorem cmpM_snd {a b : Mo} (e : a.1 = b.1) (h : Can.cmpL a.2 b.2 < 0) : cmpM a b < 0 := by
  unfold cmpM
  rw [e, Can.cmpL_self, if_neg (by decide)]
  exact h
theorem find_srt {S : Sea} : ∀ (m : Nat) (ns es : List Int), m = remS S ns es → ns.length ≤ S.p.nodes.length → es.length ≤ S.p.edges.length → (ns.length < S.p.nodes.length → es = []) → SrtM (findL S m ns es)
  | 0, ns, es, _, _, _, _ => List.pairwise_singleton _ _
  | m + 1, ns, es, hm, hn, he, hne => by
    unfold remS at hm
    unfold findL
    split
    · rename_i hlt
      have he0 := hne hlt
      subst he0
      have hr : ∀ k : Nat, m = remS S (ns ++ [(k : Int)]) [] := fun k => by unfold remS; simp only [List.length_append, List.length_cons, List.length_nil] at hm ⊢; omega
      have hl : ∀ k : Nat, (ns ++ [(k : Int)]).length ≤ S.p.nodes.length := fun k => by simp; omega
      refine List.pairwise_flatMap.2 ⟨fun k _ => ?_, List.pairwise_lt_range.imp fun {k l} hkl x hx y hy => ?_⟩
      · split
        · exact find_srt m _ [] (hr k) (hl k) (Nat.zero_le _) (fun _ => rfl)
        · exact List.Pairwise.nil
      · split at hx
        · split at hy
          · obtain ⟨r, h1⟩ := take_dec ((find_mem m _ [] (hr k) (hl k) (Nat.zero_le _) (fun _ => rfl) x).1 hx).1
            obtain ⟨s, h2⟩ := take_dec ((find_mem m _ [] (hr l) (hl l) (Nat.zero_le _) (fun _ => rfl) y).1 hy).1
            refine cmpM_fst ?_
            rw [h1, h2]
            exact cmpL_pre_lt ns r s (by omega)
          · cases hy
        · cases hx
    · rename_i hlt
      have hr : ∀ k : Nat, m = remS S ns (es ++ [(k : Int)]) := fun k => by unfold remS; simp only [List.length_append, List.length_cons, List.length_nil] at hm ⊢; omega
      have hl : ∀ k : Nat, (es ++ [(k : Int)]).length ≤ S.p.edges.length := fun k => by simp; omega
      have hn' : ∀ k : Nat, ns.length < S.p.nodes.length → es ++ [(k : Int)] = [] := fun k h => absurd h hlt
      refine List.pairwise_flatMap.2 ⟨fun k _ => ?_, List.pairwise_lt_range.imp fun {k l} hkl x hx y hy => ?_⟩
      · split
        · exact find_srt m ns _ (hr k) hn (hl k) (hn' k)
        · exact List.Pairwise.nil
      · split at hx
        · split at hy
          · obtain ⟨a1, a2, a3⟩ := (find_mem m ns _ (hr k) hn (hl k) (hn' k) x).1 hx
            obtain ⟨b1, b2, b3⟩ := (find_mem m ns _ (hr l) hn (hl l) (hn' l) y).1 hy
            obtain ⟨r, h1⟩ := take_dec a2
            obtain ⟨s, h2⟩ := take_dec b2
            have e1 : x.1 = ns := by rw [← a1, List.take_of_length_le (by rw [a3.nl]; omega)]
            have e2 : y.1 = ns := by rw [← b1, List.take_of_length_le (by rw [b3.nl]; omega)]
            refine cmpM_snd (e1.trans e2.symm) ?_
            rw [h1, h2]
            exact cmpL_pre_lt es r s (by omega)
          · cases hy
        · cases hx
theorem mat_srt (S : Sea) : SrtM (matL S) := find_srt _ [] [] rfl (Nat.zero_le _) (Nat.zero_le _) (fun _ => rfl)
end Go.Sj.Inc
end
