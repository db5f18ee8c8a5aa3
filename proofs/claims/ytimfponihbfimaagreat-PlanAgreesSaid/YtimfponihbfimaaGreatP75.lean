/- Parts of a proof. -/
import Derived.WalkKit
import Derived.WalkSpells
import Derived.WalkLawsBesides
import Derived.Deep.Draws
import Derived.Orders
import Derived.Still
import Derived.Laws.Cover3
import Derived.ProofKit
import Derived.WideKeyArgs
import Derived.OpenShut
import Derived.SizedLaws
import Derived.Laws.Externs
import Derived.Laws.Runes
import Derived.Handy
import Derived.Lib.AppendZerosOnto
import Derived.Lib.Overlaps
import Derived.Test.YtimfponihbfimaaGreatProg
import Derived.Test.YtimfponihbfimaaGreatP01
import Derived.Test.YtimfponihbfimaaGreatP02
import Derived.Test.YtimfponihbfimaaGreatP03
import Derived.Test.YtimfponihbfimaaGreatP04
import Derived.Test.YtimfponihbfimaaGreatP05
import Derived.Test.YtimfponihbfimaaGreatP06
import Derived.Test.YtimfponihbfimaaGreatP07
import Derived.Test.YtimfponihbfimaaGreatP08
import Derived.Test.YtimfponihbfimaaGreatP09
import Derived.Test.YtimfponihbfimaaGreatP10
import Derived.Test.YtimfponihbfimaaGreatP11
import Derived.Test.YtimfponihbfimaaGreatP12
import Derived.Test.YtimfponihbfimaaGreatP13
import Derived.Test.YtimfponihbfimaaGreatP14
import Derived.Test.YtimfponihbfimaaGreatP15
import Derived.Test.YtimfponihbfimaaGreatP16
import Derived.Test.YtimfponihbfimaaGreatP17
import Derived.Test.YtimfponihbfimaaGreatP18
import Derived.Test.YtimfponihbfimaaGreatP19
import Derived.Test.YtimfponihbfimaaGreatP20
import Derived.Test.YtimfponihbfimaaGreatP21
import Derived.Test.YtimfponihbfimaaGreatP22
import Derived.Test.YtimfponihbfimaaGreatP23
import Derived.Test.YtimfponihbfimaaGreatP24
import Derived.Test.YtimfponihbfimaaGreatP25
import Derived.Test.YtimfponihbfimaaGreatP26
import Derived.Test.YtimfponihbfimaaGreatP27
import Derived.Test.YtimfponihbfimaaGreatP28
import Derived.Test.YtimfponihbfimaaGreatP29
import Derived.Test.YtimfponihbfimaaGreatP30
import Derived.Test.YtimfponihbfimaaGreatP31
import Derived.Test.YtimfponihbfimaaGreatP32
set_option linter.unusedVariables false
set_option linter.unusedSimpArgs false
section
namespace Go.Sj
section steps
variable {P : Program} {N : Nat} {ops : List Oper} {Q : St → Own → Prop} {L : Own} {rest : List (Oper × Kd)} {l : List (Nat × AV)} {k : Kd} {q : Nat}
section heads
variable {tt : List (TypeId × TD)} (ok : TOK P tt) {o : Oper} (hdst : o.dst = some q) (hd : Nat.blt q N = true) (hg : guardA ops o (lk l) = some true)
include ok hdst hd hg
end heads
theorem s_rem {o : Oper} {T T' : TypeId} {x y : Operand} {kk : IntKind} {a b : Int} (ho : o.op = .binOp .rem T x y T') (hdst : o.dst = some q) (hd : Nat.blt q N = true) (hg : guardA ops o (lk l) = some true)
    (hx : ev (lk l) x = .lit (.int kk a)) (hy : ev (lk l) y = .lit (.int kk b)) (ha : 0 ≤ a) (hb : 0 < b)
    (n : AL P N ops Q rest (lk ((q, .lit (.int kk (a % b))) :: l)) L) : AL P N ops Q ((o, k) :: rest) (lk l) L := by
  obtain ⟨dst, op', ty, pos, after, g⟩ := o
  simp only at ho
  subst ho
  refine s_pure hdst hd hg ⟨fun σ F w ρ hR hρ => ⟨.int kk (a % b), ?_, .lit _⟩⟩ n
  have h1 := hρ x (by simp [Op.operands])
  have h2 := hρ y (by simp [Op.operands])
  rw [hx] at h1
  rw [hy] at h2
  have hb0 : b ≠ 0 := by omega
  simp [execOp, h1.lit_inv, h2.lit_inv, eqGuard, binOp, Op.intDiv, hb0, Int.tmod_eq_emod_of_nonneg ha]
end steps
end Go.Sj
namespace Go.Sj
section
variable {P : Program} {N : Nat} {ops : List Oper} {Q : St → Own → Prop} {L : Own} {rest : List (Oper × Kd)} {l : List (Nat × AV)} {k : Kd} {q : Nat}
end
end Go.Sj
namespace Go.Sj
end Go.Sj
namespace Go.Sj
section
variable {P : Program} {N : Nat} {ops : List Oper} {Q : St → Own → Prop} {L : Own} {rest : List (Oper × Kd)} {l : List (Nat × AV)} {k : Kd} {q : Nat}
end
end Go.Sj
end
section
namespace Go.Sj
theorem a_freeze {P : Program} {N : Nat} {c : Code} {Q : Exit → St → Own → Prop} {st : St} {L : Own} (i : Nat) {v : Value} {E sz : Nat} {es : List (List AV)} (hL : L[i]? = some (v, .row E sz es)) (st' : St) (hst : FZS v sz es st st') (M : Own) (hM : FZO v sz es (L.eraseIdx i) M)
    (k : AWp P N c Q st' M) : AWp P N c Q st L :=
  ⟨fun σ F w a hr ht => by
    obtain ⟨h1, h2⟩ := (hr.at hL).freeze hM
    have ht' : TR (frz σ w v) N st' a := ⟨ht.defers, ht.size, fun j => hst j _ _ h2 ((ht.mono (frz_le σ w v)).vals j)⟩
    exact wp_mono (k.out _ F w a h1 ht') fun e a' w' hp => hp.le (frz_le σ w v)⟩
end Go.Sj
namespace Go.Sj
section
variable {P : Program} {N : Nat} {ops : List Oper} {Q : St → Own → Prop} {L : Own} {rest : List (Oper × Kd)} {l : List (Nat × AV)} {k : Kd} {q : Nat}
end
end Go.Sj
namespace Go.Sj
section
variable {P : Program} {N : Nat} {ops : List Oper} {Q : St → Own → Prop} {L : Own} {rest : List (Oper × Kd)} {l : List (Nat × AV)} {q : Nat}
end
end Go.Sj
namespace Go.Sj
section
variable {P : Program} {N : Nat} {ops : List Oper} {Q : St → Own → Prop} {L : Own} {rest : List (Oper × Kd)} {l : List (Nat × AV)} {k : Kd} {q : Nat}
theorem s_loadI {tt : List (TypeId × TD)} (ok : TOK P tt) (i : Nat) {o : Oper} {T : TypeId} {x : Operand} {d : TD} {v : Value} {E j : Nat} {xs : List Int} {a : Int}
    (ho : o.op = .load T x) (hdst : o.dst = some q) (hd : Nat.blt q N = true) (hg : guardA ops o (lk l) = some true) (hk : k ≠ .pure) (hT : lkT tt T = some d) (ha : d.isAgg = false) (hx : ev (lk l) x = .pt v 1 j 0) (hL : L[i]? = some (v, .row E 1 (rowI xs))) (hj : xs[j]? = some a)
    (n : AL P N ops Q rest (lk ((q, AI a) :: l)) L) : AL P N ops Q ((o, k) :: rest) (lk l) L :=
  s_ownLoad ok i ho hdst hd hg hk hT hx hL rfl (cells := [AI a]) (by simp only [obAt, zmp hj]; rfl) (by simp [partA, ha]) (by simp) n
end
end Go.Sj
end
section
namespace Go.Sj
open Go.ChangeShapes Go.WideShapes Go.ChangeAt Go.RowKit
theorem reads_arr {P : Program} {t e n : Nat} {k : IntKind} (ht : P.underlying t = some (.array n e)) (he : P.underlying e = some (.int k)) (hc : P.cellsOf e = 1) (hct : P.cellsOf t = n) (hn : 0 < n) :
    Reads P t n (fun l : List Int => l.map fun m => .lit (.int k m)) (fun l => l.length = n ∧ ∀ m ∈ l, (Lit.int k m).wf = true) :=
  ⟨hct, hn, fun l h => by simp [h.1], fun {H enc w base sp held fuel cs x} h => by
    obtain ⟨xs, m, _, _, hl, hxl, hi⟩ := DataW.trod_array ht h
    rw [hct] at hl
    have each : ∀ i, i < n → ∃ z : Int, cs[i]? = some (.int k z) ∧ (Lit.int k z).wf = true := by
      intro i hin
      have := hi i hin
      rw [List.getElem?_eq_getElem (by omega)] at this
      obtain ⟨z, hz, _, hw⟩ := DataW.trod_int he this
      rw [hc, Nat.mul_one] at hz
      refine ⟨z, ?_, hw⟩
      have := congrArg (·[0]?) hz
      simpa [List.getElem?_take] using this
    obtain ⟨l, hll, hr⟩ := list_of n each
    refine ⟨l, ⟨hll, fun z hz => ?_⟩, by simp [hl, hll], fun j a y ha hy => ?_⟩
    · obtain ⟨i, hi', rfl⟩ := List.mem_iff_getElem.1 hz
      exact (hr i _ (List.getElem?_eq_getElem hi')).2
    · rw [List.getElem?_map] at ha
      cases hlj : l[j]? with
      | none => rw [hlj] at ha; cases ha
      | some z =>
        rw [hlj] at ha
        simp at ha
        subst ha
        have := (hr j z hlj).1
        rw [hy] at this
        cases this
        exact .lit _⟩
variable {H : Type} {enc : TypeId × Value → H} {P : Program}
end Go.Sj
namespace Go.Sj
open Go.ChangeShapes Go.WideShapes Go.ChangeAt Go.RowKit
end Go.Sj
namespace Go.Sj
open Go.ChangeShapes Go.WideShapes Go.ChangeAt Go.RowKit
end Go.Sj
end
section
namespace Go.Sj
section
variable {N : Nat} {st st' st'' : St} {L L' L'' : Own}
end
theorem a_know {P : Program} {N : Nat} {c : Code} {Q : Exit → St → Own → Prop} {st : St} {L : Own} (i : Nat) {v : Value} {E sz : Nat} {es : List (List AV)} (hL : L[i]? = some (v, .row E sz es)) (k : v.oneCell' = true → AWp P N c Q st L) : AWp P N c Q st L :=
  ⟨fun σ F w a h1 h2 => (k (own_row_cell (h1.own1 hL))).out σ F w a h1 h2⟩
end Go.Sj
namespace Go.Sj
end Go.Sj
namespace Go.Sj
section
variable {P : Program} {N : Nat} {ops : List Oper} {Q : St → Own → Prop} {L : Own} {rest : List (Oper × Kd)} {l : List (Nat × AV)} {k : Kd} {q : Nat}
theorem s_arrIp {tt : List (TypeId × TD)} (ok : TOK P tt) {o : Oper} {T : TypeId} {x y : Operand} {E m s1 b1 : Nat} {z1 : List Value} {d : TD} {cells : List AV} {kk : IntKind} {i : Int} (ho : o.op = .indexAddr T x y) (hdst : o.dst = some q) (hd : Nat.blt q N = true) (hg : guardA ops o (lk l) = some true)
    (hT : lkT tt T = some ⟨.array m E, s1, b1, z1⟩) (hE : lkT tt E = some d) (hx : ev (lk l) x = .ip cells) (hy : ev (lk l) y = .lit (.int kk i)) (h0 : 0 ≤ i) (h1 : i < m)
    (n : AL P N ops Q rest (lk ((q, .ip (cells.drop (i.toNat * d.size))) :: l)) L) : AL P N ops Q ((o, k) :: rest) (lk l) L := by
  obtain ⟨dst, op', ty, pos, after, g⟩ := o
  simp only at ho
  subst ho
  refine s_pure hdst hd hg ⟨fun σ F w ρ hR hρ => ?_⟩ n
  have e1 := hρ x (by simp [Op.operands])
  have e2 := hρ y (by simp [Op.operands])
  rw [hx] at e1
  rw [hy] at e2
  have hu := (ok _ _ hT).array rfl
  have hs := (ok _ _ hE).sizeOf_run
  generalize hv : ρ x = u at e1
  cases e1 with
  | ip _ b off c E' fr f a1 a2 a3 =>
    refine ⟨.pointer (some ⟨b, off + i.toNat * d.size, none⟩), ?_, .ip _ b (off + i.toNat * d.size) c E' fr (fun j => f (i.toNat * d.size + j)) a1 (fun j y hy => ?_) (fun j y hy => ?_)⟩
    · have hadd : (⟨b, off, none⟩ : Addr).add (i.toNat * d.size) = ⟨b, off + i.toNat * d.size, none⟩ := by
        unfold Addr.add; split <;> simp_all
      simp [execOp, hv, e2.lit_inv, Instr.indexAt, Instr.sureAddr, asIntOf, run_underlying hu, h0, h1, hs, hadd]
    · rw [List.getElem?_drop] at hy
      rw [Nat.add_assoc]
      exact a2 _ y hy
    · rw [List.getElem?_drop] at hy
      exact a3 _ y hy
end
end Go.Sj
namespace Go.Sj
end Go.Sj
namespace Go.Sj
section
variable {P : Program} {N : Nat} {ops : List Oper} {Q : St → Own → Prop} {L : Own} {rest : List (Oper × Kd)} {l : List (Nat × AV)} {k : Kd} {q : Nat}
end
end Go.Sj
namespace Go.Sj
section
variable {P : Program} {N : Nat} {ops : List Oper} {Q : St → Own → Prop} {L : Own} {rest : List (Oper × Kd)} {l : List (Nat × AV)} {k : Kd} {q : Nat}
end
end Go.Sj
namespace Go.Sj
end Go.Sj
end
section
namespace Go.Sj
section
variable {P : Program} {N : Nat} {ops : List Oper} {Q : St → Own → Prop} {L : Own} {rest : List (Oper × Kd)} {l : List (Nat × AV)} {k : Kd} {q : Nat}
end
end Go.Sj
namespace Go.Sj
section
variable {P : Program} {N : Nat} {ops : List Oper} {Q : St → Own → Prop} {L : Own} {rest : List (Oper × Kd)} {l : List (Nat × AV)} {k : Kd} {q : Nat}
end
end Go.Sj
namespace Go.Sj
section
variable {P : Program} {N : Nat} {ops : List Oper} {Q : St → Own → Prop} {L : Own} {rest : List (Oper × Kd)} {l : List (Nat × AV)} {k : Kd} {q : Nat}
end
end Go.Sj
namespace Go.Sj
section
variable {P : Program} {N : Nat} {ops : List Oper} {Q : St → Own → Prop} {L : Own} {rest : List (Oper × Kd)} {l : List (Nat × AV)} {k : Kd} {q : Nat}
end
end Go.Sj
namespace Go.Sj
section
variable {P : Program} {N : Nat} {ops : List Oper} {Q : St → Own → Prop} {L : Own} {rest : List (Oper × Kd)} {l : List (Nat × AV)} {k : Kd} {q : Nat}
theorem s_zeroArr {tt : List (TypeId × TD)} (ok : TOK P tt) {o : Oper} {T : TypeId} {n E s1 b1 : Nat} {z : List Value} {d : TD} (ho : o.op = .build T #[]) (hdst : o.dst = some q) (hd : Nat.blt q N = true) (hg : guardA ops o (lk l) = some true)
    (hT : lkT tt T = some ⟨.array n E, s1, b1, z⟩) (hE : lkT tt E = some d)
    (nx : AL P N ops Q rest (lk ((q, .agg (z.map .lit)) :: l)) L) : AL P N ops Q ((o, k) :: rest) (lk l) L := by
  obtain ⟨dst, op', ty, pos, after, g⟩ := o
  simp only at ho
  subst ho
  refine s_pure hdst hd hg ⟨fun σ F w ρ hR hρ => ?_⟩ nx
  obtain ⟨z0, hz, hzl⟩ := (ok _ _ hT).zero_run w
  simp only at hzl
  have hu := (ok _ _ hT).array rfl
  have hs := (ok _ _ hE).sizeOf_run
  refine ⟨.agg z0.cells, ?_, ?_⟩
  · simp only [execOp, Instr.build, Sem.run_bind, hz, Result.andThen_ok, run_underlying hu, hs, List.map_toArray, List.map_nil]
    simp [Instr.fill, Sem.run_pure]
  · have h := VR.agg_of (VRs.lits (σ := σ) z)
    rw [← hzl] at h ⊢
    simpa using h
theorem s_eqD {o : Oper} {T T' : TypeId} {x y : Operand} {kk : IntKind} {a b : Int} (ho : o.op = .binOp .eql T x y T') (hdst : o.dst = some q) (hd : Nat.blt q N = true) (hg : guardA ops o (lk l) = some true)
    (hx : ev (lk l) x = .lit (.int kk a)) (hy : ev (lk l) y = .lit (.int kk b))
    (n : AL P N ops Q rest (lk ((q, .lit (.bool (decide (a = b)))) :: l)) L) : AL P N ops Q ((o, k) :: rest) (lk l) L := by
  refine s_cmp ho hdst hd hg hx hy rfl (fun h => ?_) (fun h => ?_)
  · simp only [cmpP] at h
    rw [decide_eq_true h] at n
    exact n
  · simp only [cmpP] at h
    rw [decide_eq_false h] at n
    exact n
end
theorem subLL_map {A : Type} {f g : A → List AV} (h : ∀ a, SubL (f a) (g a)) : ∀ l : List A, SubLL (l.map f) (l.map g)
  | [] => trivial
  | a :: l => ⟨h a, subLL_map h l⟩
end Go.Sj
namespace Go.Sj
def ATK (ks : List Kd) (P : Program) (N : Nat) (l : List Oper) (Q : St → Own → Prop) : OT → St → Own → Prop
  | .seg is, st, L => AL P N l Q (mkLK ks l is) st L
  | .br is a b, st, L => AL P N l (fun st' L' => ATK ks P N l Q a st' L' ∧ ATK ks P N l Q b st' L') (mkLK ks l is) st L
theorem atk_seg {ks : List Kd} {P : Program} {N : Nat} {l : List Oper} {Q : St → Own → Prop} {is : List Nat} {st : St} {L : Own} (h : AL P N l Q (mkLK ks l is) st L) : ATK ks P N l Q (.seg is) st L := h
theorem atk_br {ks : List Kd} {P : Program} {N : Nat} {l : List Oper} {Q : St → Own → Prop} {is : List Nat} {a b : OT} {st : St} {L : Own} (h : AL P N l (fun st' L' => ATK ks P N l Q a st' L' ∧ ATK ks P N l Q b st' L') (mkLK ks l is) st L) : ATK ks P N l Q (.br is a b) st L := h
theorem AAny_treeK {ks : List Kd} {P : Program} {N : Nat} {l : List Oper} {Q : St → Own → Prop} : ∀ (t : OT) (listed : Array Bool) (st : St) (L : Own), t.all l.length = true → ATK ks P N l Q t st L →
    (chkT l.toArray ks false t listed = true → AAny P N l ks Q t.len listed st L) ∧
    (∀ k o, chkT l.toArray ks true t listed = true → t.hd = some k → l[k]? = some o → ks.getD k .eff = .eff → ∃ m, t.len = m + 1 ∧ AK P N l .eff o (AAny P N l ks Q m (listed.setIfInBounds k true)) st L)
  | .seg is, listed, st, L, hall, h => by
    obtain ⟨f1, f2⟩ := mkLK_facts (ks := ks) hall
    simp only [ATK] at h
    refine ⟨fun hc => ?_, fun k o hc hk ho hkd => ?_⟩
    · simp only [chkT, chkF] at hc
      split at hc
      · rename_i li hli
        have := AAny_pre (ks := ks) (Q := Q) (fuel := 0) (li := li) h (fun st L hq => ⟨by simpa using hc, hq⟩) is listed f1 f2 hli
        rw [← f1] at this
        exact this
      · cases hc
    · cases is with
      | nil => cases hk
      | cons k' is =>
        simp only [OT.hd, Option.some.injEq] at hk
        subst hk
        simp only [chkT, chkF] at hc
        simp only [OT.all, List.all_cons, Bool.and_eq_true] at hall
        obtain ⟨g1, g2⟩ := mkLK_facts (ks := ks) hall.2
        rw [mkLK_cons ho, hkd] at h
        split at hc
        · rename_i li hli
          refine ⟨is.length, rfl, (AL_head h).mono fun st' L' h' => ?_⟩
          have := AAny_pre (ks := ks) (Q := Q) (fuel := 0) (li := li) h' (fun st L hq => ⟨by simpa using hc, hq⟩) is _ g1 g2 hli
          rw [← g1] at this
          exact this
        · cases hc
  | .br is a b, listed, st, L, hall, h => by
    simp only [OT.all, Bool.and_eq_true] at hall
    obtain ⟨⟨hall1, ha⟩, hb⟩ := hall
    obtain ⟨f1, f2⟩ := mkLK_facts (ks := ks) hall1
    simp only [ATK] at h
    have part : ∀ (li : Array Bool), (match a.hd, b.hd with
      | some x, some y => (Region.ready .any l.toArray li == [x, y]) && (ks.getD x .eff == .eff) && (ks.getD y .eff == .eff) && (a.len == b.len) && chkT l.toArray ks true a li && chkT l.toArray ks true b li
      | _, _ => false) = true → ∀ st' L', ATK ks P N l Q a st' L' ∧ ATK ks P N l Q b st' L' → AAny P N l ks Q a.len li st' L' := by
      intro li hc st' L' ⟨hA, hB⟩
      split at hc
      · rename_i x y hx hy
        simp only [Bool.and_eq_true, beq_iff_eq] at hc
        obtain ⟨⟨⟨⟨⟨c1, c2⟩, c3⟩, c4⟩, c5⟩, c6⟩ := hc
        have hlen : ∃ m, a.len = m + 1 := by
          cases a with
          | seg is => cases is with
            | nil => cases hx
            | cons k is => exact ⟨is.length, rfl⟩
          | br is a b => cases is with
            | nil => cases hx
            | cons k is => exact ⟨is.length + a.len, by simp only [OT.len, List.length_cons]; omega⟩
        obtain ⟨m, hm⟩ := hlen
        rw [hm]
        refine ⟨fun hr => (by rw [hr] at c1; cases c1), fun i hi o ho => ?_⟩
        rw [c1] at hi
        rcases List.mem_cons.1 hi with rfl | hi
        · have hk := c2
          obtain ⟨m', e1, e2⟩ := (AAny_treeK a li st' L' ha hA).2 i o c5 hx ho hk
          obtain rfl : m = m' := by omega
          rw [hk]; exact e2
        · obtain rfl : i = y := by simpa using hi
          have hk := c3
          obtain ⟨m', e1, e2⟩ := (AAny_treeK b li st' L' hb hB).2 i o c6 hy ho hk
          obtain rfl : m = m' := by omega
          rw [hk]; exact e2
      · cases hc
    refine ⟨fun hc => ?_, fun k o hc hk ho hkd => ?_⟩
    · simp only [chkT, chkF] at hc
      split at hc
      · rename_i li hli
        have := AAny_pre (ks := ks) (Q := Q) (fuel := a.len) (li := li) h (part li hc) is listed f1 f2 hli
        rw [← f1] at this
        exact this
      · cases hc
    · cases is with
      | nil => cases hk
      | cons k' is =>
        simp only [OT.hd, Option.some.injEq] at hk
        subst hk
        simp only [chkT, chkF] at hc
        simp only [List.all_cons, Bool.and_eq_true] at hall1
        obtain ⟨g1, g2⟩ := mkLK_facts (ks := ks) hall1.2
        rw [mkLK_cons ho, hkd] at h
        split at hc
        · rename_i li hli
          refine ⟨is.length + a.len, by simp only [OT.len, List.length_cons]; omega, (AL_head h).mono fun st' L' h' => ?_⟩
          have := AAny_pre (ks := ks) (Q := Q) (fuel := a.len) (li := li) h' (part li hc) is _ g1 g2 hli
          rw [← g1] at this
          exact this
        · cases hc
theorem a_regTK {ks : List Kd} {P : Program} {N : Nat} {Q : Exit → St → Own → Prop} {st : St} {L : Own} {id : Nat} {l : List Oper} (t : OT) (hm : P.follows .mixedOrders = true) (hlen : t.len = l.length) (hin : t.all l.length = true)
    (hc : chkT l.toArray ks false t (Array.replicate l.length false) = true)
    (h : ATK ks P N l (fun st' L' => Q .normal st' L') t st L) : AWp P N (.region id l.toArray true) Q st L :=
  ⟨fun σ F w a hr ht => wp_region_any hm (by
    have h1 := (AAny_treeK t (Array.replicate l.length false) st L hin h).1 hc
    rw [hlen] at h1
    have := AAny_wp (F := F) (Q' := Post σ N F Q) l.length _ st L σ a { w with drawn := w.drawn + 1 } h1 (hr.grow (fun _ _ => rfl) rfl rfl) ht (fun τ st' L' a' w' a1 a2 a3 a4 => ⟨τ, st', L', a1, a2, a3, a4⟩)
    simpa using this)⟩
end Go.Sj
end
section
namespace Go.Sj.Typ
open Go.Sj
end Go.Sj.Typ
namespace Go.Sj.Typ
open Go.Sj
end Go.Sj.Typ
namespace Go.Sj.Typ
open Go.Sj
section
variable {ns : List Nod} (h : PR ns ns.length)
include h
end
def nmS (l : List UInt8) (i : Nat) : ByteArray := (ByteArray.mk l.toArray).extract i (i + 1)
def upper : List UInt8 := [65, 66, 67, 68, 69, 70]
def lower : List UInt8 := [117, 118, 119, 120, 121, 122]
def edgeL : List UInt8 := [101, 102, 103, 104, 105]
def offS : ByteArray := ⟨#[111, 102, 102]⟩
def onS : ByteArray := ⟨#[111, 110]⟩
def madeA (i : Nat) (y : Int) : List Att := if y % 4 = 1 then [⟨nmS lower i, -3, 3 + y / 4 % 9, []⟩] else if y % 4 = 2 then [⟨nmS lower i, 0, 1, [offS, onS]⟩] else []
def madeN (i : Nat) (x y : Int) : Nod := ⟨nmS upper i, x % (i + 1) - 1, decide (x / 16 % 4 = 3), madeA i y⟩
def codeAt (l : List (Int × Int)) (i : Nat) : Int × Int := l.getD i (0, 0)
def madeNs (l : List (Int × Int)) (n : Nat) : List Nod := (List.range n).map fun i => madeN i (codeAt l i).1 (codeAt l i).2
def zmu (l : List (Int × Int)) : Nat := if l.length = 0 then 1 else min 6 l.length
def madeE (n : Nat) (i : Nat) (c : Int × Int) : Edg := ⟨nmS edgeL i, c.1 % n, c.2 % n, 0, -1, 0, -1⟩
def madeEs (n : Nat) (l : List (Int × Int)) (m : Nat) : List Edg := (List.range m).map fun i => madeE n i (codeAt l i)
def madeT (nodes edges : List (Int × Int)) : Tys := ⟨madeNs nodes (zmu nodes), madeEs (zmu nodes) edges (min 5 edges.length)⟩
def Cd (l : List (Int × Int)) : Prop := ∀ c ∈ l, (0 ≤ c.1 ∧ c.1 ≤ 255) ∧ (0 ≤ c.2 ∧ c.2 ≤ 255)
theorem codeAt_rng {l : List (Int × Int)} (h : Cd l) (i : Nat) : (0 ≤ (codeAt l i).1 ∧ (codeAt l i).1 ≤ 255) ∧ (0 ≤ (codeAt l i).2 ∧ (codeAt l i).2 ≤ 255) := by
  unfold codeAt
  rw [List.getD_eq_getElem?_getD]
  cases hx : l[i]? with
  | none => simp
  | some c => exact h c (List.mem_of_getElem? hx)
theorem madeNum_rng (l : List (Int × Int)) : 1 ≤ zmu l ∧ zmu l ≤ 6 := by
  unfold zmu
  split <;> omega
theorem nm_upper : ∀ i, i < 6 → nameB (nmS upper i) = true ∧ (nmS upper i).size = 1 := by decide +kernel
theorem nm_lower : ∀ i, i < 6 → nameB (nmS lower i) = true ∧ (nmS lower i).size = 1 := by decide +kernel
theorem nm_edge : ∀ i, i < 5 → nameB (nmS edgeL i) = true ∧ (nmS edgeL i).size = 1 := by decide +kernel
theorem nm_upper_ne : ∀ i, i < 6 → ∀ j, j < i → nmS upper j ≠ nmS upper i := by decide +kernel
theorem nm_lower_ne : ∀ i, i < 6 → ∀ j, j < i → nmS lower j ≠ nmS lower i := by decide +kernel
theorem nm_edge_ne : ∀ i, i < 5 → ∀ j, j < i → nmS edgeL j ≠ nmS edgeL i := by decide +kernel
theorem names_on : namesE [offS, onS] = 0 := by decide +kernel
theorem madeNs_get {l : List (Int × Int)} {n i : Nat} (h : i < n) : (madeNs l n)[i]? = some (madeN i (codeAt l i).1 (codeAt l i).2) := by simp [madeNs, h]
theorem madeNs_len (l : List (Int × Int)) (n : Nat) : (madeNs l n).length = n := by simp [madeNs]
theorem madePR (l : List (Int × Int)) (n : Nat) : PR (madeNs l n) n := fun i m hi hm => by
  rw [madeNs_get hi] at hm
  cases hm
  simp only [madeN]
  have h1 := Int.emod_nonneg (codeAt l i).1 (b := (i : Int) + 1) (by omega)
  have h2 := Int.emod_lt_of_pos (codeAt l i).1 (b := (i : Int) + 1) (by omega)
  omega
theorem madeA_len (i : Nat) (y : Int) : (madeA i y).length ≤ 1 := by
  unfold madeA
  split
  · simp
  · split <;> simp
theorem madeA_mem {i : Nat} {y : Int} {a : Att} (h : a ∈ madeA i y) : a.name = nmS lower i := by
  unfold madeA at h
  split at h
  · obtain rfl := List.mem_singleton.1 h; rfl
  · split at h
    · obtain rfl := List.mem_singleton.1 h; rfl
    · cases h
theorem madeA_body {i : Nat} {y : Int} {a : Att} (h : a ∈ madeA i y) : bodyE a = 0 := by
  unfold madeA at h
  split at h
  · obtain rfl := List.mem_singleton.1 h
    unfold bodyE rangeE
    rw [show namesE [] = 0 from rfl, if_neg (by decide), if_pos rfl, if_pos]
    simp only
    omega
  · split at h
    · obtain rfl := List.mem_singleton.1 h
      unfold bodyE rangeE
      rw [names_on, if_neg (by decide), if_neg (by simp), if_pos]
      simp
    · cases h
theorem made_attrs {l : List (Int × Int)} {n : Nat} : ∀ (m : Nat) (a : Int), a + 1 ≤ m → a < n → (attrsOf (madeNs l n) a).length ≤ m ∧ ∀ x ∈ attrsOf (madeNs l n) a, ∃ i : Nat, (i : Int) ≤ a ∧ x ∈ madeA i (codeAt l i).2
  | 0, a, hm, ha => by rw [attrsOf_neg (by omega)]; simp
  | m + 1, a, hm, ha => by
    by_cases h0 : a < 0
    · rw [attrsOf_neg h0]; simp
    · have hx := madeNs_get (l := l) (n := n) (i := a.toNat) (by omega)
      have hp := madePR l n a.toNat _ (by omega) hx
      rw [attrsOf_step (madePR l n) (by omega) ha hx]
      obtain ⟨i1, i2⟩ := made_attrs (l := l) (n := n) m _ (by omega : (madeN a.toNat (codeAt l a.toNat).1 (codeAt l a.toNat).2).par + 1 ≤ m) (by omega)
      have := madeA_len a.toNat (codeAt l a.toNat).2
      refine ⟨by rw [List.length_append]; simp only [madeN] at *; omega, fun x hx => ?_⟩
      rcases List.mem_append.1 hx with h1 | h1
      · obtain ⟨i, hi, hxi⟩ := i2 x h1
        exact ⟨i, by omega, hxi⟩
      · exact ⟨a.toNat, by omega, h1⟩
theorem made_node {l : List (Int × Int)} {n i : Nat} (hn : n ≤ 6) (hi : i < n) : nodeE (madeNs l n) i = 0 := by
  have hx := madeNs_get (l := l) hi
  have hp := madePR l n i _ hi hx
  have hst := attrsOf_step (madePR l n) (a := (i : Int)) (by omega) (by omega) hx
  obtain ⟨hl1, hm1⟩ := made_attrs (l := l) (n := n) 6 (i : Int) (by omega) (by omega)
  obtain ⟨_, hm2⟩ := made_attrs (l := l) (n := n) 6 (madeN i (codeAt l i).1 (codeAt l i).2).par (by omega) (by omega)
  unfold nodeE
  rw [hx]
  simp only
  have hany : ((madeNs l n).take i).any (fun m => decide (m.name = (madeN i (codeAt l i).1 (codeAt l i).2).name)) = false := by
    rw [List.any_eq_false]
    intro m hm
    rw [List.mem_take_iff_getElem] at hm
    obtain ⟨j, hj, rfl⟩ := hm
    have hjl : j < n := by rw [madeNs_len] at hj; omega
    have : (madeNs l n)[j]'(by rw [madeNs_len]; exact hjl) = madeN j (codeAt l j).1 (codeAt l j).2 := by
      have := madeNs_get (l := l) hjl
      rw [List.getElem?_eq_getElem (by rw [madeNs_len]; exact hjl)] at this
      exact Option.some.inj this
    rw [this]
    exact fun h => nm_upper_ne i (by omega) j (by omega) (of_decide_eq_true h)
  rw [if_neg (by simp only [madeN]; rw [(nm_upper i (by omega)).1]; decide), hany, if_neg (by decide), if_neg (by omega)]
  have hal := madeA_len i (codeAt l i).2
  rw [if_neg (by simp only [madeN]; omega), if_neg (by omega)]
  refine firstN_none fun j hj => ?_
  have hj0 : j = 0 := by simp only [madeN] at hj; omega
  subst hj0
  have hlen : (attrsOf (madeNs l n) i).length - (madeN i (codeAt l i).1 (codeAt l i).2).attrs.length + 0 = (attrsOf (madeNs l n) (madeN i (codeAt l i).1 (codeAt l i).2).par).length := by
    rw [hst, List.length_append]; omega
  rw [hlen]
  have hone : ∃ a, madeA i (codeAt l i).2 = [a] := by
    simp only [madeN] at hj
    match hma : madeA i (codeAt l i).2, hj, hal with
    | [a], _, _ => exact ⟨a, rfl⟩
    | [], hj, _ => simp at hj
    | _ :: _ :: _, _, hal => simp at hal
  obtain ⟨a, hone⟩ := hone
  have hat : (madeN i (codeAt l i).1 (codeAt l i).2).attrs = [a] := hone
  rw [hst, hat]
  unfold attAt
  rw [List.getElem?_append_right (Nat.le_refl _), Nat.sub_self]
  simp only [List.getElem?_cons_zero, List.take_left']
  have ham : a ∈ madeA i (codeAt l i).2 := by rw [hone]; exact List.mem_cons_self ..
  unfold attrE
  rw [madeA_mem ham, (nm_lower i (by omega)).1, if_neg (by decide)]
  rw [if_neg, madeA_body ham]
  rw [Bool.not_eq_true, List.any_eq_false]
  intro x hx'
  obtain ⟨j, hj, hxj⟩ := hm2 x hx'
  rw [madeA_mem hxj]
  exact fun h => nm_lower_ne i (by omega) j (by omega) (of_decide_eq_true h)
theorem madeEs_get {n : Nat} {l : List (Int × Int)} {m i : Nat} (h : i < m) : (madeEs n l m)[i]? = some (madeE n i (codeAt l i)) := by simp [madeEs, h]
theorem madeEs_len (n : Nat) (l : List (Int × Int)) (m : Nat) : (madeEs n l m).length = m := by simp [madeEs]
theorem made_edge {t : Tys} {n m i : Nat} {l : List (Int × Int)} (ht : t.edges = madeEs n l m) (hn : t.nodes.length = n) (h0 : 0 < n) (hm : m ≤ 5) (hi : i < m) : edgeE t i = 0 := by
  have hx := madeEs_get (n := n) (l := l) hi
  unfold edgeE
  rw [ht, hx]
  simp only
  have hany : ((madeEs n l m).take i).any (fun e => decide (e.name = (madeE n i (codeAt l i)).name)) = false := by
    rw [List.any_eq_false]
    intro e he
    rw [List.mem_take_iff_getElem] at he
    obtain ⟨j, hj, rfl⟩ := he
    have hjl : j < m := by rw [madeEs_len] at hj; omega
    have : (madeEs n l m)[j]'(by rw [madeEs_len]; exact hjl) = madeE n j (codeAt l j) := by
      have := madeEs_get (n := n) (l := l) hjl
      rw [List.getElem?_eq_getElem (by rw [madeEs_len]; exact hjl)] at this
      exact Option.some.inj this
    rw [this]
    exact fun h => nm_edge_ne i (by omega) j (by omega) (of_decide_eq_true h)
  have a1 := Int.emod_nonneg (codeAt l i).1 (b := (n : Int)) (by omega)
  have a2 := Int.emod_lt_of_pos (codeAt l i).1 (b := (n : Int)) (by omega)
  have b1 := Int.emod_nonneg (codeAt l i).2 (b := (n : Int)) (by omega)
  have b2 := Int.emod_lt_of_pos (codeAt l i).2 (b := (n : Int)) (by omega)
  rw [if_neg (by simp only [madeE]; rw [(nm_edge i (by omega)).1]; decide), hany, if_neg (by decide), if_pos]
  rw [hn]
  refine ⟨⟨a1, a2⟩, ⟨b1, b2⟩, ?_, ?_⟩ <;> (show boundP 0 (-1); unfold boundP; omega)
theorem made_valid (nodes edges : List (Int × Int)) : (validR (madeT nodes edges)).2 = 0 := by
  obtain ⟨h1, h2⟩ := madeNum_rng nodes
  refine validR_zero.2 ⟨?_, ?_, ?_, fun j hj => ?_, fun j hj => ?_⟩
  · simp only [madeT, madeNs_len]; omega
  · simp only [madeT, madeNs_len]; omega
  · simp only [madeT, madeEs_len]; omega
  · simp only [madeT, madeNs_len] at hj
    exact made_node h2 hj
  · simp only [madeT, madeEs_len] at hj
    exact made_edge (n := zmu nodes) (m := min 5 edges.length) (l := edges) rfl (by simp only [madeT, madeNs_len]) (by omega) (by omega) hj
theorem made_small (nodes edges : List (Int × Int)) : Small (madeT nodes edges) := by
  obtain ⟨h1, h2⟩ := madeNum_rng nodes
  refine ⟨by simp only [madeT, madeNs_len]; omega, by simp only [madeT, madeEs_len]; omega, fun n hn => ?_, fun e he => ?_⟩
  · simp only [madeT, madeNs, List.mem_map, List.mem_range] at hn
    obtain ⟨i, hi, rfl⟩ := hn
    refine ⟨by simp only [madeN]; rw [(nm_upper i (by omega)).2]; decide, by have := madeA_len i (codeAt nodes i).2; simp only [madeN]; omega, fun a ha => ?_⟩
    have ha' : a ∈ madeA i (codeAt nodes i).2 := ha
    refine ⟨by rw [madeA_mem ha', (nm_lower i (by omega)).2]; decide, ?_⟩
    unfold madeA at ha'
    split at ha'
    · obtain rfl := List.mem_singleton.1 ha'; simp
    · split at ha'
      · obtain rfl := List.mem_singleton.1 ha'
        refine ⟨by simp, ?_⟩
        simp only
        decide
      · cases ha'
  · simp only [madeT, madeEs, List.mem_map, List.mem_range] at he
    obtain ⟨i, hi, rfl⟩ := he
    simp only [madeE]
    rw [(nm_edge i (by omega)).2]; decide
theorem made_nodes (nodes edges : List (Int × Int)) : (madeT nodes edges).nodes.length = zmu nodes := by simp only [madeT, madeNs_len]
end Go.Sj.Typ
namespace Go.Sj.Typ
open Go.Sj
section
variable {nodes edges : List (Int × Int)}
end
theorem wf_n8 {a : Int} (h : (Lit.int .u8 a).wf = true) : 0 ≤ a ∧ a ≤ 255 := by
  simp only [Lit.wf, Bool.and_eq_true, decide_eq_true_eq] at h
  rw [show IntKind.u8.min = 0 by decide, show IntKind.u8.max = 255 by decide] at h
  exact h
def Okn (n : Nat) (l : List Int) : Prop := l.length = n ∧ ∀ m ∈ l, (Lit.int .u8 m).wf = true
def c82 (c : Int × Int) : List AV := [A8 c.1, A8 c.2]
def toC2 : List Int → Int × Int
  | [a, b] => (a, b)
  | _ => (0, 0)
theorem toC2_c {l : List Int} (h : l.length = 2) : (l.map fun m => AV.lit (.int .u8 m)) = c82 (toC2 l) := by
  match l, h with
  | [a, b], _ => rfl
theorem toC2_ok {l : List Int} (h : Okn 2 l) : (0 ≤ (toC2 l).1 ∧ (toC2 l).1 ≤ 255) ∧ (0 ≤ (toC2 l).2 ∧ (toC2 l).2 ≤ 255) := by
  obtain ⟨h1, h2⟩ := h
  match l, h1, h2 with
  | [a, b], _, h2 => exact ⟨wf_n8 (h2 a (by simp)), wf_n8 (h2 b (by simp))⟩
end Go.Sj.Typ
end
section
namespace Go.Sj.Sta
open Go.Sj Go.Sj.Typ
end Go.Sj.Sta
namespace Go.Sj.Sta
open Go.Sj Go.Sj.Typ
end Go.Sj.Sta
namespace Go.Sj.Sta
open Go.Sj Go.Sj.Typ
end Go.Sj.Sta
namespace Go.Sj.Sta
open Go.Sj Go.Sj.Typ
section
variable {ns : List Nod} (hp : PR ns ns.length)
end
end Go.Sj.Sta
namespace Go.Sj.Sta
open Go.Sj Go.Sj.Typ
section
variable {t : Tys} {g : Gr} {p q : List Int} (h : TV t g) (hp : Prm p g.nodes.length) (hq : Prm q g.edges.length)
include h hp hq
end
section
variable {t : Tys} {g : Gr} (h : TV t g)
include h
end
end Go.Sj.Sta
namespace Go.Sj.Sta
open Go.Sj Go.Sj.Typ
def c83 (c : Int × Int × Int) : List AV := [A8 c.1, A8 c.2.1, A8 c.2.2]
def toC3 : List Int → Int × Int × Int
  | [a, b, c] => (a, b, c)
  | _ => (0, 0, 0)
def In3 (c : Int × Int × Int) : Prop := (0 ≤ c.1 ∧ c.1 ≤ 255) ∧ (0 ≤ c.2.1 ∧ c.2.1 ≤ 255) ∧ (0 ≤ c.2.2 ∧ c.2.2 ≤ 255)
theorem toC3_c {l : List Int} (h : l.length = 3) : (l.map fun m => AV.lit (.int .u8 m)) = c83 (toC3 l) := by
  match l, h with
  | [a, b, c], _ => rfl
theorem toC3_ok {l : List Int} (h : Okn 3 l) : In3 (toC3 l) := by
  obtain ⟨h1, h2⟩ := h
  match l, h1, h2 with
  | [a, b, c], _, h2 => exact ⟨wf_n8 (h2 a (by simp)), wf_n8 (h2 b (by simp)), wf_n8 (h2 c (by simp))⟩
abbrev c8 (n : Int) : List AV := [A8 n]
abbrev bytesA (l : List Int) : AV := .im 1 (l.map c8)
def g8s (l : List Int) : List AV := l.map fun m => .lit (.int .u8 m)
theorem u8s_ok {x : List Int} (h : (∀ m ∈ x, (Lit.int .u8 m).wf = true) ∧ x.length ≤ reachBytes) : (∀ m ∈ x, 0 ≤ m ∧ m ≤ 255) ∧ x.length ≤ 140737488355328 := by
  have h2 := h.2
  unfold reachBytes at h2
  exact ⟨fun m hm => wf_n8 (h.1 m hm), by omega⟩
end Go.Sj.Sta
namespace Go.Sj.Sta
open Go.Sj Go.Sj.Typ
end Go.Sj.Sta
end
section
namespace Go.Sj
end Go.Sj
namespace Go.Sj.Part
set_option maxRecDepth 8000
def nextRow (i : Nat) (row : List Nat) (v : Nat) : Bool := v == i || row.getD v 0 == v
def nextTo (i : Nat) (row : List Nat) (k : Nat) : List (List Nat) := ((List.range k).filter (nextRow i row)).map fun v => row ++ [v]
def nextAll (i : Nat) (rows : List (List Nat)) : List (List Nat) := rows.flatMap fun row => nextTo i row (i + 1)
def allTo : Nat → List (List Nat)
  | 0 => [[]]
  | i + 1 => nextAll i (allTo i)
def allR (n : Int) : List (List Nat) × Int := if 7 < n then ([], 3) else if n < 0 then ([], 6) else (allTo n.toNat, 0)
end Go.Sj.Part
end
section
namespace Go.Sj.Inc
open Go.Sj Go.Sj.Sta Go.Sj.Typ
set_option maxRecDepth 8000
def capR (l : List Mo) : List Mo × Int := if 5000 < l.length then ([], 3) else (l, 0)
def allR (t : Tys) (p g : Gr) (inj : Bool) : List Mo × Int := if validS t p g ≠ 0 then ([], validS t p g) else capR (matL (seaA t p g inj))
end Go.Sj.Inc
end
section
namespace Go.Sj.Pln
open Go.Sj Go.Sj.Sta Go.Sj.Typ Go.Sj.Inc
set_option maxRecDepth 8000
theorem known_unk {s : Kn} : knownB s = true ↔ unk s = 0 := by
  unfold knownB unk
  rw [Bool.and_eq_true]
  simp only [Bool.not_eq_true', List.contains_eq_mem, decide_eq_false_iff_not, ← List.count_eq_zero]
  omega
theorem known_all {s : Kn} (h : knownB s = true) : (∀ b ∈ s.ns, b = true) ∧ ∀ b ∈ s.es, b = true := by
  unfold knownB at h
  rw [Bool.and_eq_true] at h
  simp only [Bool.not_eq_true', List.contains_eq_mem, decide_eq_false_iff_not] at h
  exact ⟨fun b hb => by cases b; exact absurd hb h.1; rfl, fun b hb => by cases b; exact absurd hb h.2; rfl⟩
theorem poss_mem {p : Gr} {s : Kn} {o : Opn} : o ∈ poss p s ↔ opE p s o = 0 := by
  unfold poss
  rw [List.mem_filter, decide_eq_true_eq]
  refine ⟨fun h => h.2, fun h => ⟨?_, h⟩⟩
  obtain ⟨k, e⟩ := o
  unfold opsL opsN opsE
  simp only [List.mem_append, List.mem_map, List.mem_range]
  rcases opE_zero h with ⟨h1, h2, _⟩ | ⟨h1, h2, _⟩
  · simp only at h1 h2
    exact .inl (.inl ⟨e.toNat, by omega, by rw [h1]; congr 1; omega⟩)
  · simp only at h1 h2
    rcases h1 with h1 | h1
    · exact .inl (.inr ⟨e.toNat, by omega, by rw [h1]; congr 1; omega⟩)
    · exact .inr ⟨e.toNat, by omega, by rw [h1]; congr 1; omega⟩
theorem poss_nil {p : Gr} {s : Kn} (hp : GV p) (hs : KnOk p s) : poss p s = [] ↔ knownB s = true := by
  constructor
  · intro h
    have hno : ∀ o, opE p s o ≠ 0 := fun o ho => by
      have := poss_mem.2 ho
      rw [h] at this
      cases this
    have hn : ∀ (i : Nat) (b : Bool), s.ns[i]? = some b → b = true := fun i b hb => by
      obtain ⟨hi, _⟩ := List.getElem?_eq_some_iff.1 hb
      have := hno ⟨1, i⟩
      unfold opE nodK at this
      rw [if_pos rfl, if_pos (by simp only; rw [← hs.nl]; omega)] at this
      simp only [Int.toNat_natCast, List.getD_eq_getElem?_getD, hb, Option.getD_some] at this
      cases b
      · exact absurd rfl this
      · rfl
    have he : ∀ (i : Nat) (b : Bool), s.es[i]? = some b → b = true := fun i b hb => by
      obtain ⟨hi, _⟩ := List.getElem?_eq_some_iff.1 hb
      have := hno ⟨3, i⟩
      have hi2 : i < p.edges.length := by rw [← hs.el]; exact hi
      unfold opE edgP edgK edP nodK at this
      have hx := hp.edges _ (List.getElem_mem hi2)
      rw [if_neg (by simp), if_pos (.inr rfl), if_pos (by simp only; omega)] at this
      simp only [Int.toNat_natCast, List.getD_eq_getElem?_getD, hb, Option.getD_some, List.getElem?_eq_getElem hi2] at this
      generalize p.edges[i] = x at *
      have a1 : s.ns[x.fr.toNat]? = some true := by
        have hh := List.getElem?_eq_getElem (l := s.ns) (i := x.fr.toNat) (by rw [hs.nl]; omega)
        rw [hh, hn _ _ hh]
      have a2 : s.ns[x.to.toNat]? = some true := by
        have hh := List.getElem?_eq_getElem (l := s.ns) (i := x.to.toNat) (by rw [hs.nl]; omega)
        rw [hh, hn _ _ hh]
      rw [a1, a2] at this
      cases b
      · exact absurd rfl this
      · rfl
    unfold knownB
    rw [Bool.and_eq_true]
    simp only [Bool.not_eq_true', List.contains_eq_mem, decide_eq_false_iff_not]
    refine ⟨fun h => ?_, fun h => ?_⟩
    · obtain ⟨i, hi⟩ := List.getElem?_of_mem h
      cases hn i _ hi
    · obtain ⟨i, hi⟩ := List.getElem?_of_mem h
      cases he i _ hi
  · intro h
    rw [known_unk] at h
    refine List.eq_nil_iff_forall_not_mem.2 fun o ho => ?_
    have := unk_aft hs (poss_mem.1 ho)
    omega
def mkP (p : Gr) (f : Nat → Int) : Nat → Nat → Kn → List Opn
  | 0, _, _ => []
  | m + 1, i, k => if poss p k = [] then [] else (poss p k).getD (f i % (poss p k).length).toNat ⟨0, 0⟩ :: mkP p f m (i + 1) (aftK p k ((poss p k).getD (f i % (poss p k).length).toNat ⟨0, 0⟩))
theorem pick_mem {A : Type} {l : List A} (h : l ≠ []) (z : Int) (d : A) : l.getD (z % l.length).toNat d ∈ l := by
  have h0 : 0 < l.length := List.length_pos_iff.2 h
  have h1 := Int.emod_nonneg z (b := (l.length : Int)) (by omega)
  have h2 := Int.emod_lt_of_pos z (b := (l.length : Int)) (by omega)
  rw [List.getD_eq_getElem?_getD, List.getElem?_eq_getElem (by omega)]
  exact List.getElem_mem _
theorem mkP_valid {p : Gr} (hp : GV p) (f : Nat → Int) : ∀ (m i : Nat) (k : Kn), KnOk p k → unk k ≤ m → planE p k (mkP p f m i k) = 0
  | 0, i, k, hk, hu => by
    unfold mkP planE
    rw [if_pos (known_unk.2 (by omega))]
  | m + 1, i, k, hk, hu => by
    unfold mkP
    split
    · rename_i h
      unfold planE
      rw [if_pos ((poss_nil hp hk).1 h)]
    · rename_i h
      have h1 := poss_mem.1 (pick_mem h (f i) ⟨0, 0⟩)
      generalize (poss p k).getD (f i % (poss p k).length).toNat ⟨0, 0⟩ = o at *
      unfold planE
      rw [if_neg (Decidable.not_not.2 h1)]
      exact mkP_valid hp f m (i + 1) _ (aftK_ok hk o) (by have := unk_aft hk h1; omega)
theorem plan_len {p : Gr} : ∀ (l : List Opn) (k : Kn), KnOk p k → planE p k l = 0 → l.length ≤ unk k
  | [], k, hk, h => Nat.zero_le _
  | o :: l, k, hk, h => by
    unfold planE at h
    split at h
    · rename_i h1; exact absurd h h1
    · rename_i h1
      have hu := unk_aft hk (Decidable.not_not.1 h1)
      have := plan_len l _ (aftK_ok hk o) h
      simp only [List.length_cons]
      omega
end Go.Sj.Pln
end
section
namespace Go.Sj.Can
open Go.Sj Go.Sj.Sta
set_option maxRecDepth 8000
theorem cmpI_lt {x y : Int} : cmpI x y < 0 ↔ x < y := by
  unfold cmpI
  repeat' split
  all_goals omega
section
variable (N : Int → Int) (T : Int → Int → List Int)
variable {N T}
end
section
variable (N : Int → Int) (T : Int → Int → List Int) (n : Nat)
variable {N T n}
end
section
variable (N : Int → Int) (T : Int → Int → List Int) (n : Nat)
variable {N T n}
end
end Go.Sj.Can
end
section
namespace Go.Sj.Inc
open Go.Sj Go.Sj.Sta Go.Sj.Typ
set_option maxRecDepth 8000
def gfitT (S : Sea) (ns : List Int) (x : Ed) (i : Nat) : Bool := !(decide (x.fr < ns.length) && decide (x.to < ns.length)) || (List.range S.g.edges.length).any (eqE S ns i)
def gfitB (S : Sea) (ns : List Int) : Bool := (List.range S.p.edges.length).all fun i => match S.p.edges[i]? with
  | some x => gfitT S ns x i
  | none => true
theorem gfitB_false {S : Sea} {ns : List Int} {i : Nat} {x : Ed} (hx : S.p.edges[i]? = some x) (h : gfitT S ns x i = false) : gfitB S ns = false := by
  refine List.all_eq_false.2 ⟨i, List.mem_range.2 (List.getElem?_eq_some_iff.1 hx).1, ?_⟩
  rw [hx]
  simpa using h
theorem gfitB_true {S : Sea} {ns : List Int} (h : ∀ (i : Nat) (x : Ed), S.p.edges[i]? = some x → gfitT S ns x i = true) : gfitB S ns = true := by
  refine List.all_eq_true.2 fun i hi => ?_
  have hx := List.getElem?_eq_getElem (List.mem_range.1 hi)
  rw [hx]
  exact h i _ hx
theorem gfit_dead {S : Sea} (hP : GV S.p) {ns es : List Int} {m : Nat} (h : gfitB S ns = false) (hm : m = remS S ns es) (hn : ns.length ≤ S.p.nodes.length) (he : es = []) : findL S m ns es = [] := by
  unfold gfitB at h
  obtain ⟨i, hi, hx⟩ := List.all_eq_false.1 h
  have hil := List.mem_range.1 hi
  have he1 := List.getElem?_eq_getElem hil
  have hin := (hP.edges _ (List.getElem_mem hil)).2
  rw [he1] at hx
  generalize S.p.edges[i] = x at *
  unfold gfitT at hx
  simp only [Bool.not_eq_true, Bool.or_eq_false_iff, Bool.not_eq_false', Bool.and_eq_true, decide_eq_true_eq] at hx
  obtain ⟨⟨h1, h1'⟩, h2⟩ := hx
  subst he
  refine find_dead he1 m ns [] hm (by omega) (by omega) hn (Nat.zero_le _) (fun _ => rfl) (fun k hk => ?_)
  have := List.any_eq_false.1 h2 k (List.mem_range.2 hk)
  unfold fitB
  rw [Bool.eq_false_iff.2 this, Bool.and_false]
theorem find_congr {S S' : Sea} (hp : S'.p = S.p) (hg : S'.g = S.g) (ho : S'.ok = S.ok) (hi : S'.inj = S.inj) (hn : ∀ i k, offN S'.pn i k = offN S.pn i k) (he : ∀ i k, offN S'.pe i k = offN S.pe i k) : ∀ (m : Nat) (ns es : List Int), findL S' m ns es = findL S m ns es
  | 0, ns, es => rfl
  | m + 1, ns, es => by
    have h1 : ∀ ns k, candN S' ns k = candN S ns k := fun ns k => by unfold candN; rw [hp, hg, ho, hi, hn]
    have h2 : ∀ ns es k, candE S' ns es k = candE S ns es k := fun ns es k => by unfold candE fitB eqE; rw [hp, hg, hi, he]
    unfold findL
    rw [hp, hg]
    simp only [h1, h2, find_congr hp hg ho hi hn he m]
theorem off_none (n i k : Nat) : offN (some (noneL n)) i k = offN none i k := by
  have : gvn (some (noneL n)) i = -1 := by
    show (List.replicate n (-1 : Int)).getD i (-1) = -1
    rw [List.getD_eq_getElem?_getD, List.getElem?_replicate]
    split <;> rfl
  unfold offN
  rw [this]
  rfl
def seaO (t : Tys) (p g : Gr) (inj : Bool) : Sea := ⟨p, g, okT t, some (noneL p.nodes.length), some (noneL p.edges.length), inj⟩
theorem mat_open (t : Tys) (p g : Gr) (inj : Bool) : matL (seaO t p g inj) = matL (seaA t p g inj) :=
  find_congr (S := seaA t p g inj) (S' := seaO t p g inj) rfl rfl rfl rfl (fun i k => off_none p.nodes.length i k) (fun i k => off_none p.edges.length i k) _ _ _
end Go.Sj.Inc
end
section
namespace Go.Sj.Inc
open Go.Sj Go.Sj.Sta Go.Sj.Typ
set_option maxRecDepth 8000
theorem cmpL_pre_lt : ∀ (p : List Int) {k l : Int} (r s : List Int), k < l → Can.cmpL (p ++ k :: r) (p ++ l :: s) < 0
  | [], k, l, r, s, h => by
    show Can.cmpL (k :: r) (l :: s) < 0
    rw [Can.cmpL]
    have := Can.cmpI_lt.2 h
    rw [if_pos (by omega)]
    exact this
  | x :: p, k, l, r, s, h => by
    show Can.cmpL (x :: (p ++ k :: r)) (x :: (p ++ l :: s)) < 0
    rw [Can.cmpL, if_neg (by rw [Can.cmpI_zero.2 rfl]; decide)]
    exact cmpL_pre_lt p r s h
abbrev SrtM (l : List Mo) : Prop := l.Pairwise fun a b => cmpM a b < 0
theorem srtM_ext : ∀ {l l' : List Mo}, SrtM l → SrtM l' → (∀ x, x ∈ l ↔ x ∈ l') → l = l'
  | [], [], _, _, _ => rfl
  | [], b :: l', _, _, h => absurd ((h b).2 (List.mem_cons_self ..)) (by simp)
  | a :: l, [], _, _, h => absurd ((h a).1 (List.mem_cons_self ..)) (by simp)
  | a :: l, b :: l', h1, h2, h => by
    have h1' := List.pairwise_cons.1 h1
    have h2' := List.pairwise_cons.1 h2
    have hab : a = b := by
      rcases List.mem_cons.1 ((h a).1 (List.mem_cons_self ..)) with e | ha
      · exact e
      · rcases List.mem_cons.1 ((h b).2 (List.mem_cons_self ..)) with e | hb
        · exact e.symm
        · have k1 := h1'.1 b hb
          have k2 := h2'.1 a ha
          rw [cmpM_anti a b] at k2
          omega
    subst hab
    have self : ∀ x, cmpM x x < 0 → False := fun x hx => by rw [cmpM_self] at hx; omega
    congr 1
    refine srtM_ext h1'.2 h2'.2 fun x => ⟨fun hx => ?_, fun hx => ?_⟩
    · rcases List.mem_cons.1 ((h x).1 (List.mem_cons_of_mem _ hx)) with e | hb
      · subst e; exact (self x (h1'.1 x hx)).elim
      · exact hb
    · rcases List.mem_cons.1 ((h x).2 (List.mem_cons_of_mem _ hx)) with e | hb
      · subst e; exact (self x (h2'.1 x hx)).elim
      · exact hb
structure IsF (S : Sea) (i j : Nat) (x : Mo) : Prop where
  nl : x.1.length = S.p.nodes.length
  el : x.2.length = S.p.edges.length
  ns : ∀ u, i ≤ u → u < S.p.nodes.length → ∃ k : Nat, x.1[u]? = some (k : Int) ∧ k < S.g.nodes.length ∧ candN S (x.1.take u) k = true
  es : ∀ u, j ≤ u → u < S.p.edges.length → ∃ k : Nat, x.2[u]? = some (k : Int) ∧ k < S.g.edges.length ∧ candE S x.1 (x.2.take u) k = true
theorem snoc_take {l p : List Int} {k : Int} (h : l.take (p ++ [k]).length = p ++ [k]) : l.take p.length = p ∧ l[p.length]? = some k := by
  rw [List.length_append, List.length_singleton] at h
  have hl : p.length + 1 ≤ l.length := by
    have := congrArg List.length h
    simp at this
    omega
  rw [List.take_add_one] at h
  have h1 := List.append_inj_left h (by simp; omega)
  refine ⟨h1, ?_⟩
  rw [h1] at h
  have h2 := List.append_cancel_left h
  cases h3 : l[p.length]? with
  | none => rw [h3] at h2; cases h2
  | some z => rw [h3] at h2; simpa using h2
theorem find_mem {S : Sea} : ∀ (m : Nat) (ns es : List Int), m = remS S ns es → ns.length ≤ S.p.nodes.length → es.length ≤ S.p.edges.length → (ns.length < S.p.nodes.length → es = []) → ∀ x : Mo, x ∈ findL S m ns es ↔ (x.1.take ns.length = ns ∧ x.2.take es.length = es ∧ IsF S ns.length es.length x)
  | 0, ns, es, hm, hn, he, hne, x => by
    unfold remS at hm
    unfold findL
    rw [List.mem_singleton]
    constructor
    · rintro rfl
      exact ⟨List.take_length, List.take_length, ⟨by show ns.length = _; omega, by show es.length = _; omega, fun u h1 h2 => by omega, fun u h1 h2 => by omega⟩⟩
    · rintro ⟨h1, h2, h3⟩
      have h4 := h3.nl
      have h5 := h3.el
      rw [List.take_of_length_le (by omega)] at h1 h2
      exact Prod.ext h1 h2
  | m + 1, ns, es, hm, hn, he, hne, x => by
    unfold remS at hm
    unfold findL
    split
    · rename_i hlt
      have he0 := hne hlt
      subst he0
      rw [List.mem_flatMap]
      have ih := fun k : Nat => find_mem (S := S) m (ns ++ [(k : Int)]) [] (by unfold remS; simp only [List.length_append, List.length_cons, List.length_nil] at hm ⊢; omega) (by simp; omega) (Nat.zero_le _) (fun _ => rfl) x
      constructor
      · rintro ⟨k, hk, hx⟩
        split at hx
        · rename_i hc
          obtain ⟨h1, h2, h3⟩ := (ih k).1 hx
          obtain ⟨h4, h5⟩ := snoc_take h1
          refine ⟨h4, h2, ⟨h3.nl, h3.el, fun u hu1 hu2 => ?_, h3.es⟩⟩
          rcases Nat.lt_or_ge ns.length u with h | h
          · exact h3.ns u (by simp; omega) hu2
          · obtain rfl : u = ns.length := by omega
            exact ⟨k, h5, List.mem_range.1 hk, by rw [h4]; exact hc⟩
        · cases hx
      · rintro ⟨h1, h2, h3⟩
        obtain ⟨k, hk1, hk2, hk3⟩ := h3.ns ns.length (Nat.le_refl _) hlt
        rw [h1] at hk3
        refine ⟨k, List.mem_range.2 hk2, ?_⟩
        rw [if_pos hk3, ih k]
        exact ⟨take_snoc h1 hk1, h2, ⟨h3.nl, h3.el, fun u hu1 hu2 => h3.ns u (by simp at hu1; omega) hu2, h3.es⟩⟩
    · rename_i hlt
      rw [List.mem_flatMap]
      have hnl : ns.length = S.p.nodes.length := by omega
      have ih := fun k : Nat => find_mem (S := S) m ns (es ++ [(k : Int)]) (by unfold remS; simp only [List.length_append, List.length_cons, List.length_nil] at hm ⊢; omega) hn (by simp; omega) (fun h => absurd h hlt) x
      constructor
      · rintro ⟨k, hk, hx⟩
        split at hx
        · rename_i hc
          obtain ⟨h1, h2, h3⟩ := (ih k).1 hx
          obtain ⟨h4, h5⟩ := snoc_take h2
          have h6 : x.1 = ns := by rw [← h1, List.take_of_length_le (by rw [h3.nl]; omega)]
          refine ⟨h1, h4, ⟨h3.nl, h3.el, h3.ns, fun u hu1 hu2 => ?_⟩⟩
          rcases Nat.lt_or_ge es.length u with h | h
          · exact h3.es u (by simp; omega) hu2
          · obtain rfl : u = es.length := by omega
            exact ⟨k, h5, List.mem_range.1 hk, by rw [h4, h6]; exact hc⟩
        · cases hx
      · rintro ⟨h1, h2, h3⟩
        have h6 : x.1 = ns := by rw [← h1, List.take_of_length_le (by rw [h3.nl]; omega)]
        obtain ⟨k, hk1, hk2, hk3⟩ := h3.es es.length (Nat.le_refl _) (by omega)
        rw [h2, h6] at hk3
        refine ⟨k, List.mem_range.2 hk2, ?_⟩
        rw [if_pos hk3, ih k]
        exact ⟨h1, take_snoc h2 hk1, ⟨h3.nl, h3.el, h3.ns, fun u hu1 hu2 => h3.es u (by simp at hu1; omega) hu2⟩⟩
theorem mat_mem {S : Sea} {x : Mo} : x ∈ matL S ↔ IsF S 0 0 x := by
  unfold matL
  rw [find_mem (S := S) (S.p.nodes.length + S.p.edges.length) [] [] rfl (Nat.zero_le _) (Nat.zero_le _) (fun _ => rfl) x]
  exact ⟨fun h => h.2.2, fun h => ⟨rfl, rfl, h⟩⟩
theorem take_dec {l p : List Int} {k : Int} (h : l.take (p ++ [k]).length = p ++ [k]) : ∃ r, l = p ++ k :: r := by
  refine ⟨l.drop (p ++ [k]).length, ?_⟩
  have := List.take_append_drop (p ++ [k]).length l
  rw [h] at this
  simpa using this.symm
theorem cmpM_fst {a b : Mo} (h : Can.cmpL a.1 b.1 < 0) : cmpM a b < 0 := by
  unfold cmpM
  rw [if_pos (by omega)]
  exact h
theorem cmpM_snd {a b : Mo} (e : a.1 = b.1) (h : Can.cmpL a.2 b.2 < 0) : cmpM a b < 0 := by
  unfold cmpM
  rw [e, Can.cmpL_self, if_neg (by decide)]
  exact h
theorem find_srt {S : Sea} : ∀ (m : Nat) (ns es : List Int), m = remS S ns es → ns.length ≤ S.p.nodes.length → es.length ≤ S.p.edges.length → (ns.length < S.p.nodes.length → es = []) → SrtM (findL S m ns es)
  | 0, ns, es, _, _, _, _ => List.pairwise_singleton _ _
  | m + 1, ns, es, hm, hn, he, hne => by
    unfold remS at hm
    unfold findL
    split
    · rename_i hlt
      have he0 := hne hlt
      subst he0
      have hr : ∀ k : Nat, m = remS S (ns ++ [(k : Int)]) [] := fun k => by unfold remS; simp only [List.length_append, List.length_cons, List.length_nil] at hm ⊢; omega
      have hl : ∀ k : Nat, (ns ++ [(k : Int)]).length ≤ S.p.nodes.length := fun k => by simp; omega
      refine List.pairwise_flatMap.2 ⟨fun k _ => ?_, List.pairwise_lt_range.imp fun {k l} hkl x hx y hy => ?_⟩
      · split
        · exact find_srt m _ [] (hr k) (hl k) (Nat.zero_le _) (fun _ => rfl)
        · exact List.Pairwise.nil
      · split at hx
        · split at hy
          · obtain ⟨r, h1⟩ := take_dec ((find_mem m _ [] (hr k) (hl k) (Nat.zero_le _) (fun _ => rfl) x).1 hx).1
            obtain ⟨s, h2⟩ := take_dec ((find_mem m _ [] (hr l) (hl l) (Nat.zero_le _) (fun _ => rfl) y).1 hy).1
            refine cmpM_fst ?_
            rw [h1, h2]
            exact cmpL_pre_lt ns r s (by omega)
          · cases hy
        · cases hx
    · rename_i hlt
      have hr : ∀ k : Nat, m = remS S ns (es ++ [(k : Int)]) := fun k => by unfold remS; simp only [List.length_append, List.length_cons, List.length_nil] at hm ⊢; omega
      have hl : ∀ k : Nat, (es ++ [(k : Int)]).length ≤ S.p.edges.length := fun k => by simp; omega
      have hn' : ∀ k : Nat, ns.length < S.p.nodes.length → es ++ [(k : Int)] = [] := fun k h => absurd h hlt
      refine List.pairwise_flatMap.2 ⟨fun k _ => ?_, List.pairwise_lt_range.imp fun {k l} hkl x hx y hy => ?_⟩
      · split
        · exact find_srt m ns _ (hr k) hn (hl k) (hn' k)
        · exact List.Pairwise.nil
      · split at hx
        · split at hy
          · obtain ⟨a1, a2, a3⟩ := (find_mem m ns _ (hr k) hn (hl k) (hn' k) x).1 hx
            obtain ⟨b1, b2, b3⟩ := (find_mem m ns _ (hr l) hn (hl l) (hn' l) y).1 hy
            obtain ⟨r, h1⟩ := take_dec a2
            obtain ⟨s, h2⟩ := take_dec b2
            have e1 : x.1 = ns := by rw [← a1, List.take_of_length_le (by rw [a3.nl]; omega)]
            have e2 : y.1 = ns := by rw [← b1, List.take_of_length_le (by rw [b3.nl]; omega)]
            refine cmpM_snd (e1.trans e2.symm) ?_
            rw [h1, h2]
            exact cmpL_pre_lt es r s (by omega)
          · cases hy
        · cases hx
theorem mat_srt (S : Sea) : SrtM (matL S) := find_srt _ [] [] rfl (Nat.zero_le _) (Nat.zero_le _) (fun _ => rfl)
end Go.Sj.Inc
end
section
namespace Go.Sj.Pln
open Go.Sj Go.Sj.Sta Go.Sj.Typ Go.Sj.Inc
set_option maxRecDepth 8000
def cutL (b : List Bool) (l : List Int) : List Int := List.zipWith (fun b z => if b = true then z else -1) b l
def cutM (k : Kn) (m : Mo) : Mo := (cutL k.ns m.1, cutL k.es m.2)
theorem cut_get {b : List Bool} {l : List Int} {u : Nat} : (cutL b l)[u]? = (match b[u]?, l[u]? with
    | some c, some z => some (if c = true then z else -1)
    | _, _ => none) := by
  unfold cutL
  rw [List.getElem?_zipWith]
  cases b[u]? <;> cases l[u]? <;> rfl
theorem cut_len {b : List Bool} {l : List Int} (h : b.length = l.length) : (cutL b l).length = l.length := by
  unfold cutL
  rw [List.length_zipWith, h, Nat.min_self]
theorem cut_self {b : List Bool} {l : List Int} (h : b.length = l.length) (hu : ∀ u, u < l.length → b.getD u false = false → l[u]? = some (-1)) : cutL b l = l := by
  refine List.ext_getElem? fun u => ?_
  rw [cut_get]
  by_cases hl : u < l.length
  · have hb := List.getElem?_eq_getElem (l := b) (i := u) (by omega)
    have hx := List.getElem?_eq_getElem hl
    rw [hb, hx]
    cases hc : b[u] with
    | true => rfl
    | false =>
      have := hu u hl (by rw [List.getD_eq_getElem?_getD, hb, hc]; rfl)
      rw [hx] at this
      exact this.symm
  · rw [List.getElem?_eq_none (l := l) (by omega), List.getElem?_eq_none (l := b) (by omega)]
theorem cut_set {b : List Bool} {l : List Int} {i : Nat} {z : Int} (h : b.getD i false = false) : cutL b (l.set i z) = cutL b l := by
  refine List.ext_getElem? fun u => ?_
  rw [cut_get, cut_get, List.getElem?_set]
  by_cases e : i = u
  · subst e
    rw [if_pos rfl]
    by_cases hl : i < l.length
    · rw [if_pos hl, List.getElem?_eq_getElem hl]
      cases hb : b[i]? with
      | none => rfl
      | some c =>
        rw [List.getD_eq_getElem?_getD, hb] at h
        simp only [Option.getD_some] at h
        subst h
        rfl
    · rw [if_neg hl, List.getElem?_eq_none (l := l) (i := i) (by omega)]
  · rw [if_neg e]
theorem cut_more {b : List Bool} {l : List Int} {i : Nat} {z : Int} (hb : b.length = l.length) (h : l[i]? = some z) : cutL (b.set i true) l = (cutL b l).set i z := by
  refine List.ext_getElem? fun u => ?_
  obtain ⟨hl, _⟩ := List.getElem?_eq_some_iff.1 h
  rw [List.getElem?_set, cut_get, cut_get, List.getElem?_set, cut_len hb]
  by_cases e : i = u
  · subst e
    rw [if_pos rfl, if_pos rfl, if_pos (by omega), if_pos hl, h]
    rfl
  · rw [if_neg e, if_neg e]
theorem cut_mem {b : List Bool} {l : List Int} {i : Nat} {z : Int} (h0 : 0 ≤ z) (hi : b.getD i false = false) (h : l[i]? = some z) (hd : ∀ (u v : Nat) (y : Int), 0 ≤ y → l[u]? = some y → l[v]? = some y → u = v) : z ∉ cutL b l := fun hm => by
  obtain ⟨u, hu⟩ := List.getElem?_of_mem hm
  rw [cut_get] at hu
  cases hb : b[u]? with
  | none => rw [hb] at hu; cases hu
  | some c =>
    cases hx : l[u]? with
    | none => rw [hb, hx] at hu; cases hu
    | some y =>
      rw [hb, hx] at hu
      simp only [Option.some.injEq] at hu
      cases c with
      | false => simp at hu; omega
      | true =>
        simp only [if_true] at hu
        subst hu
        have := hd u i y h0 hx h
        subst this
        rw [List.getD_eq_getElem?_getD, hb] at hi
        cases hi
theorem rep_true {n u : Nat} (h : u < n) : (List.replicate n true).getD u false = true := by
  rw [List.getD_eq_getElem?_getD, List.getElem?_replicate, if_pos h]
  rfl
theorem end_cut {S : Sea} {x : Mo} (hx : Whole S x) {ns : List Bool} (hl : ns.length = S.p.nodes.length) {i n : Int} (hi : 0 ≤ i ∧ i < S.p.nodes.length) (h : x.1[i.toNat]? = some n) (e : List Int) :
    endM S (cutL ns x.1, e) i n = some (cutL (ns.set i.toNat true) x.1, e) := by
  have hb : ns.length = x.1.length := by rw [hl, hx.n.nl]
  obtain ⟨n', h1, h2, h3⟩ := hx.n.n1 i.toNat (by omega) (rep_true (by omega))
  rw [h] at h1
  simp only [Option.some.injEq] at h1
  have hc : (cutL ns x.1)[i.toNat]? = some (if ns.getD i.toNat false = true then n else -1) := by
    rw [cut_get, h, List.getD_eq_getElem?_getD, List.getElem?_eq_getElem (by omega)]
    rfl
  have hi2 := img_get (m := (cutL ns x.1, e)) (i := i) rfl hc
  rw [cut_more hb h]
  unfold endM
  cases hk : ns.getD i.toNat false with
  | true =>
    rw [hk, if_pos rfl] at hc
    have hi3 : imgN (cutL ns x.1, e) i = n := by rw [hi2, hk]; rfl
    rw [hi3, if_pos (by omega), if_pos rfl]
    congr 1
    refine Prod.ext ?_ rfl
    refine List.ext_getElem? fun u => ?_
    show (cutL ns x.1)[u]? = _
    rw [List.getElem?_set]
    by_cases e : i.toNat = u
    · subst e
      rw [if_pos rfl, if_pos (by rw [cut_len hb, hx.n.nl]; omega), hc]
    · rw [if_neg e]
  | false =>
    have hi3 : imgN (cutL ns x.1, e) i = -1 := by rw [hi2, hk]; rfl
    rw [hi3, if_neg (by omega), if_pos]
    unfold nodB
    rw [Bool.and_eq_true]
    constructor
    · unfold nodeAt
      rw [h1, Int.toNat_natCast]
      exact h3
    · cases hj : S.inj with
      | false => rfl
      | true =>
        rw [decide_eq_false (cut_mem (by omega) hk h (hx.n.inj hj))]
        rfl
theorem ext_cut {S : Sea} (hp : GV S.p) (hg : GV S.g) {k : Kn} (hk : KnOk S.p k) {o : Opn} (ho : opE S.p k o = 0) {x : Mo} (hx : Whole S x) : cutM (aftK S.p k o) x ∈ extM S (cutM k x) o := by
  unfold extM aftK
  rcases opE_zero ho with ⟨h1, h2, h3⟩ | ⟨h1, h2, h3⟩
  · rw [if_pos h1, if_pos h1]
    obtain ⟨n, g1, g2, g3⟩ := hx.n.n1 o.el.toNat (by omega) (rep_true (by omega))
    refine List.mem_filterMap.2 ⟨n, List.mem_range.2 g2, ?_⟩
    have := end_cut hx hk.nl h2 g1 (cutL k.es x.2)
    unfold endM at this
    have hi2 := img_get (m := (cutL k.ns x.1, cutL k.es x.2)) (i := o.el) (z := -1) rfl (by
      rw [cut_get, g1, List.getElem?_eq_getElem (by rw [hk.nl]; omega)]
      have h3 : k.ns.getD o.el.toNat false = false := h3
      rw [List.getD_eq_getElem?_getD, List.getElem?_eq_getElem (by rw [hk.nl]; omega)] at h3
      simp only [Option.getD_some] at h3
      rw [h3]
      rfl)
    rw [hi2, if_neg (by omega)] at this
    exact this
  · rw [if_neg (by omega), if_neg (by omega)]
    obtain ⟨n, g1, g2, g3, g4, g5⟩ := hx.e.e1 o.el.toNat (by omega) (rep_true (by omega))
    have e2 : ((o.el.toNat : Nat) : Int) = o.el := by omega
    rw [e2] at g3 g4 g5
    have hxe := edP_in hp h2
    have hb : k.es.length = x.2.length := by rw [hk.el, hx.e.el]
    refine List.mem_filterMap.2 ⟨n, List.mem_range.2 g2, ?_⟩
    unfold edgM
    rw [if_neg]
    · show ((endM S (cutL k.ns x.1, cutL k.es x.2) _ _).bind _) = _
      rw [end_cut hx hk.nl hxe.1 g4, Option.bind_some, end_cut hx (by rw [List.length_set]; exact hk.nl) hxe.2 g5, Option.map_some]
      congr 1
      refine Prod.ext rfl ?_
      exact (cut_more hb g1).symm
    · rintro (hh | ⟨hj, hh⟩)
      · exact hh g3
      · exact cut_mem (Int.natCast_nonneg n) (edgP_new h3) g1 (hx.e.inj hj) hh
theorem end_back {S : Sea} {ns : List Bool} {m m1 : Mo} {i n : Int} (hn : 0 ≤ n) (hi : i.toNat < m.1.length) (h : ∀ u, ns.getD u false = true → ∃ z, m.1[u]? = some z ∧ 0 ≤ z) (he : endM S m i n = some m1) :
    cutL ns m1.1 = cutL ns m.1 ∧ m1.2 = m.2 ∧ m1.1.length = m.1.length ∧ ∀ u, ns.getD u false = true → ∃ z, m1.1[u]? = some z ∧ 0 ≤ z := by
  unfold endM at he
  split at he
  · split at he
    · cases he; exact ⟨rfl, rfl, rfl, h⟩
    · cases he
  · rename_i h0
    split at he
    · cases he
      have hk : ns.getD i.toNat false = false := by
        cases hb : ns.getD i.toNat false with
        | false => rfl
        | true =>
          obtain ⟨z, h1, h2⟩ := h _ hb
          rw [img_get rfl h1] at h0
          omega
      refine ⟨cut_set hk, rfl, List.length_set .., fun u hu => ?_⟩
      obtain ⟨z, h1, h2⟩ := h u hu
      by_cases e : i.toNat = u
      · subst e; rw [hk] at hu; cases hu
      · exact ⟨z, by rw [List.getElem?_set_ne e]; exact h1, h2⟩
    · cases he
theorem ext_from {S : Sea} (hp : GV S.p) (hg : GV S.g) {k : Kn} (hk : KnOk S.p k) {m : Mo} (h : Par S k m) {o : Opn} (ho : opE S.p k o = 0) {m' : Mo} (hm : m' ∈ extM S m o) : cutM k m' = m := by
  have hs1 : cutL k.ns m.1 = m.1 := cut_self (by rw [hk.nl, h.n.nl]) fun u hu hb => h.n.n0 u (by rw [← h.n.nl]; exact hu) hb
  have hs2 : cutL k.es m.2 = m.2 := cut_self (by rw [hk.el, h.e.el]) fun u hu hb => h.e.e0 u (by rw [← h.e.el]; exact hu) hb
  have hz : ∀ u, k.ns.getD u false = true → ∃ z, m.1[u]? = some z ∧ 0 ≤ z := fun u hu => by
    have hl : u < S.p.nodes.length := by
      rw [List.getD_eq_getElem?_getD] at hu
      cases hb : k.ns[u]? with
      | none => rw [hb] at hu; cases hu
      | some c => have := (List.getElem?_eq_some_iff.1 hb).1; rw [hk.nl] at this; exact this
    obtain ⟨n, a, _⟩ := h.n.n1 u hl hu
    exact ⟨n, a, Int.natCast_nonneg n⟩
  unfold extM at hm
  unfold cutM
  rcases opE_zero ho with ⟨h1, h2, h3⟩ | ⟨h1, h2, h3⟩
  · rw [if_pos h1] at hm
    obtain ⟨n, hn, he⟩ := List.mem_filterMap.1 hm
    unfold nodM at he
    split at he
    · cases he
      exact Prod.ext ((cut_set h3).trans hs1) hs2
    · cases he
  · rw [if_neg (by omega)] at hm
    obtain ⟨n, hn, he⟩ := List.mem_filterMap.1 hm
    have hn := List.mem_range.1 hn
    have hx := edP_in hp h2
    have hy := edP_in hg (i := (n : Int)) (by omega)
    unfold edgM at he
    split at he
    · cases he
    · obtain ⟨m1, he1, he⟩ := Option.bind_eq_some_iff.1 he
      obtain ⟨m2, he2, he⟩ := Option.map_eq_some_iff.1 he
      subst he
      obtain ⟨a1, b1, c1, d1⟩ := end_back hy.1.1 (by rw [h.n.nl]; omega) hz he1
      obtain ⟨a2, b2, c2, d2⟩ := end_back hy.2.1 (by rw [c1, h.n.nl]; omega) d1 he2
      refine Prod.ext ?_ ?_
      · show cutL k.ns m2.1 = m.1
        rw [a2, a1, hs1]
      · show cutL k.es (m2.2.set o.el.toNat n) = m.2
        rw [cut_set (edgP_new h3), b2, b1, hs2]
theorem nodup_fm {f : Nat → Option Mo} (hf : ∀ a b x, f a = some x → f b = some x → a = b) : ∀ {l : List Nat}, l.Nodup → (l.filterMap f).Nodup
  | [], _ => .nil
  | a :: l, h => by
    have h' := List.nodup_cons.1 h
    rw [List.filterMap_cons]
    split
    · exact nodup_fm hf h'.2
    · rename_i x hx
      refine List.nodup_cons.2 ⟨fun hm => ?_, nodup_fm hf h'.2⟩
      obtain ⟨b, hb, hbx⟩ := List.mem_filterMap.1 hm
      have := hf a b x hx hbx
      subst this
      exact h'.1 hb
theorem ext_nodup {S : Sea} {k : Kn} {m : Mo} (h : Par S k m) {o : Opn} (ho : opE S.p k o = 0) : (extM S m o).Nodup := by
  unfold extM
  rcases opE_zero ho with ⟨h1, h2, h3⟩ | ⟨h1, h2, h3⟩
  · rw [if_pos h1]
    refine nodup_fm (fun a b x ha hb => ?_) List.nodup_range
    unfold nodM at ha hb
    split at ha
    · split at hb
      · cases ha
        have := congrArg (fun y => y[o.el.toNat]?) (congrArg Prod.fst (Option.some.inj hb))
        simp only [List.getElem?_set_self (show o.el.toNat < m.1.length by rw [h.n.nl]; omega), Option.some.injEq] at this
        omega
      · cases hb
    · cases ha
  · rw [if_neg (by omega)]
    have key : ∀ a x, edgM S m o.el a = some x → x.2[o.el.toNat]? = some (a : Int) := fun a x ha => by
      unfold edgM at ha
      split at ha
      · cases ha
      · obtain ⟨m1, he1, ha⟩ := Option.bind_eq_some_iff.1 ha
        obtain ⟨m2, he2, ha⟩ := Option.map_eq_some_iff.1 ha
        subst ha
        have snd : ∀ {m m1 : Mo} {i n : Int}, endM S m i n = some m1 → m1.2 = m.2 := fun he => by
          unfold endM at he
          split at he
          · split at he
            · cases he; rfl
            · cases he
          · split at he
            · cases he; rfl
            · cases he
        show (m2.2.set o.el.toNat (a : Int))[o.el.toNat]? = _
        rw [List.getElem?_set_self (by rw [snd he2, snd he1, h.e.el]; omega)]
    refine nodup_fm (fun a b x ha hb => ?_) List.nodup_range
    have h5 := key a x ha
    rw [key b x hb] at h5
    simp only [Option.some.injEq] at h5
    omega
structure All (S : Sea) (k : Kn) (now : List Mo) : Prop where
  par : ∀ m ∈ now, Par S k m
  nd : now.Nodup
  mem : ∀ x, Whole S x → cutM k x ∈ now
theorem nodup_flat {A B : Type} {f : A → List B} : ∀ {l : List A}, l.Nodup → (∀ a ∈ l, (f a).Nodup) → (∀ a ∈ l, ∀ b ∈ l, ∀ x, x ∈ f a → x ∈ f b → a = b) → (l.flatMap f).Nodup
  | [], _, _, _ => .nil
  | a :: l, h, h1, h2 => by
    have h' := List.nodup_cons.1 h
    rw [List.flatMap_cons]
    refine List.nodup_append.2 ⟨h1 a (by simp), nodup_flat h'.2 (fun b hb => h1 b (by simp [hb])) (fun b hb c hc => h2 b (by simp [hb]) c (by simp [hc])), fun x hx y hy hxy => ?_⟩
    subst hxy
    obtain ⟨b, hb, hy⟩ := List.mem_flatMap.1 hy
    have := h2 a (by simp) b (by simp [hb]) x hx hy
    subst this
    exact h'.1 hb
theorem all_next {S : Sea} (hp : GV S.p) (hg : GV S.g) {k : Kn} (hk : KnOk S.p k) {now : List Mo} (h : All S k now) {o : Opn} (ho : opE S.p k o = 0) : All S (aftK S.p k o) (now.flatMap fun m => extM S m o) := by
  refine ⟨fun m' hm => ?_, ?_, fun x hx => ?_⟩
  · obtain ⟨m, h1, h2⟩ := List.mem_flatMap.1 hm
    exact ext_par hp hg hk (h.par m h1) ho h2
  · refine nodup_flat h.nd (fun m hm => ext_nodup (h.par m hm) ho) fun a ha b hb x hxa hxb => ?_
    rw [← ext_from hp hg hk (h.par a ha) ho hxa, ext_from hp hg hk (h.par b hb) ho hxb]
  · exact List.mem_flatMap.2 ⟨_, h.mem x hx, ext_cut hp hg hk ho hx⟩
theorem cut_none {n : Nat} {l : List Int} (h : l.length = n) : cutL (List.replicate n false) l = noneL n := by
  subst h
  refine List.ext_getElem? fun u => ?_
  rw [cut_get]
  unfold noneL
  rw [List.getElem?_replicate, List.getElem?_replicate]
  by_cases hu : u < l.length
  · rw [if_pos hu, if_pos hu, List.getElem?_eq_getElem hu]; rfl
  · rw [if_neg hu, if_neg hu]
theorem all_0 (S : Sea) : All S (kn0 S.p) [noMo S.p] := by
  refine ⟨fun m hm => ?_, by simp, fun x hx => ?_⟩
  · rw [List.mem_singleton] at hm
    subst hm
    exact par_0 S
  · rw [List.mem_singleton]
    exact Prod.ext (cut_none hx.n.nl) (cut_none hx.e.el)
theorem all_true {l : List Bool} {n : Nat} (hl : l.length = n) (h : ∀ b ∈ l, b = true) : l = List.replicate n true := by
  subst hl
  exact List.eq_replicate_iff.2 ⟨rfl, h⟩
theorem known_rep {p : Gr} {k : Kn} (hk : KnOk p k) (h : knownB k = true) : k.ns = List.replicate p.nodes.length true ∧ k.es = List.replicate p.edges.length true := by
  obtain ⟨h1, h2⟩ := known_all h
  exact ⟨all_true hk.nl h1, all_true hk.el h2⟩
theorem all_end {S : Sea} {k : Kn} (hk : KnOk S.p k) (hkn : knownB k = true) {now : List Mo} (h : All S k now) (x : Mo) : x ∈ now ↔ Whole S x := by
  obtain ⟨h1, h2⟩ := known_rep hk hkn
  constructor
  · intro hx
    have := h.par x hx
    exact ⟨by rw [← h1]; exact this.n, by rw [← h2]; exact this.e⟩
  · intro hx
    have := h.mem x hx
    have e : cutM k x = x := Prod.ext (by
      show cutL k.ns x.1 = x.1
      refine cut_self (by rw [hk.nl, hx.n.nl]) fun u hu hb => ?_
      rw [h1, rep_true (by rw [← hx.n.nl]; exact hu)] at hb
      cases hb) (by
      show cutL k.es x.2 = x.2
      refine cut_self (by rw [hk.el, hx.e.el]) fun u hu hb => ?_
      rw [h2, rep_true (by rw [← hx.e.el]; exact hu)] at hb
      cases hb)
    rw [e] at this
    exact this
theorem run_all {S : Sea} (hp : GV S.p) (hg : GV S.g) : ∀ (l : List Opn) (k : Kn) (now : List Mo), KnOk S.p k → All S k now → planE S.p k l = 0 → ∀ r, runM (extM S) now l = some r →
    r.1.Nodup ∧ (∀ x, x ∈ r.1 ↔ Whole S x) ∧ r.2.length = l.length ∧ (l ≠ [] → r.2.getLast? = some (r.1.length : Int)) ∧ (l ≠ [] → r.1.length ≤ 5000)
  | [], k, now, hk, ha, hl, r, hr => by
    unfold planE at hl
    unfold runM at hr
    cases hr
    split at hl
    · rename_i h1
      exact ⟨ha.nd, all_end hk h1 ha, rfl, fun h => absurd rfl h, fun h => absurd rfl h⟩
    · cases hl
  | o :: l, k, now, hk, ha, hl, r, hr => by
    unfold planE at hl
    split at hl
    · rename_i h1; exact absurd hl h1
    · rename_i h1
      have h1 := Decidable.not_not.1 h1
      unfold runM at hr
      split at hr
      · cases hr
      · rename_i hle
        obtain ⟨r', hr', he⟩ := Option.map_eq_some_iff.1 hr
        have ih := run_all hp hg l _ _ (aftK_ok hk o) (all_next hp hg hk ha h1) hl r' hr'
        subst he
        refine ⟨ih.1, ih.2.1, by simp [ih.2.2.1], fun _ => ?_, fun _ => ?_⟩
        · cases l with
          | nil => unfold runM at hr'; cases hr'; rfl
          | cons o' l =>
            have := ih.2.2.2.1 (by simp)
            show ((_ :: r'.2).getLast?) = _
            rw [List.getLast?_cons, this]
            rfl
        · cases l with
          | nil => unfold runM at hr'; cases hr'; show (now.flatMap _).length ≤ 5000; omega
          | cons o' l => exact ih.2.2.2.2 (by simp)
end Go.Sj.Pln
end
section
namespace Go.Sj.Pln
open Go.Sj Go.Sj.Sta Go.Sj.Typ Go.Sj.Inc
set_option maxRecDepth 8000
theorem off_0 (i k : Nat) : offN none i k = false := rfl
theorem whole_isF {S : Sea} (hn : S.pn = none) (he : S.pe = none) (hp : GV S.p) {x : Mo} : Whole S x ↔ IsF S 0 0 x := by
  constructor
  · intro h
    refine ⟨h.n.nl, h.e.el, fun u _ hu => ?_, fun u _ hu => ?_⟩
    · obtain ⟨n, h1, h2, h3⟩ := h.n.n1 u hu (rep_true hu)
      refine ⟨n, h1, h2, ?_⟩
      have hl : (x.1.take u).length = u := by rw [List.length_take, h.n.nl]; omega
      unfold candN
      rw [hn, off_0, hl, h3]
      cases hj : S.inj with
      | false => rfl
      | true =>
        rw [decide_eq_false]
        · rfl
        · intro hm
          obtain ⟨v, hv⟩ := List.getElem?_of_mem hm
          have hv2 := (List.getElem?_eq_some_iff.1 hv).1
          rw [List.getElem?_take, if_pos (by omega)] at hv
          have := h.n.inj hj u v n (Int.natCast_nonneg n) h1 hv
          omega
    · obtain ⟨n, h1, h2, h3, h4, h5⟩ := h.e.e1 u hu (rep_true hu)
      refine ⟨n, h1, h2, ?_⟩
      have hl : (x.2.take u).length = u := by rw [List.length_take, h.e.el]; omega
      rw [edP_get hu, edP_get h2] at h3
      rw [edP_get hu] at h4 h5
      rw [edP_get h2] at h4 h5
      unfold candE fitB eqE
      rw [he, off_0, hl, List.getElem?_eq_getElem hu, List.getElem?_eq_getElem h2]
      simp only [List.getD_eq_getElem?_getD, h4, h5, Option.getD_some, decide_true, Bool.and_true, h3]
      cases hj : S.inj with
      | false => rfl
      | true =>
        rw [decide_eq_false]
        · rfl
        · intro hm
          obtain ⟨v, hv⟩ := List.getElem?_of_mem hm
          have hv2 := (List.getElem?_eq_some_iff.1 hv).1
          rw [List.getElem?_take, if_pos (by omega)] at hv
          have := h.e.inj hj u v n (Int.natCast_nonneg n) h1 hv
          omega
  · intro h
    have dist : ∀ {l : List Int}, (∀ (u : Nat) (z : Int), l[u]? = some z → z ∉ l.take u) → ∀ (u v : Nat) (z : Int), l[u]? = some z → l[v]? = some z → u = v := fun {l} hd u v z h1 h2 => by
      have hu := (List.getElem?_eq_some_iff.1 h1).1
      have hv := (List.getElem?_eq_some_iff.1 h2).1
      rcases Nat.lt_trichotomy u v with e | e | e
      · exact absurd (List.mem_of_getElem? (by rw [List.getElem?_take, if_pos e]; exact h1)) (hd v z h2)
      · exact e
      · exact absurd (List.mem_of_getElem? (by rw [List.getElem?_take, if_pos e]; exact h2)) (hd u z h1)
    constructor
    · refine ⟨h.nl, fun u hu _ => ?_, fun u hu hf => ?_, fun hj u v z _ h1 h2 => dist (fun u z hu => ?_) u v z h1 h2⟩
      · obtain ⟨k, h1, h2, h3⟩ := h.ns u (Nat.zero_le _) hu
        have hl : (x.1.take u).length = u := by rw [List.length_take, h.nl]; omega
        unfold candN at h3
        rw [hl, Bool.and_eq_true, Bool.and_eq_true] at h3
        exact ⟨k, h1, h2, h3.2.1⟩
      · rw [rep_true hu] at hf; cases hf
      · have hul := (List.getElem?_eq_some_iff.1 hu).1
        obtain ⟨k, h1, h2, h3⟩ := h.ns u (Nat.zero_le _) (by rw [← h.nl]; exact hul)
        rw [hu] at h1
        cases h1
        unfold candN at h3
        rw [Bool.and_eq_true, Bool.and_eq_true, hj] at h3
        simpa using h3.2.2
    · refine ⟨h.el, fun u hu _ => ?_, fun u hu hf => ?_, fun hj u v z _ h1 h2 => dist (fun u z hu => ?_) u v z h1 h2⟩
      · obtain ⟨k, h1, h2, h3⟩ := h.es u (Nat.zero_le _) hu
        have hl : (x.2.take u).length = u := by rw [List.length_take, h.el]; omega
        have hin := (hp.edges _ (List.getElem_mem hu)).2
        unfold candE fitB eqE at h3
        rw [hl, List.getElem?_eq_getElem hu, List.getElem?_eq_getElem h2] at h3
        simp only [Bool.and_eq_true, decide_eq_true_eq] at h3
        obtain ⟨⟨_, g1, g2, g3⟩, _⟩ := h3
        refine ⟨k, h1, h2, ?_, ?_, ?_⟩
        · rw [edP_get hu, edP_get h2]; exact g1
        · rw [edP_get hu, edP_get h2, g2, List.getD_eq_getElem?_getD, List.getElem?_eq_getElem (by rw [h.nl]; omega)]; rfl
        · rw [edP_get hu, edP_get h2, g3, List.getD_eq_getElem?_getD, List.getElem?_eq_getElem (by rw [h.nl]; omega)]; rfl
      · rw [rep_true hu] at hf; cases hf
      · have hul := (List.getElem?_eq_some_iff.1 hu).1
        obtain ⟨k, h1, h2, h3⟩ := h.es u (Nat.zero_le _) (by rw [← h.el]; exact hul)
        rw [hu] at h1
        cases h1
        unfold candE at h3
        rw [Bool.and_eq_true, hj] at h3
        simpa using h3.2
theorem perm_len {l l' : List Mo} (h : l.Nodup) (h' : l'.Nodup) (hm : ∀ x, x ∈ l ↔ x ∈ l') : l.length = l'.length := by
  have h1 : ∀ {a b : List Mo}, a.Nodup → (∀ x ∈ a, x ∈ b) → a.length ≤ b.length := by
    intro a
    induction a with
    | nil => exact fun _ _ => Nat.zero_le _
    | cons x a ih =>
      intro b ha hb
      have ha' := List.nodup_cons.1 ha
      have hx := hb x (by simp)
      have := ih (b := b.erase x) ha'.2 fun y hy => (List.mem_erase_of_ne (fun e => ha'.1 (by rw [← e]; exact hy))).2 (hb y (by simp [hy]))
      rw [List.length_erase_of_mem hx] at this
      have := List.length_pos_of_mem hx
      simp only [List.length_cons]
      omega
  exact Nat.le_antisymm (h1 h fun x hx => (hm x).1 hx) (h1 h' fun x hx => (hm x).2 hx)
theorem srtM_nodup {l : List Mo} (h : SrtM l) : l.Nodup := h.imp fun {a b} hab e => by
  rw [e, cmpM_self] at hab
  exact absurd hab (by decide)
theorem run_mat {S : Sea} (hn : S.pn = none) (he : S.pe = none) (hp : GV S.p) (hg : GV S.g) {l : List Opn} (hl : planE S.p (kn0 S.p) l = 0) {r : List Mo × List Int} (hr : runM (extM S) [noMo S.p] l = some r) :
    r.1.Nodup ∧ (∀ x, x ∈ r.1 ↔ x ∈ matL S) ∧ r.1.length = (matL S).length ∧ (matL S).length ≤ 5000 ∧ r.2.length = l.length ∧ (l ≠ [] → r.2.getLast? = some (r.1.length : Int)) := by
  obtain ⟨a, b, c, d, e⟩ := run_all hp hg l _ _ (kn0_ok _) (all_0 S) hl r hr
  have hm : ∀ x, x ∈ r.1 ↔ x ∈ matL S := fun x => by rw [b, mat_mem, whole_isF hn he hp]
  have hlen := perm_len a (srtM_nodup (mat_srt S)) hm
  refine ⟨a, hm, hlen, ?_, c, d⟩
  cases l with
  | nil =>
    unfold runM at hr
    cases hr
    rw [← hlen]
    show 1 ≤ 5000
    omega
  | cons o l => rw [← hlen]; exact e (by simp)
end Go.Sj.Pln
end
section
namespace Go.Proofs.YtimfponihbfimaaGreat
open Go.Sj Go.Sj.Typ Go.Sj.Sta Go.Sj.Inc
set_option maxRecDepth 8000
set_option maxHeartbeats 16000000
theorem ggiven_spec (t : Tys) (ht : Small t) (p g : Gr) (hp : OkG p) (hg : OkG g) : Pure Tryz.prog 38 [tysA t, grA p, grA g] (AI (validS t p g)) := by
  have s1 := refValid_spec t ht
  have s2 := refgvalid_spec p hp
  have s3 := refgvalid_spec g hg
  obtain ⟨r, hr⟩ : ∃ r, validS t p g = r := ⟨_, rfl⟩
  rw [hr]
  unfold validS at hr
  generalize (validR t).1 = nm at s1
  by_cases hv : (validR t).2 = 0
  · rw [if_neg (Decidable.not_not.2 hv)] at hr
    rw [hv] at s1
    by_cases h1 : gvalid p = 0
    · rw [if_neg (Decidable.not_not.2 h1)] at hr
      rw [h1] at s2
      have hP := gvalid_zero.1 h1
      have s4 := gTyped_spec t ht p hP
      by_cases h2 : gvalid g = 0
      · rw [if_neg (Decidable.not_not.2 h2)] at hr
        rw [h2] at s3
        have hG := gvalid_zero.1 h2
        have s5 := gTyped_spec t ht g hG
        clear hP hG
        generalize typT t p = b1 at *
        generalize typT t g = b2 at *
        cases b1 <;> cases b2
        all_goals
          subst hr
          refine zen Tryz.func38 (by kernel_rfl) rfl Tryz.ntmps38 rfl (by simp) ?_
          refine a_seq ?_
          refine a_reg ?_
          repeat (first | refine gZ pk ?_ | (show AL _ _ _ _ _ _ _; first | refine jB (fun u => ?_)))
          refine zfb 0 5 rfl rfl ?_
          refine zfb 0 4 rfl rfl ?_
          refine zfb 0 3 rfl rfl ?_
          repeat (first | refine gA pk ?_ | (show AL _ _ _ _ _ _ _; first | refine jP s1 ?_ | refine jP s2 ?_ | refine jP s3 ?_ | refine jP s4 ?_ | refine jP s5 ?_))
          refine finQ ?_
          exact ⟨rfl, rfl⟩
      · rw [if_pos h2] at hr
        subst hr
        generalize gvalid g = e at *
        refine zen Tryz.func38 (by kernel_rfl) rfl Tryz.ntmps38 rfl (by simp) ?_
        refine a_seq ?_
        refine a_reg ?_
        repeat (first | refine gZ pk ?_ | (show AL _ _ _ _ _ _ _; first | refine jB (fun u => ?_)))
        refine zfb 0 5 rfl rfl ?_
        refine zfb 0 4 rfl rfl ?_
        refine zfb 0 3 rfl rfl ?_
        repeat (first | refine gA pk ?_ | (show AL _ _ _ _ _ _ _; first | refine jP s1 ?_ | refine jP s2 ?_ | refine jP s3 ?_))
        refine finQ ?_
        exact ⟨rfl, rfl⟩
    · rw [if_pos h1] at hr
      subst hr
      generalize gvalid p = e at *
      refine zen Tryz.func38 (by kernel_rfl) rfl Tryz.ntmps38 rfl (by simp) ?_
      refine a_seq ?_
      refine a_reg ?_
      repeat (first | refine gZ pk ?_ | (show AL _ _ _ _ _ _ _; first | refine jB (fun u => ?_)))
      refine zfb 0 5 rfl rfl ?_
      refine zfb 0 4 rfl rfl ?_
      refine zfb 0 3 rfl rfl ?_
      repeat (first | refine gA pk ?_ | (show AL _ _ _ _ _ _ _; first | refine jP s1 ?_ | refine jP s2 ?_))
      refine finQ ?_
      exact ⟨rfl, rfl⟩
  · rw [if_pos hv] at hr
    subst hr
    generalize (validR t).2 = e at *
    refine zen Tryz.func38 (by kernel_rfl) rfl Tryz.ntmps38 rfl (by simp) ?_
    refine a_seq ?_
    refine a_reg ?_
    repeat (first | refine gZ pk ?_ | (show AL _ _ _ _ _ _ _; first | refine jB (fun u => ?_)))
    refine zfb 0 5 rfl rfl ?_
    refine zfb 0 4 rfl rfl ?_
    refine zfb 0 3 rfl rfl ?_
    repeat (first | refine gA pk ?_ | (show AL _ _ _ _ _ _ _; first | refine jP s1 ?_))
    refine finQ ?_
    exact ⟨rfl, rfl⟩
end Go.Proofs.YtimfponihbfimaaGreat
end
section
namespace Go.Proofs.YtimfponihbfimaaGreat
open Go.Sj Go.Sj.Typ Go.Sj.Sta Go.Sj.Inc
set_option maxRecDepth 8000
set_option maxHeartbeats 16000000
abbrev rsA (t : Tys) (S : Sea) (a b : List Int) (most : Int) (Z : AV) : List AV := [nodsA t.nodes, edgsA t.edges, ints S.p.nodes, edsA S.p.edges, ints S.g.nodes, edsA S.g.edges, ints a, ints b, AB S.inj, AI most, Z]
theorem gused_spec (t : Tys) (S : Sea) (a b : List Int) (most : Int) (Z : AV) (l : List Int) (hl : l.length ≤ 1000) (n : Int) :
    Pure Tryz.prog 145 [.ip (rsA t S a b most Z), ints l, AI n] (AB (S.inj && decide (n ∈ l))) := by
  have ll : (rowI l).length = l.length := by simp
  obtain ⟨ij, hij⟩ : ∃ ij, S.inj = ij := ⟨_, rfl⟩
  obtain ⟨r, hr⟩ : ∃ r, (S.inj && decide (n ∈ l)) = r := ⟨_, rfl⟩
  rw [hr]
  unfold rsA
  rw [hij] at hr ⊢
  refine zen Tryz.func145 (by kernel_rfl) rfl Tryz.ntmps145 rfl (by simp) ?_
  repeat (first | refine gA pk ?_)
  refine zlx (fun k : Nat => [(0, .ip [nodsA t.nodes, edgsA t.edges, ints S.p.nodes, edsA S.p.edges, ints S.g.nodes, edsA S.g.edges, ints a, ints b, AB ij, AI most, Z]), (1, ints l), (2, AI n), (7, AI k)]) (fun _ => []) (fun k => k ≤ l.length ∧ ∀ x ∈ l.take k, x ≠ n) (fun k => l.length - k) 0 ⟨Nat.zero_le _, by simp⟩ ?_ (OSub.none _) ?_
  · exact subQ
  · rintro k ⟨hk, hno⟩
    rcases Nat.lt_or_ge k l.length with h | h
    · cases ij with
      | false =>
        have hr2 : r = false := by rw [← hr]; rfl
        subst hr2
        repeat (first | refine gA pk ?_)
        refine finQ ?_
        exact ⟨rfl, rfl⟩
      | true =>
        have hx := List.getElem?_eq_getElem h
        have hxm := List.getElem_mem h
        generalize l[k] = x at hx hxm
        have xk : (rowI l)[(k : Int).toNat]? = some [AI x] := zmp (f := cI) hx
        by_cases hxn : x = n
        · subst hxn
          have hr2 : r = true := by rw [← hr, decide_eq_true hxm]; rfl
          subst hr2
          repeat (first | refine gA pk ?_ | (show AL _ _ _ _ _ _ _; first | refine jX tok xk ?_))
          refine finQ ?_
          exact ⟨rfl, rfl⟩
        · repeat (first | refine gA pk ?_ | (show AL _ _ _ _ _ _ _; first | refine jX tok xk ?_))
          exact ⟨k + 1, ⟨by omega, fun z hz => by
            rw [List.take_add_one, hx] at hz
            rcases List.mem_append.1 hz with hz | hz
            · exact hno z hz
            · simp at hz; subst hz; exact hxn⟩, by omega, by exact subQ, OSub.none _⟩
    · obtain rfl : k = l.length := by omega
      rw [List.take_length] at hno
      have hr2 : r = false := by rw [← hr, decide_eq_false (fun hm => hno n hm rfl), Bool.and_false]
      subst hr2
      repeat (first | refine gA pk ?_)
      refine finQ ?_
      exact ⟨rfl, rfl⟩
theorem gfits_rec (t : Tys) (S : Sea) (hS : SeaOk S) (a b : List Int) (most : Int) (Z : AV) (ns : List Int) (hn : ns.length ≤ 1000) :
    Pure Tryz.prog 143 [.ip (rsA t S a b most Z), ints ns] (AB (gfitB S ns)) := by
  have hpl := hS.p.el
  have hgl := hS.g.el
  have lp : (S.p.edges.map cEd).length = S.p.edges.length := by simp
  have lg : (S.g.edges.map cEd).length = S.g.edges.length := by simp
  have ln : (rowI ns).length = ns.length := by simp
  obtain ⟨r, hr⟩ : ∃ r, gfitB S ns = r := ⟨_, rfl⟩
  rw [hr]
  refine zen Tryz.func143 (by kernel_rfl) rfl Tryz.ntmps143 rfl (by simp) ?_
  repeat (first | refine gA pk ?_)
  refine zlx (fun i : Nat => [(0, .ip (rsA t S a b most Z)), (1, ints ns), (5, AI i)]) (fun _ => []) (fun i => i ≤ S.p.edges.length ∧ ∀ (j : Nat) (x : Ed), j < i → S.p.edges[j]? = some x → gfitT S ns x j = true) (fun i => S.p.edges.length - i) 0 ⟨Nat.zero_le _, fun j x hj => (by omega)⟩ ?_ (OSub.none _) ?_
  · exact subQ
  · rintro i ⟨hi, hall⟩
    rcases Nat.lt_or_ge i S.p.edges.length with h | h
    · have hx := List.getElem?_eq_getElem h
      have hxe := (hS.p.edges _ (List.getElem_mem h)).2
      generalize S.p.edges[i] = x at hx hxe
      obtain ⟨x1, x2, x3⟩ := x
      simp only at hxe
      have xk : (S.p.edges.map cEd)[(i : Int).toNat]? = some [AI x1, AI x2, AI x3] := zmp (f := cEd) hx
      have hnext : gfitT S ns ⟨x1, x2, x3⟩ i = true → ∀ (j : Nat) (x : Ed), j < i + 1 → S.p.edges[j]? = some x → gfitT S ns x j = true := fun ht j x hj hjx => by
        rcases Nat.lt_or_ge j i with h2 | h2
        · exact hall j x h2 hjx
        · obtain rfl : j = i := by omega
          rw [hx] at hjx
          cases hjx
          exact ht
      by_cases h1 : x2 < ns.length
      · by_cases h3 : x3 < ns.length
        · have hn2 := List.getElem?_eq_getElem (l := ns) (i := x2.toNat) (by omega)
          have hn3 := List.getElem?_eq_getElem (l := ns) (i := x3.toNat) (by omega)
          generalize ns[x2.toNat]'(by omega) = n2 at *
          generalize ns[x3.toNat]'(by omega) = n3 at *
          have k2 : (rowI ns)[x2.toNat]? = some [AI n2] := zmp (f := cI) hn2
          have k3 : (rowI ns)[x3.toNat]? = some [AI n3] := zmp (f := cI) hn3
          repeat (first | refine gN pk ?_ | (show AL _ _ _ _ _ _ _; first | refine jX tok xk ?_ | refine jL tok (fun u => ?_) | refine jS tok 0 ?_ | refine jO tok 0 ?_))
          refine zfb 0 6 rfl rfl ?_
          have hsucc : ∀ k, (List.range (k + 1)).any (eqE S ns i) = ((List.range k).any (eqE S ns i) || eqE S ns i k) := fun k => by rw [List.range_succ, List.any_append]; simp
          refine zlx (fun k : Nat => [(0, .ip (rsA t S a b most Z)), (1, ints ns), (5, AI i), (6, .ip [AI x1, AI x2, AI x3]), (7, AB ((List.range k).any (eqE S ns i))), (8, AI k)]) (fun _ => []) (fun k => k ≤ S.g.edges.length) (fun k => S.g.edges.length - k) 0 (Nat.zero_le _) ?_ (OSub.none _) ?_
          · exact subQ
          · intro k hk
            rcases Nat.lt_or_ge k S.g.edges.length with h4 | h4
            · have hy := List.getElem?_eq_getElem h4
              have heq : eqE S ns i k = (decide (S.g.edges[k].ty = x1) && (decide (S.g.edges[k].fr = n2) && decide (S.g.edges[k].to = n3))) := by
                unfold eqE
                rw [hx, hy]
                simp only [List.getD_eq_getElem?_getD, hn2, hn3, Option.getD_some]
              have hsk := hsucc k
              generalize S.g.edges[k] = y at hy heq
              obtain ⟨y1, y2, y3⟩ := y
              simp only at heq
              have yk : (S.g.edges.map cEd)[(k : Int).toNat]? = some [AI y1, AI y2, AI y3] := zmp (f := cEd) hy
              rw [heq] at hsk
              cases hok : (List.range k).any (eqE S ns i) with
              | true =>
                rw [hok, Bool.true_or] at hsk
                repeat (first | refine gN pk ?_ | (show AL _ _ _ _ _ _ _; first | refine jX tok yk ?_ | refine jL tok (fun u => ?_) | refine jS tok 0 ?_))
                refine zfb 0 9 rfl rfl ?_
                repeat (first | (show AWp _ _ _ _ _ _; first | refine a_regR mixed (by decide +kernel) ?_) | refine gN pk ?_)
                refine ⟨k + 1, by omega, by omega, ?_, OSub.none _⟩
                show SubS _ (lk [(0, .ip (rsA t S a b most Z)), (1, ints ns), (5, AI i), (6, .ip [AI x1, AI x2, AI x3]), (7, AB ((List.range (k + 1)).any (eqE S ns i))), (8, AI ((k + 1 : Nat) : Int))])
                rw [hsk]
                exact subQ
              | false =>
                rw [hok, Bool.false_or] at hsk
                by_cases e1 : y1 = x1
                · by_cases e2 : y2 = n2
                  · by_cases e3 : y3 = n3
                    all_goals
                      rw [decide_eq_true e1, decide_eq_true e2] at hsk
                      first | rw [decide_eq_true e3] at hsk | rw [decide_eq_false e3] at hsk
                      simp only [Bool.and_true, Bool.and_false] at hsk
                      repeat (first | refine gN pk ?_ | (show AL _ _ _ _ _ _ _; first | refine jX tok yk ?_ | refine jL tok (fun u => ?_) | refine jS tok 0 ?_))
                      refine zfb 0 9 rfl rfl ?_
                      repeat (first | (show AWp _ _ _ _ _ _; first | refine a_regR mixed (by decide +kernel) ?_) | refine gN pk ?_ | (show AL _ _ _ _ _ _ _; first | refine jX tok k2 ?_ | refine jX tok k3 ?_))
                      refine ⟨k + 1, by omega, by omega, ?_, OSub.none _⟩
                      show SubS _ (lk [(0, .ip (rsA t S a b most Z)), (1, ints ns), (5, AI i), (6, .ip [AI x1, AI x2, AI x3]), (7, AB ((List.range (k + 1)).any (eqE S ns i))), (8, AI ((k + 1 : Nat) : Int))])
                      rw [hsk]
                      exact subQ
                  · rw [decide_eq_false e2, Bool.false_and, Bool.and_false] at hsk
                    repeat (first | refine gN pk ?_ | (show AL _ _ _ _ _ _ _; first | refine jX tok yk ?_ | refine jL tok (fun u => ?_) | refine jS tok 0 ?_))
                    refine zfb 0 9 rfl rfl ?_
                    repeat (first | (show AWp _ _ _ _ _ _; first | refine a_regR mixed (by decide +kernel) ?_) | refine gN pk ?_ | (show AL _ _ _ _ _ _ _; first | refine jX tok k2 ?_ | refine jX tok k3 ?_))
                    refine ⟨k + 1, by omega, by omega, ?_, OSub.none _⟩
                    show SubS _ (lk [(0, .ip (rsA t S a b most Z)), (1, ints ns), (5, AI i), (6, .ip [AI x1, AI x2, AI x3]), (7, AB ((List.range (k + 1)).any (eqE S ns i))), (8, AI ((k + 1 : Nat) : Int))])
                    rw [hsk]
                    exact subQ
                · rw [decide_eq_false e1, Bool.false_and] at hsk
                  repeat (first | refine gN pk ?_ | (show AL _ _ _ _ _ _ _; first | refine jX tok yk ?_ | refine jL tok (fun u => ?_) | refine jS tok 0 ?_))
                  refine zfb 0 9 rfl rfl ?_
                  repeat (first | (show AWp _ _ _ _ _ _; first | refine a_regR mixed (by decide +kernel) ?_) | refine gN pk ?_ | (show AL _ _ _ _ _ _ _; first | refine jX tok k2 ?_ | refine jX tok k3 ?_))
                  refine ⟨k + 1, by omega, by omega, ?_, OSub.none _⟩
                  show SubS _ (lk [(0, .ip (rsA t S a b most Z)), (1, ints ns), (5, AI i), (6, .ip [AI x1, AI x2, AI x3]), (7, AB ((List.range (k + 1)).any (eqE S ns i))), (8, AI ((k + 1 : Nat) : Int))])
                  rw [hsk]
                  exact subQ
            · obtain rfl : k = S.g.edges.length := by omega
              have ht : gfitT S ns ⟨x1, x2, x3⟩ i = (List.range S.g.edges.length).any (eqE S ns i) := by
                unfold gfitT
                simp [h1, h3]
              rw [← ht]
              cases hv : gfitT S ns ⟨x1, x2, x3⟩ i with
              | true =>
                repeat (first | refine gA pk ?_)
                exact ⟨i + 1, ⟨by omega, hnext hv⟩, by omega, by exact subQ, OSub.none _⟩
              | false =>
                rw [gfitB_false hx hv] at hr
                subst hr
                repeat (first | refine gA pk ?_)
                refine finQ ?_
                exact ⟨rfl, rfl⟩
        · have ht : gfitT S ns ⟨x1, x2, x3⟩ i = true := by unfold gfitT; simp [h3]
          repeat (first | refine gA pk ?_ | (show AL _ _ _ _ _ _ _; first | refine jX tok xk ?_ | refine jL tok (fun u => ?_) | refine jS tok 0 ?_ | refine jO tok 0 ?_))
          exact ⟨i + 1, ⟨by omega, hnext ht⟩, by omega, by exact subQ, OSub.none _⟩
      · have ht : gfitT S ns ⟨x1, x2, x3⟩ i = true := by unfold gfitT; simp [h1]
        repeat (first | refine gA pk ?_ | (show AL _ _ _ _ _ _ _; first | refine jX tok xk ?_ | refine jL tok (fun u => ?_) | refine jS tok 0 ?_ | refine jO tok 0 ?_))
        exact ⟨i + 1, ⟨by omega, hnext ht⟩, by omega, by exact subQ, OSub.none _⟩
    · obtain rfl : i = S.p.edges.length := by omega
      rw [gfitB_true (fun j x hj => hall j x (List.getElem?_eq_some_iff.1 hj).1 hj)] at hr
      subst hr
      repeat (first | refine gA pk ?_)
      refine finQ ?_
      exact ⟨rfl, rfl⟩
end Go.Proofs.YtimfponihbfimaaGreat
end
section
namespace Go.Proofs.YtimfponihbfimaaGreat
open Go.Sj Go.Sj.Typ Go.Sj.Sta Go.Sj.Inc
set_option maxRecDepth 8000
set_option maxHeartbeats 16000000
abbrev roL (E : Nat) (t : Tys) (S : Sea) (a b : List Int) (most : Int) (u vo : Value) (out : List Mo) : Own := [(u, .box (rsA t S a b most (.lit vo))), (vo, .row E 2 (out.map cMo))]
theorem ro_fv (E : Nat) (t : Tys) (S : Sea) (a b : List Int) (most : Int) (u vo : Value) (out : List Mo) : FV (roL E t S a b most u vo out) (.pt u 0 0 0) (.ip (rsA t S a b most (mosA out))) :=
  FV.trans (FV.box (cells := rsA t S a b most (.lit vo)) (by simp)) (FV.ip (l := rsA t S a b most (.lit vo)) (m := rsA t S a b most (mosA out)) ⟨FV.refl _, FV.refl _, FV.refl _, FV.refl _, FV.refl _, FV.refl _, FV.refl _, FV.refl _, FV.refl _, FV.refl _, FV.row (E := E) (by simp), trivial⟩)
theorem mo_rows' (l : List Mo) : ∀ x ∈ l.map cMo, x.length = 2 := fun x hx => by
  obtain ⟨y, _, rfl⟩ := List.mem_map.1 hx
  rfl
theorem gedges_rec (t : Tys) (S : Sea) (hS : SeaOk S) (a b : List Int) (hb : S.pe = some b) (most : Nat) (hmost : most ≤ 10000) (ns : List Int) (hns : ns.length = S.p.nodes.length) : ∀ (m : Nat) (es : List Int), m = S.p.edges.length - es.length → es.length ≤ S.p.edges.length → ∀ (u vo : Value) (out : List Mo), out.length ≤ most + 1 →
    ACalls Tryz.prog 144 [.pt u 0 0 0, ints ns, ints es] (roL 88 t S a b most u vo out) (fun y M => ∃ vo', y = .tup [] ∧ M = roL 88 t S a b most u vo' ((out ++ findL S m ns es).take (most + 1))) := by
  have hgn := hS.g.nl
  have hge := hS.g.el
  have hpn := hS.p.nl
  have hpe := hS.p.el
  have hbl := hS.pe b hb
  have lpe : (S.p.edges.map cEd).length = S.p.edges.length := by simp
  have lge : (S.g.edges.map cEd).length = S.g.edges.length := by simp
  have lns : (rowI ns).length = ns.length := by simp
  have lb : (rowI b).length = b.length := by simp
  intro m
  induction m with
  | zero =>
    intro es hm he u vo out ho
    have les : (rowI es).length = es.length := by simp
    have lo : (out.map cMo).length = out.length := by simp
    rcases Nat.lt_or_ge most out.length with h | h
    · have hr : (out ++ findL S 0 ns es).take (most + 1) = out := List.take_left' (by omega)
      rw [hr]
      refine zen Tryz.func144 (by kernel_rfl) rfl Tryz.ntmps144 rfl (by simp) ?_
      repeat (first | (show AWp _ _ _ _ _ _; first | refine a_regR mixed (by decide +kernel) ?_) | refine gN pk ?_ | (show AL _ _ _ _ _ _ _; first | refine jO tok 0 ?_ | refine zol tok 1 rfl rfl rfl rfl (by decide) rfl rfl rfl ?_))
      exact fin (x := .tup []) (.inr rfl) rfl (Sub.refl _) ⟨_, rfl, rfl⟩ (OSub.refl _)
    · have hr : (out ++ findL S 0 ns es).take (most + 1) = out ++ [(ns, es)] := by
        unfold findL
        exact List.take_of_length_le (by simp; omega)
      rw [hr]
      have hmo : (out ++ [(ns, es)]).map cMo = out.map cMo ++ [[.im 1 ([] ++ rowI ns), .im 1 ([] ++ rowI es)]] := by simp
      refine zen Tryz.func144 (by kernel_rfl) rfl Tryz.ntmps144 rfl (by simp) ?_
      repeat (first | (show AWp _ _ _ _ _ _; first | refine a_regR mixed (by decide +kernel) ?_) | refine gN pk ?_ | (show AL _ _ _ _ _ _ _; first | refine jO tok 0 ?_ | refine zol tok 1 rfl rfl rfl rfl (by decide) rfl rfl rfl ?_))
      refine AWp.mono (Q := fun e st L => e = .normal ∧ ∃ w, GoTo 135 st L (lk []) (roL 88 t S a b most u w (out ++ [(ns, es)]))) ?_ (fun e st L h => ?_)
      · refine zrg ((List.range 17).map fun i => if inL [4, 5, 7, 8, 10, 12, 13, 16] i = true then .eff else .pure) [] [0, 1, 2, 3, 6, 9] (.nd 4 [] (.nd 5 [] (.nd 7 [8, 10, 11, 12, 13, 14, 15, 16] .stop (.nd 8 [7, 10, 11, 12, 13, 14, 15, 16] .stop .stop)) (.nd 8 [5, 7, 10, 11, 12, 13, 14, 15, 16] .stop .stop)) (.nd 5 [] (.nd 4 [] (.nd 7 [8, 10, 11, 12, 13, 14, 15, 16] .stop (.nd 8 [7, 10, 11, 12, 13, 14, 15, 16] .stop .stop)) (.nd 7 [] (.nd 4 [8, 10, 11, 12, 13, 14, 15, 16] .stop (.nd 8 [] (.nd 4 [10, 11, 12, 13, 14, 15, 16] .stop (.nd 10 [11] (.nd 4 [12, 13, 14, 15, 16] .stop (.nd 12 [4, 13, 14, 15, 16] .stop .stop)) .stop)) .stop)) (.nd 8 [] (.nd 4 [7, 10, 11, 12, 13, 14, 15, 16] .stop (.nd 7 [] (.nd 4 [10, 11, 12, 13, 14, 15, 16] .stop (.nd 10 [11] (.nd 4 [12, 13, 14, 15, 16] .stop (.nd 12 [4, 13, 14, 15, 16] .stop .stop)) .stop)) .stop)) .stop))) (.nd 8 [] (.nd 4 [5, 7, 10, 11, 12, 13, 14, 15, 16] .stop (.nd 5 [] (.nd 4 [7, 10, 11, 12, 13, 14, 15, 16] .stop (.nd 7 [] (.nd 4 [10, 11, 12, 13, 14, 15, 16] .stop (.nd 10 [11] (.nd 4 [12, 13, 14, 15, 16] .stop (.nd 12 [4, 13, 14, 15, 16] .stop .stop)) .stop)) .stop)) .stop)) .stop))) mixed rfl rfl (by decide +kernel) ?_
        repeat' (first | (with_reducible show AG _ _ _ _ _ _ _ _ _ _; first | exact zgn | refine zgs ?_ | refine znd ?_ ?_) | (show AMid _ _ _ _; first | refine zmf ?_ | refine zmg (by first | exact OSub.refl _ | exact .drop (OSub.refl _) | exact .drop (.drop (OSub.refl _))) ?_) | refine gY pk ?_ | (show AL _ _ _ _ _ _ _; first | refine jO tok 0 ?_ | refine jO tok 1 ?_ | refine jO tok 2 ?_ | refine s_build tok (parts := []) rfl rfl rfl rfl rfl rfl rfl rfl (by decide) (by decide) (fun v => ?_) | refine s_appendImF tok 0 rfl rfl rfl rfl rfl rfl (by decide) rfl rfl rfl rfl (rowI_cell _) (by simp only [lns, les, List.length_nil]; omega) (by simp only [lns, les, List.length_nil]; omega) ?_ | refine s_appendImF tok 1 rfl rfl rfl rfl rfl rfl (by decide) rfl rfl rfl rfl (rowI_cell _) (by simp only [lns, les, List.length_nil]; omega) (by simp only [lns, les, List.length_nil]; omega) ?_ | refine zba tok rfl rfl rfl rfl rfl rfl rfl rfl (by decide) (fun lv => ?_) | refine zak tok 1 rfl rfl rfl rfl rfl rfl (by decide) rfl rfl rfl rfl (by omega) (by omega) (fun w hw => ?_) | refine zsb tok 0 rfl rfl rfl rfl rfl rfl rfl (by assumption) rfl (Nat.le_of_ble_eq_true rfl) rfl ?_) | fail)
        all_goals
          refine ⟨rfl, w, .sub (by exact subQ) ?_⟩
          show OSub [(u, OB.box (rsA t S a b most (.lit w))), (w, OB.row 88 2 ((out ++ [(ns, es)]).map cMo))] _
          rw [hmo]
          exact OSub.refl _
      · obtain ⟨rfl, w, h'⟩ := h
        refine zgt h' ?_
        repeat (first | refine gA pk ?_)
        exact fin (x := .tup []) (.inr rfl) rfl (Sub.refl _) ⟨_, rfl, rfl⟩ (OSub.refl _)
  | succ m ih =>
    intro es hm he u vo out ho
    have les : (rowI es).length = es.length := by simp
    have lo : (out.map cMo).length = out.length := by simp
    rcases Nat.lt_or_ge most out.length with h | h
    · have hr : (out ++ findL S (m + 1) ns es).take (most + 1) = out := List.take_left' (by omega)
      rw [hr]
      refine zen Tryz.func144 (by kernel_rfl) rfl Tryz.ntmps144 rfl (by simp) ?_
      repeat (first | (show AWp _ _ _ _ _ _; first | refine a_regR mixed (by decide +kernel) ?_) | refine gN pk ?_ | (show AL _ _ _ _ _ _ _; first | refine jO tok 0 ?_ | refine zol tok 1 rfl rfl rfl rfl (by decide) rfl rfl rfl ?_))
      exact fin (x := .tup []) (.inr rfl) rfl (Sub.refl _) ⟨_, rfl, rfl⟩ (OSub.refl _)
    · have hlt : ¬ ns.length < S.p.nodes.length := by omega
      have hel : es.length < S.p.edges.length := by omega
      rw [findL_edges hlt]
      have hxi := List.getElem?_eq_getElem hel
      have hxe := (hS.p.edges _ (List.getElem_mem hel)).2
      generalize S.p.edges[es.length] = x at hxi hxe
      obtain ⟨x1, x2, x3⟩ := x
      simp only at hxe
      have hn2 := List.getElem?_eq_getElem (l := ns) (i := x2.toNat) (by omega)
      have hn3 := List.getElem?_eq_getElem (l := ns) (i := x3.toNat) (by omega)
      generalize ns[x2.toNat]'(by omega) = n2 at *
      generalize ns[x3.toNat]'(by omega) = n3 at *
      have k2 : (rowI ns)[x2.toNat]? = some [AI n2] := zmp (f := cI) hn2
      have k3 : (rowI ns)[x3.toNat]? = some [AI n3] := zmp (f := cI) hn3
      have xk : (S.p.edges.map cEd)[(es.length : Int).toNat]? = some [AI x1, AI x2, AI x3] := zmp (f := cEd) hxi
      have xkk : (S.p.edges.map cEd)[((rowI es).length : Int).toNat]? = some [AI x1, AI x2, AI x3] := by rw [les]; exact xk
      have hbi := List.getElem?_eq_getElem (l := b) (i := es.length) (by omega)
      have hgv : gvn S.pe es.length = b[es.length]'(by omega) := by
        rw [hb]
        show b.getD es.length (-1) = _
        rw [List.getD_eq_getElem?_getD, hbi]; rfl
      generalize b[es.length]'(by omega) = w at *
      have bk : (rowI b)[(es.length : Int).toNat]? = some [AI w] := zmp (f := cI) hbi
      refine zen Tryz.func144 (by kernel_rfl) rfl Tryz.ntmps144 rfl (by simp) ?_
      repeat (first | (show AWp _ _ _ _ _ _; first | refine a_regR mixed (by decide +kernel) ?_) | refine gN pk ?_ | (show AL _ _ _ _ _ _ _; first | refine jO tok 0 ?_ | refine jO tok 1 ?_ | refine zol tok 1 rfl rfl rfl rfl (by decide) rfl rfl rfl ?_ | refine jL tok (fun ux => ?_) | refine jS tok 0 ?_ | refine jX tok xkk ?_))
      refine zfb 0 7 rfl rfl ?_
      rw [les]
      obtain ⟨f, hf⟩ : ∃ f : Nat → List Mo, (fun k => if candE S ns es k = true then findL S m ns (es ++ [(k : Int)]) else []) = f := ⟨_, rfl⟩
      have hfk := fun k => (congrFun hf k).symm
      rw [hf]
      have h0 : (out ++ (List.range 0).flatMap f).take (most + 1) = out := by rw [List.range_zero, List.flatMap_nil, List.append_nil]; exact List.take_of_length_le (by omega)
      refine a_loopG2 (fun (k : Nat) (vo : Value) => [(0, .pt u 0 0 0), (1, ints ns), (2, ints es), (6, AI es.length), (7, .ip [AI x1, AI x2, AI x3]), (8, AI k)]) (fun k vo => roL 88 t S a b most u vo ((out ++ (List.range k).flatMap f).take (most + 1))) (fun k _ => k ≤ S.g.edges.length) (fun k _ => S.g.edges.length - k) 0 vo (Nat.zero_le _) (.sub (by exact subQ) (by rw [h0]; exact OSub.refl _)) ?_
      clear vo h0
      intro k vo hk
      have hlo : ((out ++ (List.range k).flatMap f).take (most + 1)).length ≤ most + 1 := by rw [List.length_take]; omega
      rcases Nat.lt_or_ge k S.g.edges.length with h2 | h2
      · have hstep := find_loop out f k (most + 1)
        generalize (out ++ (List.range k).flatMap f).take (most + 1) = O at *
        have hy := List.getElem?_eq_getElem h2
        have heq : eqE S ns es.length k = (decide (S.g.edges[k].ty = x1) && (decide (S.g.edges[k].fr = n2) && decide (S.g.edges[k].to = n3))) := by
          unfold eqE
          rw [hxi, hy]
          simp only [List.getD_eq_getElem?_getD, hn2, hn3, Option.getD_some]
        generalize S.g.edges[k] = y at hy heq
        obtain ⟨y1, y2, y3⟩ := y
        simp only at heq
        have yk : (S.g.edges.map cEd)[(k : Int).toNat]? = some [AI y1, AI y2, AI y3] := zmp (f := cEd) hy
        have su := ACalls.lendA (L := roL 88 t S a b most u vo O) (args' := [.pt u 0 0 0, ints es, AI k]) (gused_spec t S a b most (mosA O) es (by omega) k) ⟨ro_fv _ t S a b most u vo O, FV.refl _, FV.refl _, trivial⟩ fd_free
        have hcand : candE S ns es k = ((!offN S.pe es.length k && eqE S ns es.length k) && !(S.inj && decide ((k : Int) ∈ es))) := rfl
        obtain ⟨cb, hcb⟩ : ∃ cb, candE S ns es k = cb := ⟨_, rfl⟩
        have hff := hfk k
        rw [hcb] at hff hcand
        unfold offN at hcand
        rw [hgv, heq] at hcand
        generalize (S.inj && decide ((k : Int) ∈ es)) = us at *
        repeat (first | refine gN pk ?_ | (show AL _ _ _ _ _ _ _; first | refine jO tok 0 ?_ | refine jX tok yk ?_ | refine jL tok (fun ux => ?_) | refine jS tok 0 ?_))
        refine zfb 0 9 rfl rfl ?_
        refine AWp.mono (Q := fun e st L => e = .normal ∧ GoTo 135 st L (lk [(0, .pt u 0 0 0), (1, ints ns), (2, ints es), (6, AI es.length), (7, .ip [AI x1, AI x2, AI x3]), (8, AI k), (125, AB (!cb))]) (roL 88 t S a b most u vo O)) ?_ (fun e st L h' => ?_)
        · refine zrg ((List.range 54).map fun i => if inL [25] i = true then .eff else if inL [4, 6, 7, 14, 16, 17, 29, 31, 36, 39, 40, 41, 46, 49, 50, 51] i = true then .read else .pure) [] [0, 1, 2, 3, 4, 5, 6, 7, 8, 9, 10, 11, 12, 13, 14, 15, 16, 17, 18, 19, 20, 21, 22, 23, 24, 25, 26, 27, 28, 29, 30, 31, 32, 33, 34, 35, 36, 37, 38, 39, 40, 41, 42, 43, 44, 45, 46, 47, 48, 49, 50, 51, 52, 53] .stop mixed rfl rfl (by decide +kernel) ?_
          have hd : (0 ≤ w ∧ w ≠ k) ∨ ¬ 0 ≤ w ∨ (0 ≤ w ∧ w = k) := by omega
          rcases hd with ⟨hw0, hwk⟩ | hw0 | ⟨hw0, hwk⟩
          · have hcf : cb = false := by rw [hcand]; simp [hw0, hwk]
            subst hcf
            repeat' (first | (with_reducible show AG _ _ _ _ _ _ _ _ _ _; first | exact zgn | refine zgs ?_ | refine znd ?_ ?_) | (show AMid _ _ _ _; first | refine zmf ?_ | refine zmg (by first | exact OSub.refl _ | exact .drop (OSub.refl _) | exact .drop (.drop (OSub.refl _))) ?_) | refine gY pk ?_ | (show AL _ _ _ _ _ _ _; first | refine jO tok 0 ?_ | refine jX tok bk ?_) | fail)
            exact ⟨rfl, .sub (by exact subQ) (OSub.refl _)⟩
          all_goals
            have hc2 : cb = ((decide (y1 = x1) && (decide (y2 = n2) && decide (y3 = n3))) && !us) := by rw [hcand]; simp [hw0, *]
            subst hc2
            cases us with
            | true =>
              rw [Bool.not_true, Bool.and_false]
              repeat' (first | (with_reducible show AG _ _ _ _ _ _ _ _ _ _; first | exact zgn | refine zgs ?_ | refine znd ?_ ?_) | (show AMid _ _ _ _; first | refine zmf ?_ | refine zmg (by first | exact OSub.refl _ | exact .drop (OSub.refl _) | exact .drop (.drop (OSub.refl _))) ?_) | refine gY pk ?_ | (show AL _ _ _ _ _ _ _; first | refine jO tok 0 ?_ | refine jX tok bk ?_ | refine zsc (Lc := roL 88 t S a b most u vo O) (Lr := []) rfl rfl rfl rfl rfl su (SubL.of_eq rfl) (List.Perm.refl _) ?_; rintro _ _ ⟨⟨rfl, -⟩, rfl⟩) | fail)
              exact ⟨rfl, .sub (by exact subQ) (OSub.refl _)⟩
            | false =>
              rw [Bool.not_false, Bool.and_true]
              by_cases e1 : y1 = x1
              · by_cases e2 : y2 = n2
                · by_cases e3 : y3 = n3
                  all_goals
                    rw [decide_eq_true e1, decide_eq_true e2]
                    first | rw [decide_eq_true e3] | rw [decide_eq_false e3]
                    repeat' (first | (with_reducible show AG _ _ _ _ _ _ _ _ _ _; first | exact zgn | refine zgs ?_ | refine znd ?_ ?_) | (show AMid _ _ _ _; first | refine zmf ?_ | refine zmg (by first | exact OSub.refl _ | exact .drop (OSub.refl _) | exact .drop (.drop (OSub.refl _))) ?_) | refine gY pk ?_ | (show AL _ _ _ _ _ _ _; first | refine jO tok 0 ?_ | refine jX tok bk ?_ | refine zsc (Lc := roL 88 t S a b most u vo O) (Lr := []) rfl rfl rfl rfl rfl su (SubL.of_eq rfl) (List.Perm.refl _) ?_; rintro _ _ ⟨⟨rfl, -⟩, rfl⟩ | refine jX tok k2 ?_ | refine jX tok k3 ?_) | fail)
                    exact ⟨rfl, .sub (by exact subQ) (OSub.refl _)⟩
                · rw [decide_eq_false e2, Bool.false_and, Bool.and_false]
                  repeat' (first | (with_reducible show AG _ _ _ _ _ _ _ _ _ _; first | exact zgn | refine zgs ?_ | refine znd ?_ ?_) | (show AMid _ _ _ _; first | refine zmf ?_ | refine zmg (by first | exact OSub.refl _ | exact .drop (OSub.refl _) | exact .drop (.drop (OSub.refl _))) ?_) | refine gY pk ?_ | (show AL _ _ _ _ _ _ _; first | refine jO tok 0 ?_ | refine jX tok bk ?_ | refine zsc (Lc := roL 88 t S a b most u vo O) (Lr := []) rfl rfl rfl rfl rfl su (SubL.of_eq rfl) (List.Perm.refl _) ?_; rintro _ _ ⟨⟨rfl, -⟩, rfl⟩ | refine jX tok k2 ?_ | refine jX tok k3 ?_) | fail)
                  exact ⟨rfl, .sub (by exact subQ) (OSub.refl _)⟩
              · rw [decide_eq_false e1, Bool.false_and]
                repeat' (first | (with_reducible show AG _ _ _ _ _ _ _ _ _ _; first | exact zgn | refine zgs ?_ | refine znd ?_ ?_) | (show AMid _ _ _ _; first | refine zmf ?_ | refine zmg (by first | exact OSub.refl _ | exact .drop (OSub.refl _) | exact .drop (.drop (OSub.refl _))) ?_) | refine gY pk ?_ | (show AL _ _ _ _ _ _ _; first | refine jO tok 0 ?_ | refine jX tok bk ?_ | refine zsc (Lc := roL 88 t S a b most u vo O) (Lr := []) rfl rfl rfl rfl rfl su (SubL.of_eq rfl) (List.Perm.refl _) ?_; rintro _ _ ⟨⟨rfl, -⟩, rfl⟩ | refine jX tok k2 ?_ | refine jX tok k3 ?_) | fail)
                exact ⟨rfl, .sub (by exact subQ) (OSub.refl _)⟩
        · obtain ⟨rfl, h'⟩ := h'
          refine zgt h' ?_
          clear h'
          cases cb with
          | false =>
            have hnew : (out ++ (List.range (k + 1)).flatMap f).take (most + 1) = O := by rw [← hstep, hff, if_neg (by decide), List.append_nil, List.take_of_length_le hlo]
            repeat (first | refine gA pk ?_)
            exact ⟨k + 1, vo, by omega, by omega, .sub (by exact subQ) (by rw [hnew]; exact OSub.refl _)⟩
          | true =>
            rw [if_pos rfl] at hff
            have hI : ints (es ++ [(k : Int)]) = .im 1 ([] ++ rowI es ++ [[AI k]]) := by simp [cI]
            have sg : ∀ w2, ACalls Tryz.prog 144 [.pt u 0 0 0, ints ns, .lit w2] ((w2, .row 3 1 ([] ++ rowI es ++ [[AI k]])) :: roL 88 t S a b most u vo O) (fun y M => ∃ vo', y = .tup [] ∧ M = roL 88 t S a b most u vo' ((O ++ findL S m ns (es ++ [(k : Int)])).take (most + 1))) := fun w2 => by
              have h3 := ih (es ++ [(k : Int)]) (by simp; omega) (by simp; omega) u vo O hlo
              rw [hI] at h3
              exact ACalls.give (E := 3) h3 (zfo (FZL.refl _) (zfw (mo_rows' _) trivial)) ⟨FZ.refl _, FZ.refl _, FZ.here, trivial⟩
            repeat (first | refine gA pk ?_ | (show AL _ _ _ _ _ _ _; first | refine s_build tok (parts := []) rfl rfl rfl rfl rfl rfl rfl rfl (by decide) (by decide) (fun v => ?_) | refine s_appendIm tok 0 rfl rfl rfl rfl rfl rfl (by decide) rfl rfl rfl rfl (rowI_cell _) (by simp only [lns, les, List.length_nil]; omega) (by simp only [lns, les, List.length_nil]; omega) (fun w1 => ?_) | refine s_build1 tok rfl rfl rfl rfl rfl rfl rfl rfl (fun lv => ?_) | refine zak tok 0 rfl rfl rfl rfl rfl rfl (by decide) rfl rfl rfl rfl (by simp only [List.nil_append, les]; omega) (by simp only [List.nil_append, les]; omega) (fun w2 hw => ?_) | refine zsc (Lc := (w2, .row 3 1 ([] ++ rowI es ++ [[AI k]])) :: roL 88 t S a b most u vo O) (Lr := []) rfl rfl rfl rfl rfl (sg w2) (SubL.of_eq rfl) (List.Perm.refl _) ?_; rintro _ _ ⟨vo2, rfl, rfl⟩))
            exact ⟨k + 1, vo2, by omega, by omega, .sub (by exact subQ) (by rw [← hstep, hff]; exact OSub.refl _)⟩
      · obtain rfl : k = S.g.edges.length := by omega
        repeat (first | refine gA pk ?_ | (show AL _ _ _ _ _ _ _; first | refine jO tok 0 ?_))
        exact fin (x := .tup []) (.inl rfl) rfl (Sub.refl _) ⟨_, rfl, rfl⟩ (OSub.refl _)
end Go.Proofs.YtimfponihbfimaaGreat
end
section
namespace Go.Proofs.YtimfponihbfimaaGreat
open Go.Sj Go.Sj.Typ Go.Sj.Sta Go.Sj.Inc
set_option maxRecDepth 8000
set_option maxHeartbeats 16000000
theorem gnodes_rec (t : Tys) (ht : Small t) (hv : (validR t).2 = 0) (S : Sea) (hS : SeaT t S) (a b : List Int) (ha : S.pn = some a) (hb : S.pe = some b) (most : Nat) (hmost : most ≤ 10000) : ∀ (m : Nat) (ns : List Int), m = S.p.nodes.length - ns.length → ns.length ≤ S.p.nodes.length → ∀ (u vo : Value) (out : List Mo), out.length ≤ most + 1 →
    ACalls Tryz.prog 96 [.pt u 0 0 0, ints ns] (roL 88 t S a b most u vo out) (fun y M => ∃ vo', y = .tup [] ∧ M = roL 88 t S a b most u vo' ((out ++ findL S (m + S.p.edges.length) ns []).take (most + 1))) := by
  have hgn := hS.g.nl
  have hge := hS.g.el
  have hpn := hS.p.nl
  have hpe := hS.p.el
  have hal := hS.pn a ha
  have htn := ht.nodes
  have hPR : PR t.nodes t.nodes.length := pr_of (validR_zero.1 hv).2.2.2.1
  have lpn : (rowI S.p.nodes).length = S.p.nodes.length := by simp
  have lgn : (rowI S.g.nodes).length = S.g.nodes.length := by simp
  have la : (rowI a).length = a.length := by simp
  intro m
  induction m with
  | zero =>
    intro ns hm hn u vo out ho
    have lns : (rowI ns).length = ns.length := by simp
    have lo : (out.map cMo).length = out.length := by simp
    have sf := ACalls.lendA (L := roL 88 t S a b most u vo out) (args' := [.pt u 0 0 0, ints ns]) (gfits_rec t S hS.toSeaOk a b most (mosA out) ns (by omega)) ⟨ro_fv _ t S a b most u vo out, FV.refl _, trivial⟩ fd_free
    have se := gedges_rec t S hS.toSeaOk a b hb most hmost ns (by omega) S.p.edges.length [] rfl (Nat.zero_le _) u vo out ho
    have hdead : gfitB S ns = false → findL S (0 + S.p.edges.length) ns [] = [] := fun h => gfit_dead hS.p h (by unfold remS; simp; omega) hn rfl
    rw [Nat.zero_add] at hdead ⊢
    rcases Nat.lt_or_ge most out.length with h | h
    · rw [List.take_left' (l₁ := out) (by omega)]
      refine zen Tryz.func96 (by kernel_rfl) rfl Tryz.ntmps96 rfl (by simp) ?_
      repeat (first | refine gN pk ?_)
      refine zrg ((List.range 16).map fun i => if inL [13] i = true then .eff else if inL [3, 4, 8] i = true then .read else .pure) [] [0, 1, 2, 3, 4, 5, 6, 7, 8, 9, 10, 11, 12, 13, 14, 15] .stop mixed rfl rfl (by decide +kernel) ?_
      repeat' (first | (with_reducible show AG _ _ _ _ _ _ _ _ _ _; first | exact zgn | refine zgs ?_ | refine znd ?_ ?_) | (show AMid _ _ _ _; first | refine zmf ?_ | refine zmg (by first | exact OSub.refl _ | exact .drop (OSub.refl _) | exact .drop (.drop (OSub.refl _))) ?_) | refine gY pk ?_ | (show AL _ _ _ _ _ _ _; first | refine jO tok 0 ?_ | refine zol tok 1 rfl rfl rfl rfl (by decide) rfl rfl rfl ?_) | fail)
      repeat (first | refine gA pk ?_)
      exact fin (x := .tup []) (.inr rfl) rfl (Sub.refl _) ⟨_, rfl, rfl⟩ (OSub.refl _)
    · generalize gfitB S ns = gb at *
      cases gb with
      | false =>
        rw [hdead rfl, List.append_nil, List.take_of_length_le (by omega)]
        refine zen Tryz.func96 (by kernel_rfl) rfl Tryz.ntmps96 rfl (by simp) ?_
        repeat (first | refine gN pk ?_)
        refine zrg ((List.range 16).map fun i => if inL [13] i = true then .eff else if inL [3, 4, 8] i = true then .read else .pure) [] [0, 1, 2, 3, 4, 5, 6, 7, 8, 9, 10, 11, 12, 13, 14, 15] .stop mixed rfl rfl (by decide +kernel) ?_
        repeat' (first | (with_reducible show AG _ _ _ _ _ _ _ _ _ _; first | exact zgn | refine zgs ?_ | refine znd ?_ ?_) | (show AMid _ _ _ _; first | refine zmf ?_ | refine zmg (by first | exact OSub.refl _ | exact .drop (OSub.refl _) | exact .drop (.drop (OSub.refl _))) ?_) | refine gY pk ?_ | (show AL _ _ _ _ _ _ _; first | refine jO tok 0 ?_ | refine zol tok 1 rfl rfl rfl rfl (by decide) rfl rfl rfl ?_ | refine zsc (Lc := roL 88 t S a b most u vo out) (Lr := []) rfl rfl rfl rfl rfl sf (SubL.of_eq rfl) (List.Perm.refl _) ?_; rintro _ _ ⟨⟨rfl, -⟩, rfl⟩) | fail)
        repeat (first | refine gA pk ?_)
        exact fin (x := .tup []) (.inr rfl) rfl (Sub.refl _) ⟨_, rfl, rfl⟩ (OSub.refl _)
      | true =>
        refine zen Tryz.func96 (by kernel_rfl) rfl Tryz.ntmps96 rfl (by simp) ?_
        repeat (first | refine gN pk ?_)
        refine zrg ((List.range 16).map fun i => if inL [13] i = true then .eff else if inL [3, 4, 8] i = true then .read else .pure) [] [0, 1, 2, 3, 4, 5, 6, 7, 8, 9, 10, 11, 12, 13, 14, 15] .stop mixed rfl rfl (by decide +kernel) ?_
        repeat' (first | (with_reducible show AG _ _ _ _ _ _ _ _ _ _; first | exact zgn | refine zgs ?_ | refine znd ?_ ?_) | (show AMid _ _ _ _; first | refine zmf ?_ | refine zmg (by first | exact OSub.refl _ | exact .drop (OSub.refl _) | exact .drop (.drop (OSub.refl _))) ?_) | refine gY pk ?_ | (show AL _ _ _ _ _ _ _; first | refine jO tok 0 ?_ | refine zol tok 1 rfl rfl rfl rfl (by decide) rfl rfl rfl ?_ | refine zsc (Lc := roL 88 t S a b most u vo out) (Lr := []) rfl rfl rfl rfl rfl sf (SubL.of_eq rfl) (List.Perm.refl _) ?_; rintro _ _ ⟨⟨rfl, -⟩, rfl⟩) | fail)
        repeat (first | refine gA pk ?_ | (show AL _ _ _ _ _ _ _; first | refine jO tok 0 ?_ | refine zsc (Lc := roL 88 t S a b most u vo out) (Lr := []) rfl rfl rfl rfl rfl se ⟨Sub.refl _, Sub.refl _, Sub.nil 1, trivial⟩ (List.Perm.refl _) ?_; rintro _ _ ⟨vo2, rfl, rfl⟩))
        exact fin (x := .tup []) (.inr rfl) rfl (Sub.refl _) ⟨_, rfl, rfl⟩ (OSub.refl _)
  | succ m ih =>
    intro ns hm hn u vo out ho
    have lns : (rowI ns).length = ns.length := by simp
    have lo : (out.map cMo).length = out.length := by simp
    have hlt : ns.length < S.p.nodes.length := by omega
    have sf := ACalls.lendA (L := roL 88 t S a b most u vo out) (args' := [.pt u 0 0 0, ints ns]) (gfits_rec t S hS.toSeaOk a b most (mosA out) ns (by omega)) ⟨ro_fv _ t S a b most u vo out, FV.refl _, trivial⟩ fd_free
    have hdead : gfitB S ns = false → findL S (m + 1 + S.p.edges.length) ns [] = [] := fun h => gfit_dead hS.p h (by unfold remS; simp; omega) hn rfl
    rw [show m + 1 + S.p.edges.length = m + S.p.edges.length + 1 by omega] at hdead ⊢
    rcases Nat.lt_or_ge most out.length with h | h
    · rw [List.take_left' (l₁ := out) (by omega)]
      refine zen Tryz.func96 (by kernel_rfl) rfl Tryz.ntmps96 rfl (by simp) ?_
      repeat (first | refine gN pk ?_)
      refine zrg ((List.range 16).map fun i => if inL [13] i = true then .eff else if inL [3, 4, 8] i = true then .read else .pure) [] [0, 1, 2, 3, 4, 5, 6, 7, 8, 9, 10, 11, 12, 13, 14, 15] .stop mixed rfl rfl (by decide +kernel) ?_
      repeat' (first | (with_reducible show AG _ _ _ _ _ _ _ _ _ _; first | exact zgn | refine zgs ?_ | refine znd ?_ ?_) | (show AMid _ _ _ _; first | refine zmf ?_ | refine zmg (by first | exact OSub.refl _ | exact .drop (OSub.refl _) | exact .drop (.drop (OSub.refl _))) ?_) | refine gY pk ?_ | (show AL _ _ _ _ _ _ _; first | refine jO tok 0 ?_ | refine zol tok 1 rfl rfl rfl rfl (by decide) rfl rfl rfl ?_) | fail)
      repeat (first | refine gA pk ?_)
      exact fin (x := .tup []) (.inr rfl) rfl (Sub.refl _) ⟨_, rfl, rfl⟩ (OSub.refl _)
    · generalize gfitB S ns = gb at *
      cases gb with
      | false =>
        rw [hdead rfl, List.append_nil, List.take_of_length_le (by omega)]
        refine zen Tryz.func96 (by kernel_rfl) rfl Tryz.ntmps96 rfl (by simp) ?_
        repeat (first | refine gN pk ?_)
        refine zrg ((List.range 16).map fun i => if inL [13] i = true then .eff else if inL [3, 4, 8] i = true then .read else .pure) [] [0, 1, 2, 3, 4, 5, 6, 7, 8, 9, 10, 11, 12, 13, 14, 15] .stop mixed rfl rfl (by decide +kernel) ?_
        repeat' (first | (with_reducible show AG _ _ _ _ _ _ _ _ _ _; first | exact zgn | refine zgs ?_ | refine znd ?_ ?_) | (show AMid _ _ _ _; first | refine zmf ?_ | refine zmg (by first | exact OSub.refl _ | exact .drop (OSub.refl _) | exact .drop (.drop (OSub.refl _))) ?_) | refine gY pk ?_ | (show AL _ _ _ _ _ _ _; first | refine jO tok 0 ?_ | refine zol tok 1 rfl rfl rfl rfl (by decide) rfl rfl rfl ?_ | refine zsc (Lc := roL 88 t S a b most u vo out) (Lr := []) rfl rfl rfl rfl rfl sf (SubL.of_eq rfl) (List.Perm.refl _) ?_; rintro _ _ ⟨⟨rfl, -⟩, rfl⟩) | fail)
        repeat (first | refine gA pk ?_)
        exact fin (x := .tup []) (.inr rfl) rfl (Sub.refl _) ⟨_, rfl, rfl⟩ (OSub.refl _)
      | true =>
        clear hdead
        rw [findL_nodes hlt]
        refine zen Tryz.func96 (by kernel_rfl) rfl Tryz.ntmps96 rfl (by simp) ?_
        repeat (first | refine gN pk ?_)
        refine zrg ((List.range 16).map fun i => if inL [13] i = true then .eff else if inL [3, 4, 8] i = true then .read else .pure) [] [0, 1, 2, 3, 4, 5, 6, 7, 8, 9, 10, 11, 12, 13, 14, 15] .stop mixed rfl rfl (by decide +kernel) ?_
        repeat' (first | (with_reducible show AG _ _ _ _ _ _ _ _ _ _; first | exact zgn | refine zgs ?_ | refine znd ?_ ?_) | (show AMid _ _ _ _; first | refine zmf ?_ | refine zmg (by first | exact OSub.refl _ | exact .drop (OSub.refl _) | exact .drop (.drop (OSub.refl _))) ?_) | refine gY pk ?_ | (show AL _ _ _ _ _ _ _; first | refine jO tok 0 ?_ | refine zol tok 1 rfl rfl rfl rfl (by decide) rfl rfl rfl ?_ | refine zsc (Lc := roL 88 t S a b most u vo out) (Lr := []) rfl rfl rfl rfl rfl sf (SubL.of_eq rfl) (List.Perm.refl _) ?_; rintro _ _ ⟨⟨rfl, -⟩, rfl⟩) | fail)
        repeat (first | refine gA pk ?_ | (show AL _ _ _ _ _ _ _; first | refine jO tok 0 ?_))
        rw [lns]
        obtain ⟨f, hf⟩ : ∃ f : Nat → List Mo, (fun k => if candN S ns k = true then findL S (m + S.p.edges.length) (ns ++ [(k : Int)]) [] else []) = f := ⟨_, rfl⟩
        have hfk := fun k => (congrFun hf k).symm
        rw [hf]
        have h0 : (out ++ (List.range 0).flatMap f).take (most + 1) = out := by rw [List.range_zero, List.flatMap_nil, List.append_nil]; exact List.take_of_length_le (by omega)
        refine a_loopG2 (fun (k : Nat) (vo : Value) => [(0, .pt u 0 0 0), (1, ints ns), (4, AI ns.length), (5, AI k)]) (fun k vo => roL 88 t S a b most u vo ((out ++ (List.range k).flatMap f).take (most + 1))) (fun k _ => k ≤ S.g.nodes.length) (fun k _ => S.g.nodes.length - k) 0 vo (Nat.zero_le _) (.sub (by exact subQ) (by rw [h0]; exact OSub.refl _)) ?_
        clear vo h0 sf
        intro k vo hk
        have hlo : ((out ++ (List.range k).flatMap f).take (most + 1)).length ≤ most + 1 := by rw [List.length_take]; omega
        rcases Nat.lt_or_ge k S.g.nodes.length with h2 | h2
        · have hstep := find_loop out f k (most + 1)
          generalize (out ++ (List.range k).flatMap f).take (most + 1) = O at *
          have hx := List.getElem?_eq_getElem h2
          have hz := List.getElem?_eq_getElem hlt
          have hyr := hS.tg _ (List.getElem_mem h2)
          have hzr := hS.tp _ (List.getElem_mem hlt)
          have hai := List.getElem?_eq_getElem (l := a) (i := ns.length) (by omega)
          have hgv : gvn S.pn ns.length = a[ns.length]'(by omega) := by
            rw [ha]
            show a.getD ns.length (-1) = _
            rw [List.getD_eq_getElem?_getD, hai]; rfl
          generalize a[ns.length]'(by omega) = w at *
          generalize S.g.nodes[k] = y at *
          generalize S.p.nodes[ns.length] = z at *
          have ak : (rowI a)[(ns.length : Int).toNat]? = some [AI w] := zmp (f := cI) hai
          have xk : (rowI S.g.nodes)[(k : Int).toNat]? = some [AI y] := zmp (f := cI) hx
          have zk : (rowI S.p.nodes)[(ns.length : Int).toNat]? = some [AI z] := zmp (f := cI) hz
          have su := ACalls.lendA (L := roL 88 t S a b most u vo O) (args' := [.pt u 0 0 0, ints ns, AI k]) (gused_spec t S a b most (mosA O) ns (by omega) k) ⟨ro_fv _ t S a b most u vo O, FV.refl _, FV.refl _, trivial⟩ fd_free
          have sb := Below1_spec t t.nodes.length (Nat.le_refl _) hPR z hzr.1 (y + 1).toNat y (by omega) (by omega) hyr.2
          have hcand : candN S ns k = (!offN S.pn ns.length k && (okT t z y && !(S.inj && decide ((k : Int) ∈ ns)))) := by
            unfold candN
            rw [hS.ok, List.getD_eq_getElem?_getD, List.getD_eq_getElem?_getD, hz, hx]; rfl
          obtain ⟨cb, hcb⟩ : ∃ cb, candN S ns k = cb := ⟨_, rfl⟩
          have hff := hfk k
          rw [hcb] at hff hcand
          unfold offN okT at hcand
          rw [hgv] at hcand
          generalize (S.inj && decide ((k : Int) ∈ ns)) = us at *
          generalize decide (z ∈ up t.nodes y) = okb at *
          repeat (first | refine gN pk ?_ | (show AL _ _ _ _ _ _ _; first | refine jO tok 0 ?_))
          refine AWp.mono (Q := fun e st L => e = .normal ∧ GoTo 104 st L (lk [(0, .pt u 0 0 0), (1, ints ns), (4, AI ns.length), (5, AI k), (95, AB (!cb))]) (roL 88 t S a b most u vo O)) ?_ (fun e st L h' => ?_)
          · refine zrg ((List.range 51).map fun i => if inL [25, 48] i = true then .eff else if inL [4, 6, 7, 14, 16, 17, 31, 36, 38, 39, 44, 46, 47] i = true then .read else .pure) [] [0, 1, 2, 3, 4, 5, 6, 7, 8, 9, 10, 11, 12, 13, 14, 15, 16, 17, 18, 19, 20, 21, 22, 23, 24, 25, 26, 27, 28, 29, 30, 31, 32, 33, 34, 35, 36, 37, 38, 39, 40, 41, 42, 43, 44, 45, 46, 47, 48, 49, 50] .stop mixed rfl rfl (by decide +kernel) ?_
            have hd : (0 ≤ w ∧ w ≠ k) ∨ ¬ 0 ≤ w ∨ (0 ≤ w ∧ w = k) := by omega
            rcases hd with ⟨hw0, hwk⟩ | hw0 | ⟨hw0, hwk⟩
            · have hcf : cb = false := by rw [hcand]; simp [hw0, hwk]
              subst hcf
              repeat' (first | (with_reducible show AG _ _ _ _ _ _ _ _ _ _; first | exact zgn | refine zgs ?_ | refine znd ?_ ?_) | (show AMid _ _ _ _; first | refine zmf ?_ | refine zmg (by first | exact OSub.refl _ | exact .drop (OSub.refl _) | exact .drop (.drop (OSub.refl _))) ?_) | refine gY pk ?_ | (show AL _ _ _ _ _ _ _; first | refine jO tok 0 ?_ | refine jX tok ak ?_) | fail)
              exact ⟨rfl, .sub (by exact subQ) (OSub.refl _)⟩
            all_goals
              have hc2 : cb = (okb && !us) := by rw [hcand]; simp [hw0, *]
              subst hc2
              cases us with
              | true =>
                rw [Bool.not_true, Bool.and_false]
                repeat' (first | (with_reducible show AG _ _ _ _ _ _ _ _ _ _; first | exact zgn | refine zgs ?_ | refine znd ?_ ?_) | (show AMid _ _ _ _; first | refine zmf ?_ | refine zmg (by first | exact OSub.refl _ | exact .drop (OSub.refl _) | exact .drop (.drop (OSub.refl _))) ?_) | refine gY pk ?_ | (show AL _ _ _ _ _ _ _; first | refine jO tok 0 ?_ | refine jX tok ak ?_ | refine zsc (Lc := roL 88 t S a b most u vo O) (Lr := []) rfl rfl rfl rfl rfl su (SubL.of_eq rfl) (List.Perm.refl _) ?_; rintro _ _ ⟨⟨rfl, -⟩, rfl⟩) | fail)
                exact ⟨rfl, .sub (by exact subQ) (OSub.refl _)⟩
              | false =>
                rw [Bool.not_false, Bool.and_true]
                cases okb
                all_goals
                  repeat' (first | (with_reducible show AG _ _ _ _ _ _ _ _ _ _; first | exact zgn | refine zgs ?_ | refine znd ?_ ?_) | (show AMid _ _ _ _; first | refine zmf ?_ | refine zmg (by first | exact OSub.refl _ | exact .drop (OSub.refl _) | exact .drop (.drop (OSub.refl _))) ?_) | refine gY pk ?_ | (show AL _ _ _ _ _ _ _; first | refine jO tok 0 ?_ | refine jX tok ak ?_ | refine zsc (Lc := roL 88 t S a b most u vo O) (Lr := []) rfl rfl rfl rfl rfl su (SubL.of_eq rfl) (List.Perm.refl _) ?_; rintro _ _ ⟨⟨rfl, -⟩, rfl⟩ | refine jX tok xk ?_ | refine jX tok zk ?_ | refine jP sb ?_) | fail)
                  exact ⟨rfl, .sub (by exact subQ) (OSub.refl _)⟩
          · obtain ⟨rfl, h'⟩ := h'
            refine zgt h' ?_
            clear h'
            cases cb with
            | false =>
              have hnew : (out ++ (List.range (k + 1)).flatMap f).take (most + 1) = O := by rw [← hstep, hff, if_neg (by decide), List.append_nil, List.take_of_length_le hlo]
              repeat (first | refine gA pk ?_)
              exact ⟨k + 1, vo, by omega, by omega, .sub (by exact subQ) (by rw [hnew]; exact OSub.refl _)⟩
            | true =>
              rw [if_pos rfl] at hff
              have hI : ints (ns ++ [(k : Int)]) = .im 1 ([] ++ rowI ns ++ [[AI k]]) := by simp [cI]
              have sg : ∀ w2, ACalls Tryz.prog 96 [.pt u 0 0 0, .lit w2] ((w2, .row 3 1 ([] ++ rowI ns ++ [[AI k]])) :: roL 88 t S a b most u vo O) (fun y M => ∃ vo', y = .tup [] ∧ M = roL 88 t S a b most u vo' ((O ++ findL S (m + S.p.edges.length) (ns ++ [(k : Int)]) []).take (most + 1))) := fun w2 => by
                have h3 := ih (ns ++ [(k : Int)]) (by simp; omega) (by simp; omega) u vo O hlo
                rw [hI] at h3
                exact ACalls.give (E := 3) h3 (zfo (FZL.refl _) (zfw (mo_rows' _) trivial)) ⟨FZ.refl _, FZ.here, trivial⟩
              repeat (first | refine gA pk ?_ | (show AL _ _ _ _ _ _ _; first | refine s_build tok (parts := []) rfl rfl rfl rfl rfl rfl rfl rfl (by decide) (by decide) (fun v => ?_) | refine s_appendIm tok 0 rfl rfl rfl rfl rfl rfl (by decide) rfl rfl rfl rfl (rowI_cell _) (by simp only [lns, List.length_nil]; omega) (by simp only [lns, List.length_nil]; omega) (fun w1 => ?_) | refine s_build1 tok rfl rfl rfl rfl rfl rfl rfl rfl (fun lv => ?_) | refine zak tok 0 rfl rfl rfl rfl rfl rfl (by decide) rfl rfl rfl rfl (by simp only [List.nil_append, lns]; omega) (by simp only [List.nil_append, lns]; omega) (fun w2 hw => ?_) | refine zsc (Lc := (w2, .row 3 1 ([] ++ rowI ns ++ [[AI k]])) :: roL 88 t S a b most u vo O) (Lr := []) rfl rfl rfl rfl rfl (sg w2) (SubL.of_eq rfl) (List.Perm.refl _) ?_; rintro _ _ ⟨vo2, rfl, rfl⟩))
              exact ⟨k + 1, vo2, by omega, by omega, .sub (by exact subQ) (by rw [← hstep, hff]; exact OSub.refl _)⟩
        · obtain rfl : k = S.g.nodes.length := by omega
          repeat (first | refine gA pk ?_ | (show AL _ _ _ _ _ _ _; first | refine jO tok 0 ?_))
          exact fin (x := .tup []) (.inl rfl) rfl (Sub.refl _) ⟨_, rfl, rfl⟩ (OSub.refl _)
end Go.Proofs.YtimfponihbfimaaGreat
end
section
namespace Go.Proofs.YtimfponihbfimaaGreat
open Go.Sj Go.Sj.Typ Go.Sj.Sta Go.Sj.Inc
set_option maxRecDepth 8000
set_option maxHeartbeats 16000000
def iniN (n i : Nat) : List Int := List.replicate i (-1) ++ List.replicate (n - i) 0
theorem iniN_len {n i : Nat} (h : i ≤ n) : (iniN n i).length = n := by unfold iniN; simp; omega
theorem iniN_set {n i : Nat} (h : i < n) : (iniN n i).set i (-1) = iniN n (i + 1) := by
  unfold iniN
  obtain ⟨d, hd⟩ : ∃ d, n - i = d + 1 := ⟨n - i - 1, by omega⟩
  rw [hd, show n - (i + 1) = d by omega, List.replicate_succ, List.set_append_right _ _ (by simp)]
  simp [List.replicate_succ']
theorem iniN_full (n : Nat) : iniN n n = noneL n := by unfold iniN noneL; simp
theorem gopen_spec (p : Gr) (hp : GV p) : Pure Tryz.prog 59 [grA p] (.agg [ints (noneL p.nodes.length), ints (noneL p.edges.length)]) := by
  have hnl := hp.nl
  have hel := hp.el
  have ln : (rowI p.nodes).length = p.nodes.length := by simp
  have le : (p.edges.map cEd).length = p.edges.length := by simp
  have z1 : List.replicate (((rowI p.nodes).length : Int)).toNat (List.map AV.lit [Value.int IntKind.i64 0]) = rowI (iniN p.nodes.length 0) := by unfold iniN; simp [cI]
  have z2 : List.replicate (((p.edges.map cEd).length : Int)).toNat (List.map AV.lit [Value.int IntKind.i64 0]) = rowI (iniN p.edges.length 0) := by unfold iniN; simp [cI]
  refine a_enterC Tryz.func59 (by kernel_rfl) rfl Tryz.ntmps59 rfl (tok _ _ rfl) (by simp) ?_
  refine a_seq ?_
  refine a_reg ?_
  repeat (first | refine gZ pk ?_ | (show AL _ _ _ _ _ _ _; first | refine jB (fun up => ?_) | refine jL tok (fun U2 => ?_)))
  refine zfb 1 1 rfl rfl ?_
  refine AWp.mono (Q := fun e st L => e = .normal ∧ ∃ mn me bm U2, GoTo 38 st L (lk [(1, grP p), (2, .pt U2 0 0 0), (3, .pt bm 0 0 0)]) [(mn, OB.row 3 1 (rowI (iniN p.nodes.length 0))), (me, OB.row 3 1 (rowI (iniN p.edges.length 0))), (bm, OB.box [.lit mn, .lit me]), (U2, OB.box [nilS, nilS])]) ?_ (fun e st L h => ?_)
  · refine zrg ((List.range 11).map fun i => if inL [3, 7, 9, 10] i = true then .eff else .pure) [] [0, 1, 2, 4, 5, 6] (.nd 3 [] (.nd 7 [8, 9, 10] .stop (.nd 9 [7, 8, 10] .stop .stop)) (.nd 7 [] (.nd 3 [8, 9, 10] .stop (.nd 9 [3, 8, 10] .stop .stop)) (.nd 9 [] (.nd 3 [7, 8, 10] .stop (.nd 7 [3, 8, 10] .stop .stop)) .stop))) mixed rfl rfl (by decide +kernel) ?_
    repeat' (first | (with_reducible show AG _ _ _ _ _ _ _ _ _ _; first | exact zgn | refine zgs ?_ | refine znd ?_ ?_) | (show AMid _ _ _ _; first | refine zmf ?_ | refine zmg (by first | exact OSub.refl _ | exact .drop (OSub.refl _) | exact .drop (.drop (OSub.refl _))) ?_) | refine gY pk ?_ | (show AL _ _ _ _ _ _ _; first | refine s_makeQ tok rfl rfl rfl rfl rfl rfl rfl rfl z1 (by omega) (by omega) (by simp; omega) (by omega) (fun a m j => ?_) | refine s_makeQ tok rfl rfl rfl rfl rfl rfl rfl rfl z2 (by omega) (by omega) (by simp; omega) (by omega) (fun a m j => ?_) | refine jL tok (fun bm => ?_) | refine jS tok 0 ?_ | refine jS tok 1 ?_ | refine jS tok 2 ?_) | fail)
    all_goals
      first | exact ⟨rfl, _, _, _, _, (GoTo.sub (by exact subQ) (OSub.refl _)).trans (GoTo.perm (List.Perm.refl _))⟩ | exact ⟨rfl, _, _, _, _, (GoTo.sub (by exact subQ) (OSub.refl _)).trans (GoTo.perm (List.Perm.append_right [_] (perm3 _ _ _).1))⟩ | exact ⟨rfl, _, _, _, _, (GoTo.sub (by exact subQ) (OSub.refl _)).trans (GoTo.perm (List.Perm.append_right [_] (perm3 _ _ _).2.1))⟩ | exact ⟨rfl, _, _, _, _, (GoTo.sub (by exact subQ) (OSub.refl _)).trans (GoTo.perm (List.Perm.append_right [_] (perm3 _ _ _).2.2.1))⟩ | exact ⟨rfl, _, _, _, _, (GoTo.sub (by exact subQ) (OSub.refl _)).trans (GoTo.perm (List.Perm.append_right [_] (perm3 _ _ _).2.2.2.1))⟩ | exact ⟨rfl, _, _, _, _, (GoTo.sub (by exact subQ) (OSub.refl _)).trans (GoTo.perm (List.Perm.append_right [_] (perm3 _ _ _).2.2.2.2.1))⟩
  · obtain ⟨rfl, mn, me, bm, U2, h⟩ := h
    refine zgt h ?_
    clear h
    repeat (first | refine gA pk ?_)
    refine zlx (fun i : Nat => [(1, grP p), (2, .pt U2 0 0 0), (3, .pt bm 0 0 0), (4, AI i)]) (fun i => [(mn, OB.row 3 1 (rowI (iniN p.nodes.length i))), (me, OB.row 3 1 (rowI (iniN p.edges.length 0))), (bm, OB.box [.lit mn, .lit me]), (U2, OB.box [nilS, nilS])]) (fun i => i ≤ p.nodes.length) (fun i => p.nodes.length - i) 0 (Nat.zero_le _) ?_ (OSub.refl _) ?_
    · exact subQ
    · intro i hi
      have li := iniN_len hi
      have li' : (rowI (iniN p.nodes.length i)).length = p.nodes.length := by rw [List.length_map, li]
      rcases Nat.lt_or_ge i p.nodes.length with h | h
      · have hset := iniN_set h
        repeat (first | refine gA pk ?_ | (show AL _ _ _ _ _ _ _; first | refine jO tok 2 ?_ | refine zol tok 0 rfl rfl rfl rfl (by decide) rfl rfl rfl ?_ | refine zoi tok 0 rfl rfl rfl rfl (by decide) rfl rfl rfl rfl rfl rfl (by omega) (by omega) ?_ | refine s_storeI tok 0 rfl rfl rfl rfl rfl rfl rfl rfl (by omega) ?_))
        exact ⟨i + 1, by omega, by omega, by exact subQ, by rw [← hset]; exact OSub.refl _⟩
      · obtain rfl : i = p.nodes.length := by omega
        rw [iniN_full] at li li' ⊢
        repeat (first | refine gA pk ?_ | (show AL _ _ _ _ _ _ _; first | refine jO tok 2 ?_ | refine zol tok 0 rfl rfl rfl rfl (by decide) rfl rfl rfl ?_))
        refine zlx (fun i : Nat => [(2, .pt U2 0 0 0), (3, .pt bm 0 0 0), (5, AI i)]) (fun i => [(mn, OB.row 3 1 (rowI (noneL p.nodes.length))), (me, OB.row 3 1 (rowI (iniN p.edges.length i))), (bm, OB.box [.lit mn, .lit me]), (U2, OB.box [nilS, nilS])]) (fun i => i ≤ p.edges.length) (fun i => p.edges.length - i) 0 (Nat.zero_le _) ?_ (OSub.refl _) ?_
        · exact subQ
        · intro j hj
          have lj := iniN_len hj
          have lj' : (rowI (iniN p.edges.length j)).length = p.edges.length := by rw [List.length_map, lj]
          rcases Nat.lt_or_ge j p.edges.length with h3 | h3
          · have hset := iniN_set h3
            repeat (first | refine gA pk ?_ | (show AL _ _ _ _ _ _ _; first | refine jO tok 2 ?_ | refine zol tok 1 rfl rfl rfl rfl (by decide) rfl rfl rfl ?_ | refine zoi tok 1 rfl rfl rfl rfl (by decide) rfl rfl rfl rfl rfl rfl (by omega) (by omega) ?_ | refine s_storeI tok 1 rfl rfl rfl rfl rfl rfl rfl rfl (by omega) ?_))
            exact ⟨j + 1, by omega, by omega, by exact subQ, by rw [← hset]; exact OSub.refl _⟩
          · obtain rfl : j = p.edges.length := by omega
            rw [iniN_full] at lj lj' ⊢
            have hr1 : ∀ (l : List Int), ∀ x ∈ rowI l, x.length = 1 := fun l x hx => by
              obtain ⟨y, _, rfl⟩ := List.mem_map.1 hx
              rfl
            refine zgt (GoTo.freeze 0 rfl (FZS.refl _) [(me, OB.row 3 1 (rowI (noneL p.edges.length))), (bm, OB.box [ints (noneL p.nodes.length), .lit me]), (U2, OB.box [nilS, nilS])] (zfw (hr1 _) (zfo ⟨FZ.here, FZ.refl _, trivial⟩ (zfo (FZL.refl _) trivial)))) ?_
            refine zgt (GoTo.freeze 0 rfl (FZS.refl _) [(bm, OB.box [ints (noneL p.nodes.length), ints (noneL p.edges.length)]), (U2, OB.box [nilS, nilS])] (zfo ⟨FZ.refl _, FZ.here, trivial⟩ (zfo (FZL.refl _) trivial))) ?_
            refine zfb 0 3 rfl rfl ?_
            repeat (first | refine gV pk ?_ | (show AL _ _ _ _ _ _ _; first | refine jS tok 0 ?_))
            refine zfb 0 2 rfl rfl ?_
            refine a_ret ?_
            exact ⟨.inr rfl, _, _, _, _, rfl, rfl, Turn.of (Sub.of_eq rfl) (OSub.none _), rfl, rfl⟩
theorem grun_spec (t : Tys) (ht : Small t) (hv : (validR t).2 = 0) (S : Sea) (hS : SeaT t S) (a b : List Int) (ha : S.pn = some a) (hb : S.pe = some b) (most : Nat) (hmost : most ≤ 10000) :
    Pure Tryz.prog 58 [tysA t, grA S.p, grA S.g, .agg [ints a, ints b], AB S.inj, AI most] (mosA ((matL S).take (most + 1))) := by
  have s2 := fun u => gnodes_rec t ht hv S hS a b ha hb most hmost S.p.nodes.length [] rfl (Nat.zero_le _) u (.slice none 0 0) [] (Nat.zero_le _)
  simp only [List.nil_append] at s2
  refine zen Tryz.func58 (by kernel_rfl) rfl Tryz.ntmps58 rfl (by simp) ?_
  refine a_seq ?_
  refine a_reg ?_
  repeat (first | refine gZ pk ?_ | (show AL _ _ _ _ _ _ _; first | refine jB (fun u => ?_)))
  refine zfb 3 6 rfl rfl ?_
  refine zfb 2 7 rfl rfl ?_
  refine zfb 1 8 rfl rfl ?_
  refine zfb 0 9 rfl rfl ?_
  refine a_reg ?_
  repeat (first | refine gZ pk ?_ | (show AL _ _ _ _ _ _ _; first | refine jB (fun ur => ?_)))
  rename_i ur
  refine zgt (GoTo.sub (st' := _) (fun i => Sub.refl _) (L' := roL 88 t S a b most ur (.slice none 0 0) []) (.keep (.free (OSub.none _)))) ?_
  refine a_reg ?_
  repeat (first | refine gZ pk ?_ | (show AL _ _ _ _ _ _ _; first | refine zsc (Lc := roL 88 t S a b most ur (.slice none 0 0) []) (Lr := []) rfl rfl rfl rfl rfl (s2 ur) ⟨Sub.refl _, Sub.nil 1, trivial⟩ (List.Perm.refl _) ?_; rintro _ _ ⟨vo, rfl, rfl⟩))
  refine zgt (GoTo.freeze 1 rfl (FZS.refl _) [(ur, OB.box (rsA t S a b most (mosA ((findL S (S.p.nodes.length + S.p.edges.length) [] []).take (most + 1)))))] (zfo ⟨FZ.refl _, FZ.refl _, FZ.refl _, FZ.refl _, FZ.refl _, FZ.refl _, FZ.refl _, FZ.refl _, FZ.refl _, FZ.refl _, FZ.here, trivial⟩ trivial)) ?_
  repeat (first | refine gA pk ?_ | (show AL _ _ _ _ _ _ _; first | refine jO tok 0 ?_))
  refine finQ ?_
  exact ⟨rfl, rfl⟩
theorem seaO_ok {t : Tys} {p g : Gr} (inj : Bool) (h : validS t p g = 0) : SeaT t (seaO t p g inj) := by
  obtain ⟨h1, h2, h3, h4, h5⟩ := zvz h
  exact ⟨⟨h2, h3, fun l hl => (by cases hl; unfold noneL; simp [seaO]), fun l hl => (by cases hl; unfold noneL; simp [seaO])⟩, rfl, typT_of h2 h4, typT_of h3 h5⟩
theorem gAll_spec (t : Tys) (ht : Small t) (p g : Gr) (hp : OkG p) (hg : OkG g) (inj : Bool) :
    Pure Tryz.prog 20 [tysA t, grA p, grA g, AB inj] (.tup [mosA (allR t p g inj).1, AI (allR t p g inj).2]) := by
  have s1 := ggiven_spec t ht p g hp hg
  unfold allR
  by_cases h : validS t p g = 0
  · rw [if_neg (Decidable.not_not.2 h)]
    have hz := zvz h
    have s2 := gopen_spec p hz.2.1
    have s3 := grun_spec t ht hz.1 (seaO t p g inj) (seaO_ok inj h) (noneL p.nodes.length) (noneL p.edges.length) rfl rfl 5000 (by omega)
    rw [h] at s1
    rw [mat_open] at s3
    change Pure _ _ [tysA t, grA p, grA g, .agg [ints (noneL p.nodes.length), ints (noneL p.edges.length)], AB inj, AI 5000] _ at s3
    have hl : ((matL (seaA t p g inj)).take 5001).length = min 5001 (matL (seaA t p g inj)).length := List.length_take
    unfold capR
    by_cases hc : 5000 < (matL (seaA t p g inj)).length
    · rw [if_pos hc]
      have ll : (((matL (seaA t p g inj)).take 5001).map cMo).length = 5001 := by rw [List.length_map, hl]; omega
      change Pure _ _ _ (mosA ((matL (seaA t p g inj)).take 5001)) at s3
      generalize (matL (seaA t p g inj)).take 5001 = l at *
      refine zen Tryz.func20 (by kernel_rfl) rfl Tryz.ntmps20 rfl (by simp) ?_
      refine a_seq ?_
      refine a_reg ?_
      repeat (first | refine gZ pk ?_ | (show AL _ _ _ _ _ _ _; first | refine jB (fun u => ?_)))
      refine zfb 2 4 rfl rfl ?_
      refine zfb 1 5 rfl rfl ?_
      refine zfb 0 6 rfl rfl ?_
      repeat (first | refine gA pk ?_ | (show AL _ _ _ _ _ _ _; first | refine jP s1 ?_))
      refine a_regO [0, 1, 2, 3, 5, 4, 6, 7] mixed rfl rfl (by decide +kernel) ?_
      repeat (first | refine gA pk ?_ | (show AL _ _ _ _ _ _ _; first | refine jP s2 ?_ | refine jP s3 ?_))
      refine fin (x := .tup [nilS, AI 3]) (.inr rfl) rfl (Sub.tup (m := [mosA [], AI 3]) ⟨Sub.nil 2, Sub.refl _, trivial⟩) ?_ (OSub.none _)
      exact ⟨rfl, rfl⟩
    · rw [if_neg hc]
      change Pure _ _ _ (mosA ((matL (seaA t p g inj)).take 5001)) at s3
      rw [List.take_of_length_le (by omega)] at s3
      have ll : ((matL (seaA t p g inj)).map cMo).length = (matL (seaA t p g inj)).length := by simp
      generalize matL (seaA t p g inj) = l at *
      refine zen Tryz.func20 (by kernel_rfl) rfl Tryz.ntmps20 rfl (by simp) ?_
      refine a_seq ?_
      refine a_reg ?_
      repeat (first | refine gZ pk ?_ | (show AL _ _ _ _ _ _ _; first | refine jB (fun u => ?_)))
      refine zfb 2 4 rfl rfl ?_
      refine zfb 1 5 rfl rfl ?_
      refine zfb 0 6 rfl rfl ?_
      repeat (first | refine gA pk ?_ | (show AL _ _ _ _ _ _ _; first | refine jP s1 ?_))
      refine a_regO [0, 1, 2, 3, 5, 4, 6, 7] mixed rfl rfl (by decide +kernel) ?_
      repeat (first | refine gA pk ?_ | (show AL _ _ _ _ _ _ _; first | refine jP s2 ?_ | refine jP s3 ?_))
      refine finQ ?_
      exact ⟨rfl, rfl⟩
  · rw [if_pos h]
    generalize validS t p g = e at *
    refine zen Tryz.func20 (by kernel_rfl) rfl Tryz.ntmps20 rfl (by simp) ?_
    refine a_seq ?_
    refine a_reg ?_
    repeat (first | refine gZ pk ?_ | (show AL _ _ _ _ _ _ _; first | refine jB (fun u => ?_)))
    refine zfb 2 4 rfl rfl ?_
    refine zfb 1 5 rfl rfl ?_
    refine zfb 0 6 rfl rfl ?_
    repeat (first | refine gA pk ?_ | (show AL _ _ _ _ _ _ _; first | refine jP s1 ?_))
    refine fin (x := .tup [nilS, AI e]) (.inr rfl) rfl (Sub.tup (m := [mosA [], AI e]) ⟨Sub.nil 2, Sub.refl _, trivial⟩) ?_ (OSub.none _)
    exact ⟨rfl, rfl⟩
end Go.Proofs.YtimfponihbfimaaGreat
end
section
namespace Go.Proofs.YtimfponihbfimaaGreat
open Go.Sj Go.Sj.Typ Go.Sj.Sta Go.Sj.Inc
set_option maxRecDepth 8000
set_option maxHeartbeats 16000000
theorem take_eqI {α : Type} {xs ys : List α} {k : Nat} {a b : α} (h1 : xs[k]? = some a) (h2 : ys[k]? = some b) (he : xs.take k = ys.take k) (hab : a = b) : xs.take (k + 1) = ys.take (k + 1) := by
  rw [List.take_add_one, List.take_add_one, h1, h2, he, hab]
theorem gSameInts_spec (xs ys : List Int) (hx : xs.length ≤ 1000000) (hy : ys.length ≤ 1000000) : Pure Tryz.prog 54 [ints xs, ints ys] (AB (decide (xs = ys))) := by
  have lx : (rowI xs).length = xs.length := by simp
  have ly : (rowI ys).length = ys.length := by simp
  by_cases hl : xs.length = ys.length
  · refine zen Tryz.func54 (by kernel_rfl) rfl Tryz.ntmps54 rfl (by simp) ?_
    repeat (first | refine gA pk ?_)
    refine zlx (fun k : Nat => [(0, ints xs), (1, ints ys), (5, AI k)]) (fun _ => []) (fun k => k ≤ xs.length ∧ xs.take k = ys.take k) (fun k => xs.length - k) 0 ⟨Nat.zero_le _, rfl⟩ ?_ (OSub.refl _) ?_
    · exact subQ
    · rintro k ⟨hk, he⟩
      rcases Nat.lt_or_ge k xs.length with h | h
      · have h1 := List.getElem?_eq_getElem h
        have h2 := List.getElem?_eq_getElem (l := ys) (i := k) (by omega)
        generalize xs[k] = a at h1
        generalize ys[k]'(by omega) = b at h2
        have x1 : (rowI xs)[(k : Int).toNat]? = some [AI a] := zmp (f := cI) h1
        have x2 : (rowI ys)[(k : Int).toNat]? = some [AI b] := zmp (f := cI) h2
        by_cases hab : a = b
        · have ht := take_eqI h1 h2 he hab
          repeat (first | refine gA pk ?_ | (show AL _ _ _ _ _ _ _; first | refine jX tok x1 ?_ | refine jX tok x2 ?_))
          exact ⟨k + 1, ⟨by omega, ht⟩, by omega, by exact subQ, OSub.refl _⟩
        · have hne : xs ≠ ys := fun e => by rw [e, h2] at h1; cases h1; exact hab rfl
          rw [decide_eq_false hne]
          repeat (first | refine gA pk ?_ | (show AL _ _ _ _ _ _ _; first | refine jX tok x1 ?_ | refine jX tok x2 ?_))
          refine finQ ?_
          exact ⟨rfl, rfl⟩
      · have : xs = ys := by
          have e1 : xs.take k = xs := List.take_of_length_le (by omega)
          have e2 : ys.take k = ys := List.take_of_length_le (by omega)
          rw [← e1, ← e2, he]
        rw [decide_eq_true this]
        repeat (first | refine gA pk ?_)
        refine finQ ?_
        exact ⟨rfl, rfl⟩
  · rw [decide_eq_false (fun e => hl (by rw [e]))]
    refine zen Tryz.func54 (by kernel_rfl) rfl Tryz.ntmps54 rfl (by simp) ?_
    repeat (first | refine gA pk ?_)
    refine finQ ?_
    exact ⟨rfl, rfl⟩
end Go.Proofs.YtimfponihbfimaaGreat
end
