/- Parts of a proof. -/
import Derived.WalkKit
import Derived.WalkSpells
import Derived.WalkLawsBesides
import Derived.Deep.Draws
import Derived.Orders
import Derived.Still
import Derived.Laws.Cover3
import Derived.ProofKit
import Derived.WideKeyArgs
import Derived.OpenShut
import Derived.SizedLaws
import Derived.Laws.Externs
import Derived.Laws.Runes
import Derived.Handy
import Derived.Lib.AppendZerosOnto
import Derived.Lib.Overlaps
import Derived.Sort.AssemblyPlain
import Derived.Test.YtimfponihbfimaaGreatProg
import Derived.Laws.Bits64
import Derived.Laws.Bits64b
import Derived.Test.YtimfponihbfimaaGreatP01
import Derived.Test.YtimfponihbfimaaGreatP02
import Derived.Test.YtimfponihbfimaaGreatP03
import Derived.Test.YtimfponihbfimaaGreatP04
import Derived.Test.YtimfponihbfimaaGreatP05
import Derived.Test.YtimfponihbfimaaGreatP06
import Derived.Test.YtimfponihbfimaaGreatP07
import Derived.Test.YtimfponihbfimaaGreatP08
import Derived.Test.YtimfponihbfimaaGreatP09
import Derived.Test.YtimfponihbfimaaGreatP10
import Derived.Test.YtimfponihbfimaaGreatP11
import Derived.Test.YtimfponihbfimaaGreatP12
import Derived.Test.YtimfponihbfimaaGreatP13
import Derived.Test.YtimfponihbfimaaGreatP14
import Derived.Test.YtimfponihbfimaaGreatP15
import Derived.Test.YtimfponihbfimaaGreatP16
import Derived.Test.YtimfponihbfimaaGreatP17
import Derived.Test.YtimfponihbfimaaGreatP18
import Derived.Test.YtimfponihbfimaaGreatP19
import Derived.Test.YtimfponihbfimaaGreatP20
import Derived.Test.YtimfponihbfimaaGreatP21
import Derived.Test.YtimfponihbfimaaGreatP22
import Derived.Test.YtimfponihbfimaaGreatP23
import Derived.Test.YtimfponihbfimaaGreatP24
import Derived.Test.YtimfponihbfimaaGreatP25
import Derived.Test.YtimfponihbfimaaGreatP26
import Derived.Test.YtimfponihbfimaaGreatP27
import Derived.Test.YtimfponihbfimaaGreatP28
import Derived.Test.YtimfponihbfimaaGreatP29
import Derived.Test.YtimfponihbfimaaGreatP30
import Derived.Test.YtimfponihbfimaaGreatP31
import Derived.Test.YtimfponihbfimaaGreatP32
import Derived.Test.YtimfponihbfimaaGreatP33
import Derived.Test.YtimfponihbfimaaGreatP34
import Derived.Test.YtimfponihbfimaaGreatP35
import Derived.Test.YtimfponihbfimaaGreatP36
import Derived.Test.YtimfponihbfimaaGreatP37
import Derived.Test.YtimfponihbfimaaGreatP38
import Derived.Test.YtimfponihbfimaaGreatP39
import Derived.Test.YtimfponihbfimaaGreatP40
import Derived.Test.YtimfponihbfimaaGreatP41
import Derived.Test.YtimfponihbfimaaGreatP42
import Derived.Test.YtimfponihbfimaaGreatP43
import Derived.Test.YtimfponihbfimaaGreatP44
import Derived.Test.YtimfponihbfimaaGreatP45
import Derived.Test.YtimfponihbfimaaGreatP46
import Derived.Test.YtimfponihbfimaaGreatP47
import Derived.Test.YtimfponihbfimaaGreatP48
import Derived.Test.YtimfponihbfimaaGreatP49
set_option linter.unusedVariables false
set_option linter.unusedSimpArgs false
section
namespace Go.Sj
section steps
variable {P : Program} {N : Nat} {ops : List Oper} {Q : St → Own → Prop} {L : Own} {rest : List (Oper × Kd)} {l : List (Nat × AV)} {k : Kd} {q : Nat}
section heads
variable {tt : List (TypeId × TD)} (ok : TOK P tt) {o : Oper} (hdst : o.dst = some q) (hd : Nat.blt q N = true) (hg : guardA ops o (lk l) = some true)
include ok hdst hd hg
end heads
theorem s_rem {o : Oper} {T T' : TypeId} {x y : Operand} {kk : IntKind} {a b : Int} (ho : o.op = .binOp .rem T x y T') (hdst : o.dst = some q) (hd : Nat.blt q N = true) (hg : guardA ops o (lk l) = some true)
    (hx : ev (lk l) x = .lit (.int kk a)) (hy : ev (lk l) y = .lit (.int kk b)) (ha : 0 ≤ a) (hb : 0 < b)
    (n : AL P N ops Q rest (lk ((q, .lit (.int kk (a % b))) :: l)) L) : AL P N ops Q ((o, k) :: rest) (lk l) L := by
  obtain ⟨dst, op', ty, pos, after, g⟩ := o
  simp only at ho
  subst ho
  refine s_pure hdst hd hg ⟨fun σ F w ρ hR hρ => ⟨.int kk (a % b), ?_, .lit _⟩⟩ n
  have h1 := hρ x (by simp [Op.operands])
  have h2 := hρ y (by simp [Op.operands])
  rw [hx] at h1
  rw [hy] at h2
  have hb0 : b ≠ 0 := by omega
  simp [execOp, h1.lit_inv, h2.lit_inv, eqGuard, binOp, Op.intDiv, hb0, Int.tmod_eq_emod_of_nonneg ha]
end steps
end Go.Sj
namespace Go.Sj
section
variable {P : Program} {N : Nat} {ops : List Oper} {Q : St → Own → Prop} {L : Own} {rest : List (Oper × Kd)} {l : List (Nat × AV)} {k : Kd} {q : Nat}
end
end Go.Sj
namespace Go.Sj
end Go.Sj
namespace Go.Sj
section
variable {P : Program} {N : Nat} {ops : List Oper} {Q : St → Own → Prop} {L : Own} {rest : List (Oper × Kd)} {l : List (Nat × AV)} {k : Kd} {q : Nat}
end
end Go.Sj
end
section
namespace Go.Sj
theorem a_freeze {P : Program} {N : Nat} {c : Code} {Q : Exit → St → Own → Prop} {st : St} {L : Own} (i : Nat) {v : Value} {E sz : Nat} {es : List (List AV)} (hL : L[i]? = some (v, .row E sz es)) (st' : St) (hst : FZS v sz es st st') (M : Own) (hM : FZO v sz es (L.eraseIdx i) M)
    (k : AWp P N c Q st' M) : AWp P N c Q st L :=
  ⟨fun σ F w a hr ht => by
    obtain ⟨h1, h2⟩ := (hr.at hL).freeze hM
    have ht' : TR (frz σ w v) N st' a := ⟨ht.defers, ht.size, fun j => hst j _ _ h2 ((ht.mono (frz_le σ w v)).vals j)⟩
    exact wp_mono (k.out _ F w a h1 ht') fun e a' w' hp => hp.le (frz_le σ w v)⟩
end Go.Sj
namespace Go.Sj
section
variable {P : Program} {N : Nat} {ops : List Oper} {Q : St → Own → Prop} {L : Own} {rest : List (Oper × Kd)} {l : List (Nat × AV)} {k : Kd} {q : Nat}
end
end Go.Sj
namespace Go.Sj
section
variable {P : Program} {N : Nat} {ops : List Oper} {Q : St → Own → Prop} {L : Own} {rest : List (Oper × Kd)} {l : List (Nat × AV)} {q : Nat}
end
end Go.Sj
namespace Go.Sj
section
variable {P : Program} {N : Nat} {ops : List Oper} {Q : St → Own → Prop} {L : Own} {rest : List (Oper × Kd)} {l : List (Nat × AV)} {k : Kd} {q : Nat}
theorem s_loadI {tt : List (TypeId × TD)} (ok : TOK P tt) (i : Nat) {o : Oper} {T : TypeId} {x : Operand} {d : TD} {v : Value} {E j : Nat} {xs : List Int} {a : Int}
    (ho : o.op = .load T x) (hdst : o.dst = some q) (hd : Nat.blt q N = true) (hg : guardA ops o (lk l) = some true) (hk : k ≠ .pure) (hT : lkT tt T = some d) (ha : d.isAgg = false) (hx : ev (lk l) x = .pt v 1 j 0) (hL : L[i]? = some (v, .row E 1 (rowI xs))) (hj : xs[j]? = some a)
    (n : AL P N ops Q rest (lk ((q, AI a) :: l)) L) : AL P N ops Q ((o, k) :: rest) (lk l) L :=
  s_ownLoad ok i ho hdst hd hg hk hT hx hL rfl (cells := [AI a]) (by simp only [obAt, zmp hj]; rfl) (by simp [partA, ha]) (by simp) n
end
end Go.Sj
end
section
namespace Go.Sj
open Go.ChangeShapes Go.WideShapes Go.ChangeAt Go.RowKit
theorem reads_arr {P : Program} {t e n : Nat} {k : IntKind} (ht : P.underlying t = some (.array n e)) (he : P.underlying e = some (.int k)) (hc : P.cellsOf e = 1) (hct : P.cellsOf t = n) (hn : 0 < n) :
    Reads P t n (fun l : List Int => l.map fun m => .lit (.int k m)) (fun l => l.length = n ∧ ∀ m ∈ l, (Lit.int k m).wf = true) :=
  ⟨hct, hn, fun l h => by simp [h.1], fun {H enc w base sp held fuel cs x} h => by
    obtain ⟨xs, m, _, _, hl, hxl, hi⟩ := DataW.trod_array ht h
    rw [hct] at hl
    have each : ∀ i, i < n → ∃ z : Int, cs[i]? = some (.int k z) ∧ (Lit.int k z).wf = true := by
      intro i hin
      have := hi i hin
      rw [List.getElem?_eq_getElem (by omega)] at this
      obtain ⟨z, hz, _, hw⟩ := DataW.trod_int he this
      rw [hc, Nat.mul_one] at hz
      refine ⟨z, ?_, hw⟩
      have := congrArg (·[0]?) hz
      simpa [List.getElem?_take] using this
    obtain ⟨l, hll, hr⟩ := list_of n each
    refine ⟨l, ⟨hll, fun z hz => ?_⟩, by simp [hl, hll], fun j a y ha hy => ?_⟩
    · obtain ⟨i, hi', rfl⟩ := List.mem_iff_getElem.1 hz
      exact (hr i _ (List.getElem?_eq_getElem hi')).2
    · rw [List.getElem?_map] at ha
      cases hlj : l[j]? with
      | none => rw [hlj] at ha; cases ha
      | some z =>
        rw [hlj] at ha
        simp at ha
        subst ha
        have := (hr j z hlj).1
        rw [hy] at this
        cases this
        exact .lit _⟩
variable {H : Type} {enc : TypeId × Value → H} {P : Program}
end Go.Sj
namespace Go.Sj
open Go.ChangeShapes Go.WideShapes Go.ChangeAt Go.RowKit
end Go.Sj
namespace Go.Sj
open Go.ChangeShapes Go.WideShapes Go.ChangeAt Go.RowKit
end Go.Sj
end
section
namespace Go.Sj
section
variable {N : Nat} {st st' st'' : St} {L L' L'' : Own}
end
theorem a_know {P : Program} {N : Nat} {c : Code} {Q : Exit → St → Own → Prop} {st : St} {L : Own} (i : Nat) {v : Value} {E sz : Nat} {es : List (List AV)} (hL : L[i]? = some (v, .row E sz es)) (k : v.oneCell' = true → AWp P N c Q st L) : AWp P N c Q st L :=
  ⟨fun σ F w a h1 h2 => (k (own_row_cell (h1.own1 hL))).out σ F w a h1 h2⟩
end Go.Sj
namespace Go.Sj
end Go.Sj
namespace Go.Sj
section
variable {P : Program} {N : Nat} {ops : List Oper} {Q : St → Own → Prop} {L : Own} {rest : List (Oper × Kd)} {l : List (Nat × AV)} {k : Kd} {q : Nat}
theorem s_arrIp {tt : List (TypeId × TD)} (ok : TOK P tt) {o : Oper} {T : TypeId} {x y : Operand} {E m s1 b1 : Nat} {z1 : List Value} {d : TD} {cells : List AV} {kk : IntKind} {i : Int} (ho : o.op = .indexAddr T x y) (hdst : o.dst = some q) (hd : Nat.blt q N = true) (hg : guardA ops o (lk l) = some true)
    (hT : lkT tt T = some ⟨.array m E, s1, b1, z1⟩) (hE : lkT tt E = some d) (hx : ev (lk l) x = .ip cells) (hy : ev (lk l) y = .lit (.int kk i)) (h0 : 0 ≤ i) (h1 : i < m)
    (n : AL P N ops Q rest (lk ((q, .ip (cells.drop (i.toNat * d.size))) :: l)) L) : AL P N ops Q ((o, k) :: rest) (lk l) L := by
  obtain ⟨dst, op', ty, pos, after, g⟩ := o
  simp only at ho
  subst ho
  refine s_pure hdst hd hg ⟨fun σ F w ρ hR hρ => ?_⟩ n
  have e1 := hρ x (by simp [Op.operands])
  have e2 := hρ y (by simp [Op.operands])
  rw [hx] at e1
  rw [hy] at e2
  have hu := (ok _ _ hT).array rfl
  have hs := (ok _ _ hE).sizeOf_run
  generalize hv : ρ x = u at e1
  cases e1 with
  | ip _ b off c E' fr f a1 a2 a3 =>
    refine ⟨.pointer (some ⟨b, off + i.toNat * d.size, none⟩), ?_, .ip _ b (off + i.toNat * d.size) c E' fr (fun j => f (i.toNat * d.size + j)) a1 (fun j y hy => ?_) (fun j y hy => ?_)⟩
    · have hadd : (⟨b, off, none⟩ : Addr).add (i.toNat * d.size) = ⟨b, off + i.toNat * d.size, none⟩ := by
        unfold Addr.add; split <;> simp_all
      simp [execOp, hv, e2.lit_inv, Instr.indexAt, Instr.sureAddr, asIntOf, run_underlying hu, h0, h1, hs, hadd]
    · rw [List.getElem?_drop] at hy
      rw [Nat.add_assoc]
      exact a2 _ y hy
    · rw [List.getElem?_drop] at hy
      exact a3 _ y hy
end
end Go.Sj
namespace Go.Sj
end Go.Sj
namespace Go.Sj
section
variable {P : Program} {N : Nat} {ops : List Oper} {Q : St → Own → Prop} {L : Own} {rest : List (Oper × Kd)} {l : List (Nat × AV)} {k : Kd} {q : Nat}
end
end Go.Sj
namespace Go.Sj
section
variable {P : Program} {N : Nat} {ops : List Oper} {Q : St → Own → Prop} {L : Own} {rest : List (Oper × Kd)} {l : List (Nat × AV)} {k : Kd} {q : Nat}
end
end Go.Sj
namespace Go.Sj
end Go.Sj
end
section
namespace Go.Sj
section
variable {P : Program} {N : Nat} {ops : List Oper} {Q : St → Own → Prop} {L : Own} {rest : List (Oper × Kd)} {l : List (Nat × AV)} {k : Kd} {q : Nat}
end
end Go.Sj
namespace Go.Sj
section
variable {P : Program} {N : Nat} {ops : List Oper} {Q : St → Own → Prop} {L : Own} {rest : List (Oper × Kd)} {l : List (Nat × AV)} {k : Kd} {q : Nat}
end
end Go.Sj
namespace Go.Sj
section
variable {P : Program} {N : Nat} {ops : List Oper} {Q : St → Own → Prop} {L : Own} {rest : List (Oper × Kd)} {l : List (Nat × AV)} {k : Kd} {q : Nat}
end
end Go.Sj
namespace Go.Sj
section
variable {P : Program} {N : Nat} {ops : List Oper} {Q : St → Own → Prop} {L : Own} {rest : List (Oper × Kd)} {l : List (Nat × AV)} {k : Kd} {q : Nat}
end
end Go.Sj
namespace Go.Sj
section
variable {P : Program} {N : Nat} {ops : List Oper} {Q : St → Own → Prop} {L : Own} {rest : List (Oper × Kd)} {l : List (Nat × AV)} {k : Kd} {q : Nat}
theorem s_zeroArr {tt : List (TypeId × TD)} (ok : TOK P tt) {o : Oper} {T : TypeId} {n E s1 b1 : Nat} {z : List Value} {d : TD} (ho : o.op = .build T #[]) (hdst : o.dst = some q) (hd : Nat.blt q N = true) (hg : guardA ops o (lk l) = some true)
    (hT : lkT tt T = some ⟨.array n E, s1, b1, z⟩) (hE : lkT tt E = some d)
    (nx : AL P N ops Q rest (lk ((q, .agg (z.map .lit)) :: l)) L) : AL P N ops Q ((o, k) :: rest) (lk l) L := by
  obtain ⟨dst, op', ty, pos, after, g⟩ := o
  simp only at ho
  subst ho
  refine s_pure hdst hd hg ⟨fun σ F w ρ hR hρ => ?_⟩ nx
  obtain ⟨z0, hz, hzl⟩ := (ok _ _ hT).zero_run w
  simp only at hzl
  have hu := (ok _ _ hT).array rfl
  have hs := (ok _ _ hE).sizeOf_run
  refine ⟨.agg z0.cells, ?_, ?_⟩
  · simp only [execOp, Instr.build, Sem.run_bind, hz, Result.andThen_ok, run_underlying hu, hs, List.map_toArray, List.map_nil]
    simp [Instr.fill, Sem.run_pure]
  · have h := VR.agg_of (VRs.lits (σ := σ) z)
    rw [← hzl] at h ⊢
    simpa using h
theorem s_eqD {o : Oper} {T T' : TypeId} {x y : Operand} {kk : IntKind} {a b : Int} (ho : o.op = .binOp .eql T x y T') (hdst : o.dst = some q) (hd : Nat.blt q N = true) (hg : guardA ops o (lk l) = some true)
    (hx : ev (lk l) x = .lit (.int kk a)) (hy : ev (lk l) y = .lit (.int kk b))
    (n : AL P N ops Q rest (lk ((q, .lit (.bool (decide (a = b)))) :: l)) L) : AL P N ops Q ((o, k) :: rest) (lk l) L := by
  refine s_cmp ho hdst hd hg hx hy rfl (fun h => ?_) (fun h => ?_)
  · simp only [cmpP] at h
    rw [decide_eq_true h] at n
    exact n
  · simp only [cmpP] at h
    rw [decide_eq_false h] at n
    exact n
end
theorem subLL_map {A : Type} {f g : A → List AV} (h : ∀ a, SubL (f a) (g a)) : ∀ l : List A, SubLL (l.map f) (l.map g)
  | [] => trivial
  | a :: l => ⟨h a, subLL_map h l⟩
end Go.Sj
namespace Go.Sj
def ATK (ks : List Kd) (P : Program) (N : Nat) (l : List Oper) (Q : St → Own → Prop) : OT → St → Own → Prop
  | .seg is, st, L => AL P N l Q (mkLK ks l is) st L
  | .br is a b, st, L => AL P N l (fun st' L' => ATK ks P N l Q a st' L' ∧ ATK ks P N l Q b st' L') (mkLK ks l is) st L
theorem atk_seg {ks : List Kd} {P : Program} {N : Nat} {l : List Oper} {Q : St → Own → Prop} {is : List Nat} {st : St} {L : Own} (h : AL P N l Q (mkLK ks l is) st L) : ATK ks P N l Q (.seg is) st L := h
theorem atk_br {ks : List Kd} {P : Program} {N : Nat} {l : List Oper} {Q : St → Own → Prop} {is : List Nat} {a b : OT} {st : St} {L : Own} (h : AL P N l (fun st' L' => ATK ks P N l Q a st' L' ∧ ATK ks P N l Q b st' L') (mkLK ks l is) st L) : ATK ks P N l Q (.br is a b) st L := h
theorem AAny_treeK {ks : List Kd} {P : Program} {N : Nat} {l : List Oper} {Q : St → Own → Prop} : ∀ (t : OT) (listed : Array Bool) (st : St) (L : Own), t.all l.length = true → ATK ks P N l Q t st L →
    (chkT l.toArray ks false t listed = true → AAny P N l ks Q t.len listed st L) ∧
    (∀ k o, chkT l.toArray ks true t listed = true → t.hd = some k → l[k]? = some o → ks.getD k .eff = .eff → ∃ m, t.len = m + 1 ∧ AK P N l .eff o (AAny P N l ks Q m (listed.setIfInBounds k true)) st L)
  | .seg is, listed, st, L, hall, h => by
    obtain ⟨f1, f2⟩ := mkLK_facts (ks := ks) hall
    simp only [ATK] at h
    refine ⟨fun hc => ?_, fun k o hc hk ho hkd => ?_⟩
    · simp only [chkT, chkF] at hc
      split at hc
      · rename_i li hli
        have := AAny_pre (ks := ks) (Q := Q) (fuel := 0) (li := li) h (fun st L hq => ⟨by simpa using hc, hq⟩) is listed f1 f2 hli
        rw [← f1] at this
        exact this
      · cases hc
    · cases is with
      | nil => cases hk
      | cons k' is =>
        simp only [OT.hd, Option.some.injEq] at hk
        subst hk
        simp only [chkT, chkF] at hc
        simp only [OT.all, List.all_cons, Bool.and_eq_true] at hall
        obtain ⟨g1, g2⟩ := mkLK_facts (ks := ks) hall.2
        rw [mkLK_cons ho, hkd] at h
        split at hc
        · rename_i li hli
          refine ⟨is.length, rfl, (AL_head h).mono fun st' L' h' => ?_⟩
          have := AAny_pre (ks := ks) (Q := Q) (fuel := 0) (li := li) h' (fun st L hq => ⟨by simpa using hc, hq⟩) is _ g1 g2 hli
          rw [← g1] at this
          exact this
        · cases hc
  | .br is a b, listed, st, L, hall, h => by
    simp only [OT.all, Bool.and_eq_true] at hall
    obtain ⟨⟨hall1, ha⟩, hb⟩ := hall
    obtain ⟨f1, f2⟩ := mkLK_facts (ks := ks) hall1
    simp only [ATK] at h
    have part : ∀ (li : Array Bool), (match a.hd, b.hd with
      | some x, some y => (Region.ready .any l.toArray li == [x, y]) && (ks.getD x .eff == .eff) && (ks.getD y .eff == .eff) && (a.len == b.len) && chkT l.toArray ks true a li && chkT l.toArray ks true b li
      | _, _ => false) = true → ∀ st' L', ATK ks P N l Q a st' L' ∧ ATK ks P N l Q b st' L' → AAny P N l ks Q a.len li st' L' := by
      intro li hc st' L' ⟨hA, hB⟩
      split at hc
      · rename_i x y hx hy
        simp only [Bool.and_eq_true, beq_iff_eq] at hc
        obtain ⟨⟨⟨⟨⟨c1, c2⟩, c3⟩, c4⟩, c5⟩, c6⟩ := hc
        have hlen : ∃ m, a.len = m + 1 := by
          cases a with
          | seg is => cases is with
            | nil => cases hx
            | cons k is => exact ⟨is.length, rfl⟩
          | br is a b => cases is with
            | nil => cases hx
            | cons k is => exact ⟨is.length + a.len, by simp only [OT.len, List.length_cons]; omega⟩
        obtain ⟨m, hm⟩ := hlen
        rw [hm]
        refine ⟨fun hr => (by rw [hr] at c1; cases c1), fun i hi o ho => ?_⟩
        rw [c1] at hi
        rcases List.mem_cons.1 hi with rfl | hi
        · have hk := c2
          obtain ⟨m', e1, e2⟩ := (AAny_treeK a li st' L' ha hA).2 i o c5 hx ho hk
          obtain rfl : m = m' := by omega
          rw [hk]; exact e2
        · obtain rfl : i = y := by simpa using hi
          have hk := c3
          obtain ⟨m', e1, e2⟩ := (AAny_treeK b li st' L' hb hB).2 i o c6 hy ho hk
          obtain rfl : m = m' := by omega
          rw [hk]; exact e2
      · cases hc
    refine ⟨fun hc => ?_, fun k o hc hk ho hkd => ?_⟩
    · simp only [chkT, chkF] at hc
      split at hc
      · rename_i li hli
        have := AAny_pre (ks := ks) (Q := Q) (fuel := a.len) (li := li) h (part li hc) is listed f1 f2 hli
        rw [← f1] at this
        exact this
      · cases hc
    · cases is with
      | nil => cases hk
      | cons k' is =>
        simp only [OT.hd, Option.some.injEq] at hk
        subst hk
        simp only [chkT, chkF] at hc
        simp only [List.all_cons, Bool.and_eq_true] at hall1
        obtain ⟨g1, g2⟩ := mkLK_facts (ks := ks) hall1.2
        rw [mkLK_cons ho, hkd] at h
        split at hc
        · rename_i li hli
          refine ⟨is.length + a.len, by simp only [OT.len, List.length_cons]; omega, (AL_head h).mono fun st' L' h' => ?_⟩
          have := AAny_pre (ks := ks) (Q := Q) (fuel := a.len) (li := li) h' (part li hc) is _ g1 g2 hli
          rw [← g1] at this
          exact this
        · cases hc
theorem a_regTK {ks : List Kd} {P : Program} {N : Nat} {Q : Exit → St → Own → Prop} {st : St} {L : Own} {id : Nat} {l : List Oper} (t : OT) (hm : P.follows .mixedOrders = true) (hlen : t.len = l.length) (hin : t.all l.length = true)
    (hc : chkT l.toArray ks false t (Array.replicate l.length false) = true)
    (h : ATK ks P N l (fun st' L' => Q .normal st' L') t st L) : AWp P N (.region id l.toArray true) Q st L :=
  ⟨fun σ F w a hr ht => wp_region_any hm (by
    have h1 := (AAny_treeK t (Array.replicate l.length false) st L hin h).1 hc
    rw [hlen] at h1
    have := AAny_wp (F := F) (Q' := Post σ N F Q) l.length _ st L σ a { w with drawn := w.drawn + 1 } h1 (hr.grow (fun _ _ => rfl) rfl rfl) ht (fun τ st' L' a' w' a1 a2 a3 a4 => ⟨τ, st', L', a1, a2, a3, a4⟩)
    simpa using this)⟩
end Go.Sj
end
section
namespace Go.Sj.Typ
open Go.Sj
end Go.Sj.Typ
namespace Go.Sj.Typ
open Go.Sj
end Go.Sj.Typ
namespace Go.Sj.Typ
open Go.Sj
section
variable {ns : List Nod} (h : PR ns ns.length)
include h
end
def nmS (l : List UInt8) (i : Nat) : ByteArray := (ByteArray.mk l.toArray).extract i (i + 1)
def upper : List UInt8 := [65, 66, 67, 68, 69, 70]
def lower : List UInt8 := [117, 118, 119, 120, 121, 122]
def edgeL : List UInt8 := [101, 102, 103, 104, 105]
def offS : ByteArray := ⟨#[111, 102, 102]⟩
def onS : ByteArray := ⟨#[111, 110]⟩
def madeA (i : Nat) (y : Int) : List Att := if y % 4 = 1 then [⟨nmS lower i, -3, 3 + y / 4 % 9, []⟩] else if y % 4 = 2 then [⟨nmS lower i, 0, 1, [offS, onS]⟩] else []
def madeN (i : Nat) (x y : Int) : Nod := ⟨nmS upper i, x % (i + 1) - 1, decide (x / 16 % 4 = 3), madeA i y⟩
def codeAt (l : List (Int × Int)) (i : Nat) : Int × Int := l.getD i (0, 0)
def madeNs (l : List (Int × Int)) (n : Nat) : List Nod := (List.range n).map fun i => madeN i (codeAt l i).1 (codeAt l i).2
def zmu (l : List (Int × Int)) : Nat := if l.length = 0 then 1 else min 6 l.length
def madeE (n : Nat) (i : Nat) (c : Int × Int) : Edg := ⟨nmS edgeL i, c.1 % n, c.2 % n, 0, -1, 0, -1⟩
def madeEs (n : Nat) (l : List (Int × Int)) (m : Nat) : List Edg := (List.range m).map fun i => madeE n i (codeAt l i)
def madeT (nodes edges : List (Int × Int)) : Tys := ⟨madeNs nodes (zmu nodes), madeEs (zmu nodes) edges (min 5 edges.length)⟩
def Cd (l : List (Int × Int)) : Prop := ∀ c ∈ l, (0 ≤ c.1 ∧ c.1 ≤ 255) ∧ (0 ≤ c.2 ∧ c.2 ≤ 255)
theorem codeAt_rng {l : List (Int × Int)} (h : Cd l) (i : Nat) : (0 ≤ (codeAt l i).1 ∧ (codeAt l i).1 ≤ 255) ∧ (0 ≤ (codeAt l i).2 ∧ (codeAt l i).2 ≤ 255) := by
  unfold codeAt
  rw [List.getD_eq_getElem?_getD]
  cases hx : l[i]? with
  | none => simp
  | some c => exact h c (List.mem_of_getElem? hx)
theorem madeNum_rng (l : List (Int × Int)) : 1 ≤ zmu l ∧ zmu l ≤ 6 := by
  unfold zmu
  split <;> omega
theorem nm_upper : ∀ i, i < 6 → nameB (nmS upper i) = true ∧ (nmS upper i).size = 1 := by decide +kernel
theorem nm_lower : ∀ i, i < 6 → nameB (nmS lower i) = true ∧ (nmS lower i).size = 1 := by decide +kernel
theorem nm_edge : ∀ i, i < 5 → nameB (nmS edgeL i) = true ∧ (nmS edgeL i).size = 1 := by decide +kernel
theorem nm_upper_ne : ∀ i, i < 6 → ∀ j, j < i → nmS upper j ≠ nmS upper i := by decide +kernel
theorem nm_lower_ne : ∀ i, i < 6 → ∀ j, j < i → nmS lower j ≠ nmS lower i := by decide +kernel
theorem nm_edge_ne : ∀ i, i < 5 → ∀ j, j < i → nmS edgeL j ≠ nmS edgeL i := by decide +kernel
theorem names_on : namesE [offS, onS] = 0 := by decide +kernel
theorem madeNs_get {l : List (Int × Int)} {n i : Nat} (h : i < n) : (madeNs l n)[i]? = some (madeN i (codeAt l i).1 (codeAt l i).2) := by simp [madeNs, h]
theorem madeNs_len (l : List (Int × Int)) (n : Nat) : (madeNs l n).length = n := by simp [madeNs]
theorem madePR (l : List (Int × Int)) (n : Nat) : PR (madeNs l n) n := fun i m hi hm => by
  rw [madeNs_get hi] at hm
  cases hm
  simp only [madeN]
  have h1 := Int.emod_nonneg (codeAt l i).1 (b := (i : Int) + 1) (by omega)
  have h2 := Int.emod_lt_of_pos (codeAt l i).1 (b := (i : Int) + 1) (by omega)
  omega
theorem madeA_len (i : Nat) (y : Int) : (madeA i y).length ≤ 1 := by
  unfold madeA
  split
  · simp
  · split <;> simp
theorem madeA_mem {i : Nat} {y : Int} {a : Att} (h : a ∈ madeA i y) : a.name = nmS lower i := by
  unfold madeA at h
  split at h
  · obtain rfl := List.mem_singleton.1 h; rfl
  · split at h
    · obtain rfl := List.mem_singleton.1 h; rfl
    · cases h
theorem madeA_body {i : Nat} {y : Int} {a : Att} (h : a ∈ madeA i y) : bodyE a = 0 := by
  unfold madeA at h
  split at h
  · obtain rfl := List.mem_singleton.1 h
    unfold bodyE rangeE
    rw [show namesE [] = 0 from rfl, if_neg (by decide), if_pos rfl, if_pos]
    simp only
    omega
  · split at h
    · obtain rfl := List.mem_singleton.1 h
      unfold bodyE rangeE
      rw [names_on, if_neg (by decide), if_neg (by simp), if_pos]
      simp
    · cases h
theorem made_attrs {l : List (Int × Int)} {n : Nat} : ∀ (m : Nat) (a : Int), a + 1 ≤ m → a < n → (attrsOf (madeNs l n) a).length ≤ m ∧ ∀ x ∈ attrsOf (madeNs l n) a, ∃ i : Nat, (i : Int) ≤ a ∧ x ∈ madeA i (codeAt l i).2
  | 0, a, hm, ha => by rw [attrsOf_neg (by omega)]; simp
  | m + 1, a, hm, ha => by
    by_cases h0 : a < 0
    · rw [attrsOf_neg h0]; simp
    · have hx := madeNs_get (l := l) (n := n) (i := a.toNat) (by omega)
      have hp := madePR l n a.toNat _ (by omega) hx
      rw [attrsOf_step (madePR l n) (by omega) ha hx]
      obtain ⟨i1, i2⟩ := made_attrs (l := l) (n := n) m _ (by omega : (madeN a.toNat (codeAt l a.toNat).1 (codeAt l a.toNat).2).par + 1 ≤ m) (by omega)
      have := madeA_len a.toNat (codeAt l a.toNat).2
      refine ⟨by rw [List.length_append]; simp only [madeN] at *; omega, fun x hx => ?_⟩
      rcases List.mem_append.1 hx with h1 | h1
      · obtain ⟨i, hi, hxi⟩ := i2 x h1
        exact ⟨i, by omega, hxi⟩
      · exact ⟨a.toNat, by omega, h1⟩
theorem made_node {l : List (Int × Int)} {n i : Nat} (hn : n ≤ 6) (hi : i < n) : nodeE (madeNs l n) i = 0 := by
  have hx := madeNs_get (l := l) hi
  have hp := madePR l n i _ hi hx
  have hst := attrsOf_step (madePR l n) (a := (i : Int)) (by omega) (by omega) hx
  obtain ⟨hl1, hm1⟩ := made_attrs (l := l) (n := n) 6 (i : Int) (by omega) (by omega)
  obtain ⟨_, hm2⟩ := made_attrs (l := l) (n := n) 6 (madeN i (codeAt l i).1 (codeAt l i).2).par (by omega) (by omega)
  unfold nodeE
  rw [hx]
  simp only
  have hany : ((madeNs l n).take i).any (fun m => decide (m.name = (madeN i (codeAt l i).1 (codeAt l i).2).name)) = false := by
    rw [List.any_eq_false]
    intro m hm
    rw [List.mem_take_iff_getElem] at hm
    obtain ⟨j, hj, rfl⟩ := hm
    have hjl : j < n := by rw [madeNs_len] at hj; omega
    have : (madeNs l n)[j]'(by rw [madeNs_len]; exact hjl) = madeN j (codeAt l j).1 (codeAt l j).2 := by
      have := madeNs_get (l := l) hjl
      rw [List.getElem?_eq_getElem (by rw [madeNs_len]; exact hjl)] at this
      exact Option.some.inj this
    rw [this]
    exact fun h => nm_upper_ne i (by omega) j (by omega) (of_decide_eq_true h)
  rw [if_neg (by simp only [madeN]; rw [(nm_upper i (by omega)).1]; decide), hany, if_neg (by decide), if_neg (by omega)]
  have hal := madeA_len i (codeAt l i).2
  rw [if_neg (by simp only [madeN]; omega), if_neg (by omega)]
  refine firstN_none fun j hj => ?_
  have hj0 : j = 0 := by simp only [madeN] at hj; omega
  subst hj0
  have hlen : (attrsOf (madeNs l n) i).length - (madeN i (codeAt l i).1 (codeAt l i).2).attrs.length + 0 = (attrsOf (madeNs l n) (madeN i (codeAt l i).1 (codeAt l i).2).par).length := by
    rw [hst, List.length_append]; omega
  rw [hlen]
  have hone : ∃ a, madeA i (codeAt l i).2 = [a] := by
    simp only [madeN] at hj
    match hma : madeA i (codeAt l i).2, hj, hal with
    | [a], _, _ => exact ⟨a, rfl⟩
    | [], hj, _ => simp at hj
    | _ :: _ :: _, _, hal => simp at hal
  obtain ⟨a, hone⟩ := hone
  have hat : (madeN i (codeAt l i).1 (codeAt l i).2).attrs = [a] := hone
  rw [hst, hat]
  unfold attAt
  rw [List.getElem?_append_right (Nat.le_refl _), Nat.sub_self]
  simp only [List.getElem?_cons_zero, List.take_left']
  have ham : a ∈ madeA i (codeAt l i).2 := by rw [hone]; exact List.mem_cons_self ..
  unfold attrE
  rw [madeA_mem ham, (nm_lower i (by omega)).1, if_neg (by decide)]
  rw [if_neg, madeA_body ham]
  rw [Bool.not_eq_true, List.any_eq_false]
  intro x hx'
  obtain ⟨j, hj, hxj⟩ := hm2 x hx'
  rw [madeA_mem hxj]
  exact fun h => nm_lower_ne i (by omega) j (by omega) (of_decide_eq_true h)
theorem madeEs_get {n : Nat} {l : List (Int × Int)} {m i : Nat} (h : i < m) : (madeEs n l m)[i]? = some (madeE n i (codeAt l i)) := by simp [madeEs, h]
theorem madeEs_len (n : Nat) (l : List (Int × Int)) (m : Nat) : (madeEs n l m).length = m := by simp [madeEs]
theorem made_edge {t : Tys} {n m i : Nat} {l : List (Int × Int)} (ht : t.edges = madeEs n l m) (hn : t.nodes.length = n) (h0 : 0 < n) (hm : m ≤ 5) (hi : i < m) : edgeE t i = 0 := by
  have hx := madeEs_get (n := n) (l := l) hi
  unfold edgeE
  rw [ht, hx]
  simp only
  have hany : ((madeEs n l m).take i).any (fun e => decide (e.name = (madeE n i (codeAt l i)).name)) = false := by
    rw [List.any_eq_false]
    intro e he
    rw [List.mem_take_iff_getElem] at he
    obtain ⟨j, hj, rfl⟩ := he
    have hjl : j < m := by rw [madeEs_len] at hj; omega
    have : (madeEs n l m)[j]'(by rw [madeEs_len]; exact hjl) = madeE n j (codeAt l j) := by
      have := madeEs_get (n := n) (l := l) hjl
      rw [List.getElem?_eq_getElem (by rw [madeEs_len]; exact hjl)] at this
      exact Option.some.inj this
    rw [this]
    exact fun h => nm_edge_ne i (by omega) j (by omega) (of_decide_eq_true h)
  have a1 := Int.emod_nonneg (codeAt l i).1 (b := (n : Int)) (by omega)
  have a2 := Int.emod_lt_of_pos (codeAt l i).1 (b := (n : Int)) (by omega)
  have b1 := Int.emod_nonneg (codeAt l i).2 (b := (n : Int)) (by omega)
  have b2 := Int.emod_lt_of_pos (codeAt l i).2 (b := (n : Int)) (by omega)
  rw [if_neg (by simp only [madeE]; rw [(nm_edge i (by omega)).1]; decide), hany, if_neg (by decide), if_pos]
  rw [hn]
  refine ⟨⟨a1, a2⟩, ⟨b1, b2⟩, ?_, ?_⟩ <;> (show boundP 0 (-1); unfold boundP; omega)
theorem made_valid (nodes edges : List (Int × Int)) : (validR (madeT nodes edges)).2 = 0 := by
  obtain ⟨h1, h2⟩ := madeNum_rng nodes
  refine validR_zero.2 ⟨?_, ?_, ?_, fun j hj => ?_, fun j hj => ?_⟩
  · simp only [madeT, madeNs_len]; omega
  · simp only [madeT, madeNs_len]; omega
  · simp only [madeT, madeEs_len]; omega
  · simp only [madeT, madeNs_len] at hj
    exact made_node h2 hj
  · simp only [madeT, madeEs_len] at hj
    exact made_edge (n := zmu nodes) (m := min 5 edges.length) (l := edges) rfl (by simp only [madeT, madeNs_len]) (by omega) (by omega) hj
theorem made_small (nodes edges : List (Int × Int)) : Small (madeT nodes edges) := by
  obtain ⟨h1, h2⟩ := madeNum_rng nodes
  refine ⟨by simp only [madeT, madeNs_len]; omega, by simp only [madeT, madeEs_len]; omega, fun n hn => ?_, fun e he => ?_⟩
  · simp only [madeT, madeNs, List.mem_map, List.mem_range] at hn
    obtain ⟨i, hi, rfl⟩ := hn
    refine ⟨by simp only [madeN]; rw [(nm_upper i (by omega)).2]; decide, by have := madeA_len i (codeAt nodes i).2; simp only [madeN]; omega, fun a ha => ?_⟩
    have ha' : a ∈ madeA i (codeAt nodes i).2 := ha
    refine ⟨by rw [madeA_mem ha', (nm_lower i (by omega)).2]; decide, ?_⟩
    unfold madeA at ha'
    split at ha'
    · obtain rfl := List.mem_singleton.1 ha'; simp
    · split at ha'
      · obtain rfl := List.mem_singleton.1 ha'
        refine ⟨by simp, ?_⟩
        simp only
        decide
      · cases ha'
  · simp only [madeT, madeEs, List.mem_map, List.mem_range] at he
    obtain ⟨i, hi, rfl⟩ := he
    simp only [madeE]
    rw [(nm_edge i (by omega)).2]; decide
theorem made_nodes (nodes edges : List (Int × Int)) : (madeT nodes edges).nodes.length = zmu nodes := by simp only [madeT, madeNs_len]
end Go.Sj.Typ
namespace Go.Sj.Typ
open Go.Sj
section
variable {nodes edges : List (Int × Int)}
end
theorem wf_n8 {a : Int} (h : (Lit.int .u8 a).wf = true) : 0 ≤ a ∧ a ≤ 255 := by
  simp only [Lit.wf, Bool.and_eq_true, decide_eq_true_eq] at h
  rw [show IntKind.u8.min = 0 by decide, show IntKind.u8.max = 255 by decide] at h
  exact h
def Okn (n : Nat) (l : List Int) : Prop := l.length = n ∧ ∀ m ∈ l, (Lit.int .u8 m).wf = true
def c82 (c : Int × Int) : List AV := [A8 c.1, A8 c.2]
def toC2 : List Int → Int × Int
  | [a, b] => (a, b)
  | _ => (0, 0)
theorem toC2_c {l : List Int} (h : l.length = 2) : (l.map fun m => AV.lit (.int .u8 m)) = c82 (toC2 l) := by
  match l, h with
  | [a, b], _ => rfl
theorem toC2_ok {l : List Int} (h : Okn 2 l) : (0 ≤ (toC2 l).1 ∧ (toC2 l).1 ≤ 255) ∧ (0 ≤ (toC2 l).2 ∧ (toC2 l).2 ≤ 255) := by
  obtain ⟨h1, h2⟩ := h
  match l, h1, h2 with
  | [a, b], _, h2 => exact ⟨wf_n8 (h2 a (by simp)), wf_n8 (h2 b (by simp))⟩
end Go.Sj.Typ
end
section
namespace Go.Sj.Sta
open Go.Sj Go.Sj.Typ
end Go.Sj.Sta
namespace Go.Sj.Sta
open Go.Sj Go.Sj.Typ
end Go.Sj.Sta
namespace Go.Sj.Sta
open Go.Sj Go.Sj.Typ
theorem addC_has {l : List Cnt} {x : Cnt} (h : ∀ c ∈ l, 1 ≤ c.nu) (hx : 1 ≤ x.nu) (k : Int) : hasB (addC l x) k = (hasB l k || decide (x.ty = k)) := by
  induction l with
  | nil => simp [addC, hasB]
  | cons c l ih =>
    have ih := ih (fun d hd => h d (by simp [hd]))
    have h1 := h c (by simp)
    rw [addC]
    split
    · simp only [hasB, List.any_cons] at ih ⊢; rw [ih, Bool.or_assoc]
    · split
      · rename_i hq
        rw [if_neg (by omega)]
        have e : c.ty = x.ty := hq.1
        simp only [hasB, List.any_cons, addN, e]
        cases decide (x.ty = k) <;> simp
      · simp only [hasB, List.any_cons]
        rw [Bool.or_comm]
theorem addAll_has {l xs : List Cnt} (h : ∀ c ∈ l, 1 ≤ c.nu) (hx : ∀ c ∈ xs, 1 ≤ c.nu) (k : Int) : hasB (addAll l xs) k = (hasB l k || xs.any fun c => decide (c.ty = k)) := by
  induction xs generalizing l with
  | nil => simp [addAll]
  | cons x xs ih =>
    show hasB (addAll (addC l x) xs) k = _
    rw [ih (addC_pos h (hx x (by simp))) (fun c hc => hx c (by simp [hc])), addC_has h (hx x (by simp)), List.any_cons, Bool.or_assoc]
theorem ofN_has (g : Gr) (l : List Int) (k : Int) : hasB (ofN g l) k = l.any fun n => decide (n = k) := by
  rw [ofN, addAll_has (by simp) (by simp [nodeC]), List.any_map]
  rfl
theorem ofS_valid {t : Tys} {g : Gr} (h : TV t g) : SV t (ofS g) := by
  have k1 := ofN_key (q := fun c => (0 ≤ c.ty ∧ c.ty < t.nodes.length) ∧ c.fr = 0 ∧ c.to = 0) (fun a b ⟨h1, h2, h3⟩ => by intro hh; simp only [h1, h2, h3] at hh ⊢; exact hh) g (l := g.nodes) (fun n hn => ⟨h.nodes n hn, rfl, rfl⟩)
  have k2 := ofE_key (q := fun c => ((0 ≤ c.ty ∧ c.ty < t.edges.length) ∧ (0 ≤ c.fr ∧ c.fr < t.nodes.length) ∧ (0 ≤ c.to ∧ c.to < t.nodes.length)) ∧ fitsR t c.ty c.fr c.to = true ∧ hasB (ofN g g.nodes) c.fr = true ∧ hasB (ofN g g.nodes) c.to = true)
    (fun a b ⟨h1, h2, h3⟩ => by intro hh; simp only [h1, h2, h3] at hh ⊢; exact hh) g (l := g.edges) (fun e he => by
      have g1 := h.graph.edges e he
      have m1 := nodeAt_mem (g := g) g1.2.1.1 g1.2.1.2
      have m2 := nodeAt_mem (g := g) g1.2.2.1 g1.2.2.2
      have e1 := h.edges e he
      refine ⟨⟨e1.1, h.nodes _ m1, h.nodes _ m2⟩, e1.2, ?_, ?_⟩
      · rw [ofN_has]; exact List.any_eq_true.2 ⟨_, m1, decide_eq_true rfl⟩
      · rw [ofN_has]; exact List.any_eq_true.2 ⟨_, m2, decide_eq_true rfl⟩)
  have t1 := tot_ofN g g.nodes
  have t2 := tot_ofE g g.edges
  have g1 := h.graph.nl
  have g2 := h.graph.el
  refine ⟨h.types, ⟨fun c hc => ?_, ofN_srt g _⟩, by rw [show (ofS g).nodes = ofN g g.nodes from rfl]; omega, ⟨fun c hc => ?_, fun c hc => (k2 c hc).2.1, fun c hc => (k2 c hc).2.2, ofE_srt g _⟩, by rw [show (ofS g).edges = ofE g g.edges from rfl]; omega⟩
  · have := k1 c hc
    have := ofN_pos g g.nodes c hc
    have := nu_tot (ofN_pos g g.nodes) c hc
    unfold nodeOk; omega
  · have := (k2 c hc).1
    have := ofE_pos g g.edges c hc
    have := nu_tot (ofE_pos g g.edges) c hc
    unfold edgeOk; omega
end Go.Sj.Sta
namespace Go.Sj.Sta
open Go.Sj Go.Sj.Typ
section
variable {ns : List Nod} (hp : PR ns ns.length)
def cU (ns : List Nod) (l : List Int) (i : Int) : Int := ((l.filter fun v => decide (i ∈ up ns v)).length : Int)
end
theorem isR_kp (t : Tys) (k : Int) : KP (fun c => isR t c.ty k) := fun a b h => by simp only [h.1]
theorem nodes_ofS {t : Tys} {g : Gr} (h : TV t g) {k : Int} (hk : 0 ≤ k ∧ k < t.nodes.length) : nodesR t (ofS g) k = (cU t.nodes g.nodes k, 0) := by
  unfold nodesR
  rw [if_neg (Decidable.not_not.2 (sValid_zero.2 (ofS_valid h))), if_neg (Decidable.not_not.2 hk)]
  congr 1
  show sumP _ (ofN g g.nodes) = _
  rw [ofN, addAll_sum (isR_kp t k), sumP_ones nodeC (fun _ => rfl)]
  simp only [sumP, Int.zero_add, cU]
  congr 2
  refine List.filter_congr fun v hv => ?_
  have hv' := h.nodes v hv
  show isR t v k = _
  unfold isR
  rw [decide_eq_true, Bool.true_and]
  unfold givenR
  rw [if_neg (Decidable.not_not.2 h.types), if_neg]
  simp only [List.any_cons, List.any_nil, Bool.or_false, outB, Bool.or_eq_true, decide_eq_true_eq]
  omega
end Go.Sj.Sta
namespace Go.Sj.Sta
open Go.Sj Go.Sj.Typ
section
variable {t : Tys} {g : Gr} {p q : List Int} (h : TV t g) (hp : Prm p g.nodes.length) (hq : Prm q g.edges.length)
include h hp hq
end
section
variable {t : Tys} {g : Gr} (h : TV t g)
include h
end
end Go.Sj.Sta
namespace Go.Sj.Sta
open Go.Sj Go.Sj.Typ
def c83 (c : Int × Int × Int) : List AV := [A8 c.1, A8 c.2.1, A8 c.2.2]
def toC3 : List Int → Int × Int × Int
  | [a, b, c] => (a, b, c)
  | _ => (0, 0, 0)
def In3 (c : Int × Int × Int) : Prop := (0 ≤ c.1 ∧ c.1 ≤ 255) ∧ (0 ≤ c.2.1 ∧ c.2.1 ≤ 255) ∧ (0 ≤ c.2.2 ∧ c.2.2 ≤ 255)
theorem toC3_c {l : List Int} (h : l.length = 3) : (l.map fun m => AV.lit (.int .u8 m)) = c83 (toC3 l) := by
  match l, h with
  | [a, b, c], _ => rfl
theorem toC3_ok {l : List Int} (h : Okn 3 l) : In3 (toC3 l) := by
  obtain ⟨h1, h2⟩ := h
  match l, h1, h2 with
  | [a, b, c], _, h2 => exact ⟨wf_n8 (h2 a (by simp)), wf_n8 (h2 b (by simp)), wf_n8 (h2 c (by simp))⟩
abbrev c8 (n : Int) : List AV := [A8 n]
abbrev bytesA (l : List Int) : AV := .im 1 (l.map c8)
def g8s (l : List Int) : List AV := l.map fun m => .lit (.int .u8 m)
theorem u8s_ok {x : List Int} (h : (∀ m ∈ x, (Lit.int .u8 m).wf = true) ∧ x.length ≤ reachBytes) : (∀ m ∈ x, 0 ≤ m ∧ m ≤ 255) ∧ x.length ≤ 140737488355328 := by
  have h2 := h.2
  unfold reachBytes at h2
  exact ⟨fun m hm => wf_n8 (h.1 m hm), by omega⟩
end Go.Sj.Sta
namespace Go.Sj.Sta
open Go.Sj Go.Sj.Typ
end Go.Sj.Sta
end
section
namespace Go.Sj
end Go.Sj
namespace Go.Sj.Part
set_option maxRecDepth 8000
def nextRow (i : Nat) (row : List Nat) (v : Nat) : Bool := v == i || row.getD v 0 == v
def nextTo (i : Nat) (row : List Nat) (k : Nat) : List (List Nat) := ((List.range k).filter (nextRow i row)).map fun v => row ++ [v]
def nextAll (i : Nat) (rows : List (List Nat)) : List (List Nat) := rows.flatMap fun row => nextTo i row (i + 1)
def allTo : Nat → List (List Nat)
  | 0 => [[]]
  | i + 1 => nextAll i (allTo i)
def allR (n : Int) : List (List Nat) × Int := if 7 < n then ([], 3) else if n < 0 then ([], 6) else (allTo n.toNat, 0)
end Go.Sj.Part
end
section
namespace Go.Sj.Inc
open Go.Sj Go.Sj.Sta Go.Sj.Typ
set_option maxRecDepth 8000
def capR (l : List Mo) : List Mo × Int := if 5000 < l.length then ([], 3) else (l, 0)
def allR (t : Tys) (p g : Gr) (inj : Bool) : List Mo × Int := if validS t p g ≠ 0 then ([], validS t p g) else capR (matL (seaA t p g inj))
end Go.Sj.Inc
end
section
namespace Go.Sj.Pln
open Go.Sj Go.Sj.Sta Go.Sj.Typ Go.Sj.Inc
set_option maxRecDepth 8000
theorem known_unk {s : Kn} : knownB s = true ↔ unk s = 0 := by
  unfold knownB unk
  rw [Bool.and_eq_true]
  simp only [Bool.not_eq_true', List.contains_eq_mem, decide_eq_false_iff_not, ← List.count_eq_zero]
  omega
theorem known_all {s : Kn} (h : knownB s = true) : (∀ b ∈ s.ns, b = true) ∧ ∀ b ∈ s.es, b = true := by
  unfold knownB at h
  rw [Bool.and_eq_true] at h
  simp only [Bool.not_eq_true', List.contains_eq_mem, decide_eq_false_iff_not] at h
  exact ⟨fun b hb => by cases b; exact absurd hb h.1; rfl, fun b hb => by cases b; exact absurd hb h.2; rfl⟩
theorem poss_mem {p : Gr} {s : Kn} {o : Opn} : o ∈ poss p s ↔ opE p s o = 0 := by
  unfold poss
  rw [List.mem_filter, decide_eq_true_eq]
  refine ⟨fun h => h.2, fun h => ⟨?_, h⟩⟩
  obtain ⟨k, e⟩ := o
  unfold opsL opsN opsE
  simp only [List.mem_append, List.mem_map, List.mem_range]
  rcases opE_zero h with ⟨h1, h2, _⟩ | ⟨h1, h2, _⟩
  · simp only at h1 h2
    exact .inl (.inl ⟨e.toNat, by omega, by rw [h1]; congr 1; omega⟩)
  · simp only at h1 h2
    rcases h1 with h1 | h1
    · exact .inl (.inr ⟨e.toNat, by omega, by rw [h1]; congr 1; omega⟩)
    · exact .inr ⟨e.toNat, by omega, by rw [h1]; congr 1; omega⟩
theorem poss_nil {p : Gr} {s : Kn} (hp : GV p) (hs : KnOk p s) : poss p s = [] ↔ knownB s = true := by
  constructor
  · intro h
    have hno : ∀ o, opE p s o ≠ 0 := fun o ho => by
      have := poss_mem.2 ho
      rw [h] at this
      cases this
    have hn : ∀ (i : Nat) (b : Bool), s.ns[i]? = some b → b = true := fun i b hb => by
      obtain ⟨hi, _⟩ := List.getElem?_eq_some_iff.1 hb
      have := hno ⟨1, i⟩
      unfold opE nodK at this
      rw [if_pos rfl, if_pos (by simp only; rw [← hs.nl]; omega)] at this
      simp only [Int.toNat_natCast, List.getD_eq_getElem?_getD, hb, Option.getD_some] at this
      cases b
      · exact absurd rfl this
      · rfl
    have he : ∀ (i : Nat) (b : Bool), s.es[i]? = some b → b = true := fun i b hb => by
      obtain ⟨hi, _⟩ := List.getElem?_eq_some_iff.1 hb
      have := hno ⟨3, i⟩
      have hi2 : i < p.edges.length := by rw [← hs.el]; exact hi
      unfold opE edgP edgK edP nodK at this
      have hx := hp.edges _ (List.getElem_mem hi2)
      rw [if_neg (by simp), if_pos (.inr rfl), if_pos (by simp only; omega)] at this
      simp only [Int.toNat_natCast, List.getD_eq_getElem?_getD, hb, Option.getD_some, List.getElem?_eq_getElem hi2] at this
      generalize p.edges[i] = x at *
      have a1 : s.ns[x.fr.toNat]? = some true := by
        have hh := List.getElem?_eq_getElem (l := s.ns) (i := x.fr.toNat) (by rw [hs.nl]; omega)
        rw [hh, hn _ _ hh]
      have a2 : s.ns[x.to.toNat]? = some true := by
        have hh := List.getElem?_eq_getElem (l := s.ns) (i := x.to.toNat) (by rw [hs.nl]; omega)
        rw [hh, hn _ _ hh]
      rw [a1, a2] at this
      cases b
      · exact absurd rfl this
      · rfl
    unfold knownB
    rw [Bool.and_eq_true]
    simp only [Bool.not_eq_true', List.contains_eq_mem, decide_eq_false_iff_not]
    refine ⟨fun h => ?_, fun h => ?_⟩
    · obtain ⟨i, hi⟩ := List.getElem?_of_mem h
      cases hn i _ hi
    · obtain ⟨i, hi⟩ := List.getElem?_of_mem h
      cases he i _ hi
  · intro h
    rw [known_unk] at h
    refine List.eq_nil_iff_forall_not_mem.2 fun o ho => ?_
    have := unk_aft hs (poss_mem.1 ho)
    omega
def mkP (p : Gr) (f : Nat → Int) : Nat → Nat → Kn → List Opn
  | 0, _, _ => []
  | m + 1, i, k => if poss p k = [] then [] else (poss p k).getD (f i % (poss p k).length).toNat ⟨0, 0⟩ :: mkP p f m (i + 1) (aftK p k ((poss p k).getD (f i % (poss p k).length).toNat ⟨0, 0⟩))
theorem pick_mem {A : Type} {l : List A} (h : l ≠ []) (z : Int) (d : A) : l.getD (z % l.length).toNat d ∈ l := by
  have h0 : 0 < l.length := List.length_pos_iff.2 h
  have h1 := Int.emod_nonneg z (b := (l.length : Int)) (by omega)
  have h2 := Int.emod_lt_of_pos z (b := (l.length : Int)) (by omega)
  rw [List.getD_eq_getElem?_getD, List.getElem?_eq_getElem (by omega)]
  exact List.getElem_mem _
theorem mkP_valid {p : Gr} (hp : GV p) (f : Nat → Int) : ∀ (m i : Nat) (k : Kn), KnOk p k → unk k ≤ m → planE p k (mkP p f m i k) = 0
  | 0, i, k, hk, hu => by
    unfold mkP planE
    rw [if_pos (known_unk.2 (by omega))]
  | m + 1, i, k, hk, hu => by
    unfold mkP
    split
    · rename_i h
      unfold planE
      rw [if_pos ((poss_nil hp hk).1 h)]
    · rename_i h
      have h1 := poss_mem.1 (pick_mem h (f i) ⟨0, 0⟩)
      generalize (poss p k).getD (f i % (poss p k).length).toNat ⟨0, 0⟩ = o at *
      unfold planE
      rw [if_neg (Decidable.not_not.2 h1)]
      exact mkP_valid hp f m (i + 1) _ (aftK_ok hk o) (by have := unk_aft hk h1; omega)
theorem plan_len {p : Gr} : ∀ (l : List Opn) (k : Kn), KnOk p k → planE p k l = 0 → l.length ≤ unk k
  | [], k, hk, h => Nat.zero_le _
  | o :: l, k, hk, h => by
    unfold planE at h
    split at h
    · rename_i h1; exact absurd h h1
    · rename_i h1
      have hu := unk_aft hk (Decidable.not_not.1 h1)
      have := plan_len l _ (aftK_ok hk o) h
      simp only [List.length_cons]
      omega
end Go.Sj.Pln
end
section
namespace Go.Sj.Can
open Go.Sj Go.Sj.Sta
set_option maxRecDepth 8000
theorem cmpI_lt {x y : Int} : cmpI x y < 0 ↔ x < y := by
  unfold cmpI
  repeat' split
  all_goals omega
section
variable (N : Int → Int) (T : Int → Int → List Int)
variable {N T}
end
section
variable (N : Int → Int) (T : Int → Int → List Int) (n : Nat)
variable {N T n}
end
section
variable (N : Int → Int) (T : Int → Int → List Int) (n : Nat)
variable {N T n}
end
end Go.Sj.Can
end
section
namespace Go.Sj.Inc
open Go.Sj Go.Sj.Sta Go.Sj.Typ
set_option maxRecDepth 8000
theorem cmpL_pre_lt : ∀ (p : List Int) {k l : Int} (r s : List Int), k < l → Can.cmpL (p ++ k :: r) (p ++ l :: s) < 0
  | [], k, l, r, s, h => by
    show Can.cmpL (k :: r) (l :: s) < 0
    rw [Can.cmpL]
    have := Can.cmpI_lt.2 h
    rw [if_pos (by omega)]
    exact this
  | x :: p, k, l, r, s, h => by
    show Can.cmpL (x :: (p ++ k :: r)) (x :: (p ++ l :: s)) < 0
    rw [Can.cmpL, if_neg (by rw [Can.cmpI_zero.2 rfl]; decide)]
    exact cmpL_pre_lt p r s h
abbrev SrtM (l : List Mo) : Prop := l.Pairwise fun a b => cmpM a b < 0
theorem srtM_ext : ∀ {l l' : List Mo}, SrtM l → SrtM l' → (∀ x, x ∈ l ↔ x ∈ l') → l = l'
  | [], [], _, _, _ => rfl
  | [], b :: l', _, _, h => absurd ((h b).2 (List.mem_cons_self ..)) (by simp)
  | a :: l, [], _, _, h => absurd ((h a).1 (List.mem_cons_self ..)) (by simp)
  | a :: l, b :: l', h1, h2, h => by
    have h1' := List.pairwise_cons.1 h1
    have h2' := List.pairwise_cons.1 h2
    have hab : a = b := by
      rcases List.mem_cons.1 ((h a).1 (List.mem_cons_self ..)) with e | ha
      · exact e
      · rcases List.mem_cons.1 ((h b).2 (List.mem_cons_self ..)) with e | hb
        · exact e.symm
        · have k1 := h1'.1 b hb
          have k2 := h2'.1 a ha
          rw [cmpM_anti a b] at k2
          omega
    subst hab
    have self : ∀ x, cmpM x x < 0 → False := fun x hx => by rw [cmpM_self] at hx; omega
    congr 1
    refine srtM_ext h1'.2 h2'.2 fun x => ⟨fun hx => ?_, fun hx => ?_⟩
    · rcases List.mem_cons.1 ((h x).1 (List.mem_cons_of_mem _ hx)) with e | hb
      · subst e; exact (self x (h1'.1 x hx)).elim
      · exact hb
    · rcases List.mem_cons.1 ((h x).2 (List.mem_cons_of_mem _ hx)) with e | hb
      · subst e; exact (self x (h2'.1 x hx)).elim
      · exact hb
structure IsF (S : Sea) (i j : Nat) (x : Mo) : Prop where
  nl : x.1.length = S.p.nodes.length
  el : x.2.length = S.p.edges.length
  ns : ∀ u, i ≤ u → u < S.p.nodes.length → ∃ k : Nat, x.1[u]? = some (k : Int) ∧ k < S.g.nodes.length ∧ candN S (x.1.take u) k = true
  es : ∀ u, j ≤ u → u < S.p.edges.length → ∃ k : Nat, x.2[u]? = some (k : Int) ∧ k < S.g.edges.length ∧ candE S x.1 (x.2.take u) k = true
theorem snoc_take {l p : List Int} {k : Int} (h : l.take (p ++ [k]).length = p ++ [k]) : l.take p.length = p ∧ l[p.length]? = some k := by
  rw [List.length_append, List.length_singleton] at h
  have hl : p.length + 1 ≤ l.length := by
    have := congrArg List.length h
    simp at this
    omega
  rw [List.take_add_one] at h
  have h1 := List.append_inj_left h (by simp; omega)
  refine ⟨h1, ?_⟩
  rw [h1] at h
  have h2 := List.append_cancel_left h
  cases h3 : l[p.length]? with
  | none => rw [h3] at h2; cases h2
  | some z => rw [h3] at h2; simpa using h2
theorem find_mem {S : Sea} : ∀ (m : Nat) (ns es : List Int), m = remS S ns es → ns.length ≤ S.p.nodes.length → es.length ≤ S.p.edges.length → (ns.length < S.p.nodes.length → es = []) → ∀ x : Mo, x ∈ findL S m ns es ↔ (x.1.take ns.length = ns ∧ x.2.take es.length = es ∧ IsF S ns.length es.length x)
  | 0, ns, es, hm, hn, he, hne, x => by
    unfold remS at hm
    unfold findL
    rw [List.mem_singleton]
    constructor
    · rintro rfl
      exact ⟨List.take_length, List.take_length, ⟨by show ns.length = _; omega, by show es.length = _; omega, fun u h1 h2 => by omega, fun u h1 h2 => by omega⟩⟩
    · rintro ⟨h1, h2, h3⟩
      have h4 := h3.nl
      have h5 := h3.el
      rw [List.take_of_length_le (by omega)] at h1 h2
      exact Prod.ext h1 h2
  | m + 1, ns, es, hm, hn, he, hne, x => by
    unfold remS at hm
    unfold findL
    split
    · rename_i hlt
      have he0 := hne hlt
      subst he0
      rw [List.mem_flatMap]
      have ih := fun k : Nat => find_mem (S := S) m (ns ++ [(k : Int)]) [] (by unfold remS; simp only [List.length_append, List.length_cons, List.length_nil] at hm ⊢; omega) (by simp; omega) (Nat.zero_le _) (fun _ => rfl) x
      constructor
      · rintro ⟨k, hk, hx⟩
        split at hx
        · rename_i hc
          obtain ⟨h1, h2, h3⟩ := (ih k).1 hx
          obtain ⟨h4, h5⟩ := snoc_take h1
          refine ⟨h4, h2, ⟨h3.nl, h3.el, fun u hu1 hu2 => ?_, h3.es⟩⟩
          rcases Nat.lt_or_ge ns.length u with h | h
          · exact h3.ns u (by simp; omega) hu2
          · obtain rfl : u = ns.length := by omega
            exact ⟨k, h5, List.mem_range.1 hk, by rw [h4]; exact hc⟩
        · cases hx
      · rintro ⟨h1, h2, h3⟩
        obtain ⟨k, hk1, hk2, hk3⟩ := h3.ns ns.length (Nat.le_refl _) hlt
        rw [h1] at hk3
        refine ⟨k, List.mem_range.2 hk2, ?_⟩
        rw [if_pos hk3, ih k]
        exact ⟨take_snoc h1 hk1, h2, ⟨h3.nl, h3.el, fun u hu1 hu2 => h3.ns u (by simp at hu1; omega) hu2, h3.es⟩⟩
    · rename_i hlt
      rw [List.mem_flatMap]
      have hnl : ns.length = S.p.nodes.length := by omega
      have ih := fun k : Nat => find_mem (S := S) m ns (es ++ [(k : Int)]) (by unfold remS; simp only [List.length_append, List.length_cons, List.length_nil] at hm ⊢; omega) hn (by simp; omega) (fun h => absurd h hlt) x
      constructor
      · rintro ⟨k, hk, hx⟩
        split at hx
        · rename_i hc
          obtain ⟨h1, h2, h3⟩ := (ih k).1 hx
          obtain ⟨h4, h5⟩ := snoc_take h2
          have h6 : x.1 = ns := by rw [← h1, List.take_of_length_le (by rw [h3.nl]; omega)]
          refine ⟨h1, h4, ⟨h3.nl, h3.el, h3.ns, fun u hu1 hu2 => ?_⟩⟩
          rcases Nat.lt_or_ge es.length u with h | h
          · exact h3.es u (by simp; omega) hu2
          · obtain rfl : u = es.length := by omega
            exact ⟨k, h5, List.mem_range.1 hk, by rw [h4, h6]; exact hc⟩
        · cases hx
      · rintro ⟨h1, h2, h3⟩
        have h6 : x.1 = ns := by rw [← h1, List.take_of_length_le (by rw [h3.nl]; omega)]
        obtain ⟨k, hk1, hk2, hk3⟩ := h3.es es.length (Nat.le_refl _) (by omega)
        rw [h2, h6] at hk3
        refine ⟨k, List.mem_range.2 hk2, ?_⟩
        rw [if_pos hk3, ih k]
        exact ⟨h1, take_snoc h2 hk1, ⟨h3.nl, h3.el, h3.ns, fun u hu1 hu2 => h3.es u (by simp at hu1; omega) hu2⟩⟩
theorem mat_mem {S : Sea} {x : Mo} : x ∈ matL S ↔ IsF S 0 0 x := by
  unfold matL
  rw [find_mem (S := S) (S.p.nodes.length + S.p.edges.length) [] [] rfl (Nat.zero_le _) (Nat.zero_le _) (fun _ => rfl) x]
  exact ⟨fun h => h.2.2, fun h => ⟨rfl, rfl, h⟩⟩
theorem take_dec {l p : List Int} {k : Int} (h : l.take (p ++ [k]).length = p ++ [k]) : ∃ r, l = p ++ k :: r := by
  refine ⟨l.drop (p ++ [k]).length, ?_⟩
  have := List.take_append_drop (p ++ [k]).length l
  rw [h] at this
  simpa using this.symm
theorem cmpM_fst {a b : Mo} (h : Can.cmpL a.1 b.1 < 0) : cmpM a b < 0 := by
  unfold cmpM
  rw [if_pos (by omega)]
  exact h
theorem cmpM_snd {a b : Mo} (e : a.1 = b.1) (h : Can.cmpL a.2 b.2 < 0) : cmpM a b < 0 := by
  unfold cmpM
  rw [e, Can.cmpL_self, if_neg (by decide)]
  exact h
theorem find_srt {S : Sea} : ∀ (m : Nat) (ns es : List Int), m = remS S ns es → ns.length ≤ S.p.nodes.length → es.length ≤ S.p.edges.length → (ns.length < S.p.nodes.length → es = []) → SrtM (findL S m ns es)
  | 0, ns, es, _, _, _, _ => List.pairwise_singleton _ _
  | m + 1, ns, es, hm, hn, he, hne => by
    unfold remS at hm
    unfold findL
    split
    · rename_i hlt
      have he0 := hne hlt
      subst he0
      have hr : ∀ k : Nat, m = remS S (ns ++ [(k : Int)]) [] := fun k => by unfold remS; simp only [List.length_append, List.length_cons, List.length_nil] at hm ⊢; omega
      have hl : ∀ k : Nat, (ns ++ [(k : Int)]).length ≤ S.p.nodes.length := fun k => by simp; omega
      refine List.pairwise_flatMap.2 ⟨fun k _ => ?_, List.pairwise_lt_range.imp fun {k l} hkl x hx y hy => ?_⟩
      · split
        · exact find_srt m _ [] (hr k) (hl k) (Nat.zero_le _) (fun _ => rfl)
        · exact List.Pairwise.nil
      · split at hx
        · split at hy
          · obtain ⟨r, h1⟩ := take_dec ((find_mem m _ [] (hr k) (hl k) (Nat.zero_le _) (fun _ => rfl) x).1 hx).1
            obtain ⟨s, h2⟩ := take_dec ((find_mem m _ [] (hr l) (hl l) (Nat.zero_le _) (fun _ => rfl) y).1 hy).1
            refine cmpM_fst ?_
            rw [h1, h2]
            exact cmpL_pre_lt ns r s (by omega)
          · cases hy
        · cases hx
    · rename_i hlt
      have hr : ∀ k : Nat, m = remS S ns (es ++ [(k : Int)]) := fun k => by unfold remS; simp only [List.length_append, List.length_cons, List.length_nil] at hm ⊢; omega
      have hl : ∀ k : Nat, (es ++ [(k : Int)]).length ≤ S.p.edges.length := fun k => by simp; omega
      have hn' : ∀ k : Nat, ns.length < S.p.nodes.length → es ++ [(k : Int)] = [] := fun k h => absurd h hlt
      refine List.pairwise_flatMap.2 ⟨fun k _ => ?_, List.pairwise_lt_range.imp fun {k l} hkl x hx y hy => ?_⟩
      · split
        · exact find_srt m ns _ (hr k) hn (hl k) (hn' k)
        · exact List.Pairwise.nil
      · split at hx
        · split at hy
          · obtain ⟨a1, a2, a3⟩ := (find_mem m ns _ (hr k) hn (hl k) (hn' k) x).1 hx
            obtain ⟨b1, b2, b3⟩ := (find_mem m ns _ (hr l) hn (hl l) (hn' l) y).1 hy
            obtain ⟨r, h1⟩ := take_dec a2
            obtain ⟨s, h2⟩ := take_dec b2
            have e1 : x.1 = ns := by rw [← a1, List.take_of_length_le (by rw [a3.nl]; omega)]
            have e2 : y.1 = ns := by rw [← b1, List.take_of_length_le (by rw [b3.nl]; omega)]
            refine cmpM_snd (e1.trans e2.symm) ?_
            rw [h1, h2]
            exact cmpL_pre_lt es r s (by omega)
          · cases hy
        · cases hx
theorem mat_srt (S : Sea) : SrtM (matL S) := find_srt _ [] [] rfl (Nat.zero_le _) (Nat.zero_le _) (fun _ => rfl)
end Go.Sj.Inc
end
section
namespace Go.Sj.Pln
open Go.Sj Go.Sj.Sta Go.Sj.Typ Go.Sj.Inc
set_option maxRecDepth 8000
def cutL (b : List Bool) (l : List Int) : List Int := List.zipWith (fun b z => if b = true then z else -1) b l
def cutM (k : Kn) (m : Mo) : Mo := (cutL k.ns m.1, cutL k.es m.2)
theorem cut_get {b : List Bool} {l : List Int} {u : Nat} : (cutL b l)[u]? = (match b[u]?, l[u]? with
    | some c, some z => some (if c = true then z else -1)
    | _, _ => none) := by
  unfold cutL
  rw [List.getElem?_zipWith]
  cases b[u]? <;> cases l[u]? <;> rfl
theorem cut_len {b : List Bool} {l : List Int} (h : b.length = l.length) : (cutL b l).length = l.length := by
  unfold cutL
  rw [List.length_zipWith, h, Nat.min_self]
theorem cut_self {b : List Bool} {l : List Int} (h : b.length = l.length) (hu : ∀ u, u < l.length → b.getD u false = false → l[u]? = some (-1)) : cutL b l = l := by
  refine List.ext_getElem? fun u => ?_
  rw [cut_get]
  by_cases hl : u < l.length
  · have hb := List.getElem?_eq_getElem (l := b) (i := u) (by omega)
    have hx := List.getElem?_eq_getElem hl
    rw [hb, hx]
    cases hc : b[u] with
    | true => rfl
    | false =>
      have := hu u hl (by rw [List.getD_eq_getElem?_getD, hb, hc]; rfl)
      rw [hx] at this
      exact this.symm
  · rw [List.getElem?_eq_none (l := l) (by omega), List.getElem?_eq_none (l := b) (by omega)]
theorem cut_set {b : List Bool} {l : List Int} {i : Nat} {z : Int} (h : b.getD i false = false) : cutL b (l.set i z) = cutL b l := by
  refine List.ext_getElem? fun u => ?_
  rw [cut_get, cut_get, List.getElem?_set]
  by_cases e : i = u
  · subst e
    rw [if_pos rfl]
    by_cases hl : i < l.length
    · rw [if_pos hl, List.getElem?_eq_getElem hl]
      cases hb : b[i]? with
      | none => rfl
      | some c =>
        rw [List.getD_eq_getElem?_getD, hb] at h
        simp only [Option.getD_some] at h
        subst h
        rfl
    · rw [if_neg hl, List.getElem?_eq_none (l := l) (i := i) (by omega)]
  · rw [if_neg e]
theorem cut_more {b : List Bool} {l : List Int} {i : Nat} {z : Int} (hb : b.length = l.length) (h : l[i]? = some z) : cutL (b.set i true) l = (cutL b l).set i z := by
  refine List.ext_getElem? fun u => ?_
  obtain ⟨hl, _⟩ := List.getElem?_eq_some_iff.1 h
  rw [List.getElem?_set, cut_get, cut_get, List.getElem?_set, cut_len hb]
  by_cases e : i = u
  · subst e
    rw [if_pos rfl, if_pos rfl, if_pos (by omega), if_pos hl, h]
    rfl
  · rw [if_neg e, if_neg e]
theorem cut_mem {b : List Bool} {l : List Int} {i : Nat} {z : Int} (h0 : 0 ≤ z) (hi : b.getD i false = false) (h : l[i]? = some z) (hd : ∀ (u v : Nat) (y : Int), 0 ≤ y → l[u]? = some y → l[v]? = some y → u = v) : z ∉ cutL b l := fun hm => by
  obtain ⟨u, hu⟩ := List.getElem?_of_mem hm
  rw [cut_get] at hu
  cases hb : b[u]? with
  | none => rw [hb] at hu; cases hu
  | some c =>
    cases hx : l[u]? with
    | none => rw [hb, hx] at hu; cases hu
    | some y =>
      rw [hb, hx] at hu
      simp only [Option.some.injEq] at hu
      cases c with
      | false => simp at hu; omega
      | true =>
        simp only [if_true] at hu
        subst hu
        have := hd u i y h0 hx h
        subst this
        rw [List.getD_eq_getElem?_getD, hb] at hi
        cases hi
theorem rep_true {n u : Nat} (h : u < n) : (List.replicate n true).getD u false = true := by
  rw [List.getD_eq_getElem?_getD, List.getElem?_replicate, if_pos h]
  rfl
theorem end_cut {S : Sea} {x : Mo} (hx : Whole S x) {ns : List Bool} (hl : ns.length = S.p.nodes.length) {i n : Int} (hi : 0 ≤ i ∧ i < S.p.nodes.length) (h : x.1[i.toNat]? = some n) (e : List Int) :
    endM S (cutL ns x.1, e) i n = some (cutL (ns.set i.toNat true) x.1, e) := by
  have hb : ns.length = x.1.length := by rw [hl, hx.n.nl]
  obtain ⟨n', h1, h2, h3⟩ := hx.n.n1 i.toNat (by omega) (rep_true (by omega))
  rw [h] at h1
  simp only [Option.some.injEq] at h1
  have hc : (cutL ns x.1)[i.toNat]? = some (if ns.getD i.toNat false = true then n else -1) := by
    rw [cut_get, h, List.getD_eq_getElem?_getD, List.getElem?_eq_getElem (by omega)]
    rfl
  have hi2 := img_get (m := (cutL ns x.1, e)) (i := i) rfl hc
  rw [cut_more hb h]
  unfold endM
  cases hk : ns.getD i.toNat false with
  | true =>
    rw [hk, if_pos rfl] at hc
    have hi3 : imgN (cutL ns x.1, e) i = n := by rw [hi2, hk]; rfl
    rw [hi3, if_pos (by omega), if_pos rfl]
    congr 1
    refine Prod.ext ?_ rfl
    refine List.ext_getElem? fun u => ?_
    show (cutL ns x.1)[u]? = _
    rw [List.getElem?_set]
    by_cases e : i.toNat = u
    · subst e
      rw [if_pos rfl, if_pos (by rw [cut_len hb, hx.n.nl]; omega), hc]
    · rw [if_neg e]
  | false =>
    have hi3 : imgN (cutL ns x.1, e) i = -1 := by rw [hi2, hk]; rfl
    rw [hi3, if_neg (by omega), if_pos]
    unfold nodB
    rw [Bool.and_eq_true]
    constructor
    · unfold nodeAt
      rw [h1, Int.toNat_natCast]
      exact h3
    · cases hj : S.inj with
      | false => rfl
      | true =>
        rw [decide_eq_false (cut_mem (by omega) hk h (hx.n.inj hj))]
        rfl
theorem ext_cut {S : Sea} (hp : GV S.p) (hg : GV S.g) {k : Kn} (hk : KnOk S.p k) {o : Opn} (ho : opE S.p k o = 0) {x : Mo} (hx : Whole S x) : cutM (aftK S.p k o) x ∈ extM S (cutM k x) o := by
  unfold extM aftK
  rcases opE_zero ho with ⟨h1, h2, h3⟩ | ⟨h1, h2, h3⟩
  · rw [if_pos h1, if_pos h1]
    obtain ⟨n, g1, g2, g3⟩ := hx.n.n1 o.el.toNat (by omega) (rep_true (by omega))
    refine List.mem_filterMap.2 ⟨n, List.mem_range.2 g2, ?_⟩
    have := end_cut hx hk.nl h2 g1 (cutL k.es x.2)
    unfold endM at this
    have hi2 := img_get (m := (cutL k.ns x.1, cutL k.es x.2)) (i := o.el) (z := -1) rfl (by
      rw [cut_get, g1, List.getElem?_eq_getElem (by rw [hk.nl]; omega)]
      have h3 : k.ns.getD o.el.toNat false = false := h3
      rw [List.getD_eq_getElem?_getD, List.getElem?_eq_getElem (by rw [hk.nl]; omega)] at h3
      simp only [Option.getD_some] at h3
      rw [h3]
      rfl)
    rw [hi2, if_neg (by omega)] at this
    exact this
  · rw [if_neg (by omega), if_neg (by omega)]
    obtain ⟨n, g1, g2, g3, g4, g5⟩ := hx.e.e1 o.el.toNat (by omega) (rep_true (by omega))
    have e2 : ((o.el.toNat : Nat) : Int) = o.el := by omega
    rw [e2] at g3 g4 g5
    have hxe := edP_in hp h2
    have hb : k.es.length = x.2.length := by rw [hk.el, hx.e.el]
    refine List.mem_filterMap.2 ⟨n, List.mem_range.2 g2, ?_⟩
    unfold edgM
    rw [if_neg]
    · show ((endM S (cutL k.ns x.1, cutL k.es x.2) _ _).bind _) = _
      rw [end_cut hx hk.nl hxe.1 g4, Option.bind_some, end_cut hx (by rw [List.length_set]; exact hk.nl) hxe.2 g5, Option.map_some]
      congr 1
      refine Prod.ext rfl ?_
      exact (cut_more hb g1).symm
    · rintro (hh | ⟨hj, hh⟩)
      · exact hh g3
      · exact cut_mem (Int.natCast_nonneg n) (edgP_new h3) g1 (hx.e.inj hj) hh
theorem end_back {S : Sea} {ns : List Bool} {m m1 : Mo} {i n : Int} (hn : 0 ≤ n) (hi : i.toNat < m.1.length) (h : ∀ u, ns.getD u false = true → ∃ z, m.1[u]? = some z ∧ 0 ≤ z) (he : endM S m i n = some m1) :
    cutL ns m1.1 = cutL ns m.1 ∧ m1.2 = m.2 ∧ m1.1.length = m.1.length ∧ ∀ u, ns.getD u false = true → ∃ z, m1.1[u]? = some z ∧ 0 ≤ z := by
  unfold endM at he
  split at he
  · split at he
    · cases he; exact ⟨rfl, rfl, rfl, h⟩
    · cases he
  · rename_i h0
    split at he
    · cases he
      have hk : ns.getD i.toNat false = false := by
        cases hb : ns.getD i.toNat false with
        | false => rfl
        | true =>
          obtain ⟨z, h1, h2⟩ := h _ hb
          rw [img_get rfl h1] at h0
          omega
      refine ⟨cut_set hk, rfl, List.length_set .., fun u hu => ?_⟩
      obtain ⟨z, h1, h2⟩ := h u hu
      by_cases e : i.toNat = u
      · subst e; rw [hk] at hu; cases hu
      · exact ⟨z, by rw [List.getElem?_set_ne e]; exact h1, h2⟩
    · cases he
theorem ext_from {S : Sea} (hp : GV S.p) (hg : GV S.g) {k : Kn} (hk : KnOk S.p k) {m : Mo} (h : Par S k m) {o : Opn} (ho : opE S.p k o = 0) {m' : Mo} (hm : m' ∈ extM S m o) : cutM k m' = m := by
  have hs1 : cutL k.ns m.1 = m.1 := cut_self (by rw [hk.nl, h.n.nl]) fun u hu hb => h.n.n0 u (by rw [← h.n.nl]; exact hu) hb
  have hs2 : cutL k.es m.2 = m.2 := cut_self (by rw [hk.el, h.e.el]) fun u hu hb => h.e.e0 u (by rw [← h.e.el]; exact hu) hb
  have hz : ∀ u, k.ns.getD u false = true → ∃ z, m.1[u]? = some z ∧ 0 ≤ z := fun u hu => by
    have hl : u < S.p.nodes.length := by
      rw [List.getD_eq_getElem?_getD] at hu
      cases hb : k.ns[u]? with
      | none => rw [hb] at hu; cases hu
      | some c => have := (List.getElem?_eq_some_iff.1 hb).1; rw [hk.nl] at this; exact this
    obtain ⟨n, a, _⟩ := h.n.n1 u hl hu
    exact ⟨n, a, Int.natCast_nonneg n⟩
  unfold extM at hm
  unfold cutM
  rcases opE_zero ho with ⟨h1, h2, h3⟩ | ⟨h1, h2, h3⟩
  · rw [if_pos h1] at hm
    obtain ⟨n, hn, he⟩ := List.mem_filterMap.1 hm
    unfold nodM at he
    split at he
    · cases he
      exact Prod.ext ((cut_set h3).trans hs1) hs2
    · cases he
  · rw [if_neg (by omega)] at hm
    obtain ⟨n, hn, he⟩ := List.mem_filterMap.1 hm
    have hn := List.mem_range.1 hn
    have hx := edP_in hp h2
    have hy := edP_in hg (i := (n : Int)) (by omega)
    unfold edgM at he
    split at he
    · cases he
    · obtain ⟨m1, he1, he⟩ := Option.bind_eq_some_iff.1 he
      obtain ⟨m2, he2, he⟩ := Option.map_eq_some_iff.1 he
      subst he
      obtain ⟨a1, b1, c1, d1⟩ := end_back hy.1.1 (by rw [h.n.nl]; omega) hz he1
      obtain ⟨a2, b2, c2, d2⟩ := end_back hy.2.1 (by rw [c1, h.n.nl]; omega) d1 he2
      refine Prod.ext ?_ ?_
      · show cutL k.ns m2.1 = m.1
        rw [a2, a1, hs1]
      · show cutL k.es (m2.2.set o.el.toNat n) = m.2
        rw [cut_set (edgP_new h3), b2, b1, hs2]
theorem nodup_fm {f : Nat → Option Mo} (hf : ∀ a b x, f a = some x → f b = some x → a = b) : ∀ {l : List Nat}, l.Nodup → (l.filterMap f).Nodup
  | [], _ => .nil
  | a :: l, h => by
    have h' := List.nodup_cons.1 h
    rw [List.filterMap_cons]
    split
    · exact nodup_fm hf h'.2
    · rename_i x hx
      refine List.nodup_cons.2 ⟨fun hm => ?_, nodup_fm hf h'.2⟩
      obtain ⟨b, hb, hbx⟩ := List.mem_filterMap.1 hm
      have := hf a b x hx hbx
      subst this
      exact h'.1 hb
theorem ext_nodup {S : Sea} {k : Kn} {m : Mo} (h : Par S k m) {o : Opn} (ho : opE S.p k o = 0) : (extM S m o).Nodup := by
  unfold extM
  rcases opE_zero ho with ⟨h1, h2, h3⟩ | ⟨h1, h2, h3⟩
  · rw [if_pos h1]
    refine nodup_fm (fun a b x ha hb => ?_) List.nodup_range
    unfold nodM at ha hb
    split at ha
    · split at hb
      · cases ha
        have := congrArg (fun y => y[o.el.toNat]?) (congrArg Prod.fst (Option.some.inj hb))
        simp only [List.getElem?_set_self (show o.el.toNat < m.1.length by rw [h.n.nl]; omega), Option.some.injEq] at this
        omega
      · cases hb
    · cases ha
  · rw [if_neg (by omega)]
    have key : ∀ a x, edgM S m o.el a = some x → x.2[o.el.toNat]? = some (a : Int) := fun a x ha => by
      unfold edgM at ha
      split at ha
      · cases ha
      · obtain ⟨m1, he1, ha⟩ := Option.bind_eq_some_iff.1 ha
        obtain ⟨m2, he2, ha⟩ := Option.map_eq_some_iff.1 ha
        subst ha
        have snd : ∀ {m m1 : Mo} {i n : Int}, endM S m i n = some m1 → m1.2 = m.2 := fun he => by
          unfold endM at he
          split at he
          · split at he
            · cases he; rfl
            · cases he
          · split at he
            · cases he; rfl
            · cases he
        show (m2.2.set o.el.toNat (a : Int))[o.el.toNat]? = _
        rw [List.getElem?_set_self (by rw [snd he2, snd he1, h.e.el]; omega)]
    refine nodup_fm (fun a b x ha hb => ?_) List.nodup_range
    have h5 := key a x ha
    rw [key b x hb] at h5
    simp only [Option.some.injEq] at h5
    omega
structure All (S : Sea) (k : Kn) (now : List Mo) : Prop where
  par : ∀ m ∈ now, Par S k m
  nd : now.Nodup
  mem : ∀ x, Whole S x → cutM k x ∈ now
theorem nodup_flat {A B : Type} {f : A → List B} : ∀ {l : List A}, l.Nodup → (∀ a ∈ l, (f a).Nodup) → (∀ a ∈ l, ∀ b ∈ l, ∀ x, x ∈ f a → x ∈ f b → a = b) → (l.flatMap f).Nodup
  | [], _, _, _ => .nil
  | a :: l, h, h1, h2 => by
    have h' := List.nodup_cons.1 h
    rw [List.flatMap_cons]
    refine List.nodup_append.2 ⟨h1 a (by simp), nodup_flat h'.2 (fun b hb => h1 b (by simp [hb])) (fun b hb c hc => h2 b (by simp [hb]) c (by simp [hc])), fun x hx y hy hxy => ?_⟩
    subst hxy
    obtain ⟨b, hb, hy⟩ := List.mem_flatMap.1 hy
    have := h2 a (by simp) b (by simp [hb]) x hx hy
    subst this
    exact h'.1 hb
theorem all_next {S : Sea} (hp : GV S.p) (hg : GV S.g) {k : Kn} (hk : KnOk S.p k) {now : List Mo} (h : All S k now) {o : Opn} (ho : opE S.p k o = 0) : All S (aftK S.p k o) (now.flatMap fun m => extM S m o) := by
  refine ⟨fun m' hm => ?_, ?_, fun x hx => ?_⟩
  · obtain ⟨m, h1, h2⟩ := List.mem_flatMap.1 hm
    exact ext_par hp hg hk (h.par m h1) ho h2
  · refine nodup_flat h.nd (fun m hm => ext_nodup (h.par m hm) ho) fun a ha b hb x hxa hxb => ?_
    rw [← ext_from hp hg hk (h.par a ha) ho hxa, ext_from hp hg hk (h.par b hb) ho hxb]
  · exact List.mem_flatMap.2 ⟨_, h.mem x hx, ext_cut hp hg hk ho hx⟩
theorem cut_none {n : Nat} {l : List Int} (h : l.length = n) : cutL (List.replicate n false) l = noneL n := by
  subst h
  refine List.ext_getElem? fun u => ?_
  rw [cut_get]
  unfold noneL
  rw [List.getElem?_replicate, List.getElem?_replicate]
  by_cases hu : u < l.length
  · rw [if_pos hu, if_pos hu, List.getElem?_eq_getElem hu]; rfl
  · rw [if_neg hu, if_neg hu]
theorem all_0 (S : Sea) : All S (kn0 S.p) [noMo S.p] := by
  refine ⟨fun m hm => ?_, by simp, fun x hx => ?_⟩
  · rw [List.mem_singleton] at hm
    subst hm
    exact par_0 S
  · rw [List.mem_singleton]
    exact Prod.ext (cut_none hx.n.nl) (cut_none hx.e.el)
theorem all_true {l : List Bool} {n : Nat} (hl : l.length = n) (h : ∀ b ∈ l, b = true) : l = List.replicate n true := by
  subst hl
  exact List.eq_replicate_iff.2 ⟨rfl, h⟩
theorem known_rep {p : Gr} {k : Kn} (hk : KnOk p k) (h : knownB k = true) : k.ns = List.replicate p.nodes.length true ∧ k.es = List.replicate p.edges.length true := by
  obtain ⟨h1, h2⟩ := known_all h
  exact ⟨all_true hk.nl h1, all_true hk.el h2⟩
theorem all_end {S : Sea} {k : Kn} (hk : KnOk S.p k) (hkn : knownB k = true) {now : List Mo} (h : All S k now) (x : Mo) : x ∈ now ↔ Whole S x := by
  obtain ⟨h1, h2⟩ := known_rep hk hkn
  constructor
  · intro hx
    have := h.par x hx
    exact ⟨by rw [← h1]; exact this.n, by rw [← h2]; exact this.e⟩
  · intro hx
    have := h.mem x hx
    have e : cutM k x = x := Prod.ext (by
      show cutL k.ns x.1 = x.1
      refine cut_self (by rw [hk.nl, hx.n.nl]) fun u hu hb => ?_
      rw [h1, rep_true (by rw [← hx.n.nl]; exact hu)] at hb
      cases hb) (by
      show cutL k.es x.2 = x.2
      refine cut_self (by rw [hk.el, hx.e.el]) fun u hu hb => ?_
      rw [h2, rep_true (by rw [← hx.e.el]; exact hu)] at hb
      cases hb)
    rw [e] at this
    exact this
theorem run_all {S : Sea} (hp : GV S.p) (hg : GV S.g) : ∀ (l : List Opn) (k : Kn) (now : List Mo), KnOk S.p k → All S k now → planE S.p k l = 0 → ∀ r, runM (extM S) now l = some r →
    r.1.Nodup ∧ (∀ x, x ∈ r.1 ↔ Whole S x) ∧ r.2.length = l.length ∧ (l ≠ [] → r.2.getLast? = some (r.1.length : Int)) ∧ (l ≠ [] → r.1.length ≤ 5000)
  | [], k, now, hk, ha, hl, r, hr => by
    unfold planE at hl
    unfold runM at hr
    cases hr
    split at hl
    · rename_i h1
      exact ⟨ha.nd, all_end hk h1 ha, rfl, fun h => absurd rfl h, fun h => absurd rfl h⟩
    · cases hl
  | o :: l, k, now, hk, ha, hl, r, hr => by
    unfold planE at hl
    split at hl
    · rename_i h1; exact absurd hl h1
    · rename_i h1
      have h1 := Decidable.not_not.1 h1
      unfold runM at hr
      split at hr
      · cases hr
      · rename_i hle
        obtain ⟨r', hr', he⟩ := Option.map_eq_some_iff.1 hr
        have ih := run_all hp hg l _ _ (aftK_ok hk o) (all_next hp hg hk ha h1) hl r' hr'
        subst he
        refine ⟨ih.1, ih.2.1, by simp [ih.2.2.1], fun _ => ?_, fun _ => ?_⟩
        · cases l with
          | nil => unfold runM at hr'; cases hr'; rfl
          | cons o' l =>
            have := ih.2.2.2.1 (by simp)
            show ((_ :: r'.2).getLast?) = _
            rw [List.getLast?_cons, this]
            rfl
        · cases l with
          | nil => unfold runM at hr'; cases hr'; show (now.flatMap _).length ≤ 5000; omega
          | cons o' l => exact ih.2.2.2.2 (by simp)
def setI (S : Sea) (b : Bool) : Sea := { S with inj := b }
theorem end_sub {S : Sea} {m m1 : Mo} {i n : Int} (h : endM (setI S true) m i n = some m1) : endM (setI S false) m i n = some m1 := by
  unfold endM at h ⊢
  split at h
  · rename_i h0; rw [if_pos h0]; exact h
  · rename_i h0
    rw [if_neg h0]
    split at h
    · rename_i h1
      rw [if_pos]
      · exact h
      · unfold nodB at h1 ⊢
        rw [Bool.and_eq_true] at h1 ⊢
        exact ⟨h1.1, rfl⟩
    · cases h
theorem fm_sub {A B : Type} {f g : A → Option B} (h : ∀ a x, f a = some x → g a = some x) : ∀ l : List A, List.Sublist (l.filterMap f) (l.filterMap g)
  | [] => List.Sublist.refl _
  | a :: l => by
    rw [List.filterMap_cons, List.filterMap_cons]
    cases hf : f a with
    | none =>
      cases g a with
      | none => exact fm_sub h l
      | some y => exact (fm_sub h l).cons _
    | some x =>
      rw [h a x hf]
      exact (fm_sub h l).cons_cons _
theorem ext_sub {S : Sea} (m : Mo) (o : Opn) : List.Sublist (extM (setI S true) m o) (extM (setI S false) m o) := by
  unfold extM
  split
  · refine fm_sub (fun n x h => ?_) _
    unfold nodM at h ⊢
    split at h
    · rename_i h1
      rw [if_pos]
      · exact h
      · unfold nodB at h1 ⊢
        rw [Bool.and_eq_true] at h1 ⊢
        exact ⟨h1.1, rfl⟩
    · cases h
  · refine fm_sub (fun n x h => ?_) _
    unfold edgM at h ⊢
    split at h
    · cases h
    · rename_i h1
      rw [if_neg (fun hh => h1 (hh.elim .inl fun h2 => Bool.noConfusion (show (false : Bool) = true from h2.1)))]
      obtain ⟨m1, e1, h⟩ := Option.bind_eq_some_iff.1 h
      obtain ⟨m2, e2, h⟩ := Option.map_eq_some_iff.1 h
      have e1 := end_sub e1
      have e2 := end_sub e2
      show ((endM (setI S false) m _ _).bind _) = _
      rw [show endM (setI S false) m (edP (setI S false).p o.el).fr (edP (setI S false).g n).fr = some m1 from e1, Option.bind_some, show endM (setI S false) m1 (edP (setI S false).p o.el).to (edP (setI S false).g n).to = some m2 from e2, Option.map_some, h]
theorem flat_sub {A B : Type} {f g : A → List B} (h : ∀ a, List.Sublist (f a) (g a)) : ∀ {l l' : List A}, List.Sublist l l' → List.Sublist (l.flatMap f) (l'.flatMap g)
  | _, _, .slnil => List.Sublist.refl _
  | _, _, .cons a k => by
    rw [List.flatMap_cons]
    exact (flat_sub h k).trans (List.sublist_append_right _ _)
  | _, _, .cons_cons a k => by
    rw [List.flatMap_cons, List.flatMap_cons]
    exact (h a).append (flat_sub h k)
theorem run_sub {S : Sea} : ∀ (l : List Opn) (a b : List Mo), List.Sublist a b → ∀ r, runM (extM (setI S false)) b l = some r → ∃ r', runM (extM (setI S true)) a l = some r' ∧ r'.2.length = r.2.length ∧ ∀ (i : Nat) (x y : Int), r'.2[i]? = some x → r.2[i]? = some y → x ≤ y
  | [], a, b, h, r, hr => by
    unfold runM at hr
    cases hr
    exact ⟨(a, []), rfl, rfl, fun i x y hx => by cases hx⟩
  | o :: l, a, b, h, r, hr => by
    unfold runM at hr
    split at hr
    · cases hr
    · rename_i hle
      obtain ⟨r1, hr1, he⟩ := Option.map_eq_some_iff.1 hr
      have hs := flat_sub (fun m => ext_sub (S := S) m o) h
      have hl := hs.length_le
      obtain ⟨r2, g1, g2, g3⟩ := run_sub l _ _ hs r1 hr1
      subst he
      refine ⟨(r2.1, ((a.flatMap fun m => extM (setI S true) m o).length : Int) :: r2.2), ?_, ?_, fun i x y hx hy => ?_⟩
      · unfold runM
        rw [if_neg (by omega), g1]
        rfl
      · simp [g2]
      · cases i with
        | zero => cases hx; cases hy; omega
        | succ i => exact g3 i x y hx hy
end Go.Sj.Pln
end
section
namespace Go.Sj.Pln
open Go.Sj Go.Sj.Sta Go.Sj.Typ Go.Sj.Inc
set_option maxRecDepth 8000
theorem off_0 (i k : Nat) : offN none i k = false := rfl
theorem whole_isF {S : Sea} (hn : S.pn = none) (he : S.pe = none) (hp : GV S.p) {x : Mo} : Whole S x ↔ IsF S 0 0 x := by
  constructor
  · intro h
    refine ⟨h.n.nl, h.e.el, fun u _ hu => ?_, fun u _ hu => ?_⟩
    · obtain ⟨n, h1, h2, h3⟩ := h.n.n1 u hu (rep_true hu)
      refine ⟨n, h1, h2, ?_⟩
      have hl : (x.1.take u).length = u := by rw [List.length_take, h.n.nl]; omega
      unfold candN
      rw [hn, off_0, hl, h3]
      cases hj : S.inj with
      | false => rfl
      | true =>
        rw [decide_eq_false]
        · rfl
        · intro hm
          obtain ⟨v, hv⟩ := List.getElem?_of_mem hm
          have hv2 := (List.getElem?_eq_some_iff.1 hv).1
          rw [List.getElem?_take, if_pos (by omega)] at hv
          have := h.n.inj hj u v n (Int.natCast_nonneg n) h1 hv
          omega
    · obtain ⟨n, h1, h2, h3, h4, h5⟩ := h.e.e1 u hu (rep_true hu)
      refine ⟨n, h1, h2, ?_⟩
      have hl : (x.2.take u).length = u := by rw [List.length_take, h.e.el]; omega
      rw [edP_get hu, edP_get h2] at h3
      rw [edP_get hu] at h4 h5
      rw [edP_get h2] at h4 h5
      unfold candE fitB eqE
      rw [he, off_0, hl, List.getElem?_eq_getElem hu, List.getElem?_eq_getElem h2]
      simp only [List.getD_eq_getElem?_getD, h4, h5, Option.getD_some, decide_true, Bool.and_true, h3]
      cases hj : S.inj with
      | false => rfl
      | true =>
        rw [decide_eq_false]
        · rfl
        · intro hm
          obtain ⟨v, hv⟩ := List.getElem?_of_mem hm
          have hv2 := (List.getElem?_eq_some_iff.1 hv).1
          rw [List.getElem?_take, if_pos (by omega)] at hv
          have := h.e.inj hj u v n (Int.natCast_nonneg n) h1 hv
          omega
  · intro h
    have dist : ∀ {l : List Int}, (∀ (u : Nat) (z : Int), l[u]? = some z → z ∉ l.take u) → ∀ (u v : Nat) (z : Int), l[u]? = some z → l[v]? = some z → u = v := fun {l} hd u v z h1 h2 => by
      have hu := (List.getElem?_eq_some_iff.1 h1).1
      have hv := (List.getElem?_eq_some_iff.1 h2).1
      rcases Nat.lt_trichotomy u v with e | e | e
      · exact absurd (List.mem_of_getElem? (by rw [List.getElem?_take, if_pos e]; exact h1)) (hd v z h2)
      · exact e
      · exact absurd (List.mem_of_getElem? (by rw [List.getElem?_take, if_pos e]; exact h2)) (hd u z h1)
    constructor
    · refine ⟨h.nl, fun u hu _ => ?_, fun u hu hf => ?_, fun hj u v z _ h1 h2 => dist (fun u z hu => ?_) u v z h1 h2⟩
      · obtain ⟨k, h1, h2, h3⟩ := h.ns u (Nat.zero_le _) hu
        have hl : (x.1.take u).length = u := by rw [List.length_take, h.nl]; omega
        unfold candN at h3
        rw [hl, Bool.and_eq_true, Bool.and_eq_true] at h3
        exact ⟨k, h1, h2, h3.2.1⟩
      · rw [rep_true hu] at hf; cases hf
      · have hul := (List.getElem?_eq_some_iff.1 hu).1
        obtain ⟨k, h1, h2, h3⟩ := h.ns u (Nat.zero_le _) (by rw [← h.nl]; exact hul)
        rw [hu] at h1
        cases h1
        unfold candN at h3
        rw [Bool.and_eq_true, Bool.and_eq_true, hj] at h3
        simpa using h3.2.2
    · refine ⟨h.el, fun u hu _ => ?_, fun u hu hf => ?_, fun hj u v z _ h1 h2 => dist (fun u z hu => ?_) u v z h1 h2⟩
      · obtain ⟨k, h1, h2, h3⟩ := h.es u (Nat.zero_le _) hu
        have hl : (x.2.take u).length = u := by rw [List.length_take, h.el]; omega
        have hin := (hp.edges _ (List.getElem_mem hu)).2
        unfold candE fitB eqE at h3
        rw [hl, List.getElem?_eq_getElem hu, List.getElem?_eq_getElem h2] at h3
        simp only [Bool.and_eq_true, decide_eq_true_eq] at h3
        obtain ⟨⟨_, g1, g2, g3⟩, _⟩ := h3
        refine ⟨k, h1, h2, ?_, ?_, ?_⟩
        · rw [edP_get hu, edP_get h2]; exact g1
        · rw [edP_get hu, edP_get h2, g2, List.getD_eq_getElem?_getD, List.getElem?_eq_getElem (by rw [h.nl]; omega)]; rfl
        · rw [edP_get hu, edP_get h2, g3, List.getD_eq_getElem?_getD, List.getElem?_eq_getElem (by rw [h.nl]; omega)]; rfl
      · rw [rep_true hu] at hf; cases hf
      · have hul := (List.getElem?_eq_some_iff.1 hu).1
        obtain ⟨k, h1, h2, h3⟩ := h.es u (Nat.zero_le _) (by rw [← h.el]; exact hul)
        rw [hu] at h1
        cases h1
        unfold candE at h3
        rw [Bool.and_eq_true, hj] at h3
        simpa using h3.2
theorem perm_len {l l' : List Mo} (h : l.Nodup) (h' : l'.Nodup) (hm : ∀ x, x ∈ l ↔ x ∈ l') : l.length = l'.length := by
  have h1 : ∀ {a b : List Mo}, a.Nodup → (∀ x ∈ a, x ∈ b) → a.length ≤ b.length := by
    intro a
    induction a with
    | nil => exact fun _ _ => Nat.zero_le _
    | cons x a ih =>
      intro b ha hb
      have ha' := List.nodup_cons.1 ha
      have hx := hb x (by simp)
      have := ih (b := b.erase x) ha'.2 fun y hy => (List.mem_erase_of_ne (fun e => ha'.1 (by rw [← e]; exact hy))).2 (hb y (by simp [hy]))
      rw [List.length_erase_of_mem hx] at this
      have := List.length_pos_of_mem hx
      simp only [List.length_cons]
      omega
  exact Nat.le_antisymm (h1 h fun x hx => (hm x).1 hx) (h1 h' fun x hx => (hm x).2 hx)
theorem srtM_nodup {l : List Mo} (h : SrtM l) : l.Nodup := h.imp fun {a b} hab e => by
  rw [e, cmpM_self] at hab
  exact absurd hab (by decide)
theorem run_mat {S : Sea} (hn : S.pn = none) (he : S.pe = none) (hp : GV S.p) (hg : GV S.g) {l : List Opn} (hl : planE S.p (kn0 S.p) l = 0) {r : List Mo × List Int} (hr : runM (extM S) [noMo S.p] l = some r) :
    r.1.Nodup ∧ (∀ x, x ∈ r.1 ↔ x ∈ matL S) ∧ r.1.length = (matL S).length ∧ (matL S).length ≤ 5000 ∧ r.2.length = l.length ∧ (l ≠ [] → r.2.getLast? = some (r.1.length : Int)) := by
  obtain ⟨a, b, c, d, e⟩ := run_all hp hg l _ _ (kn0_ok _) (all_0 S) hl r hr
  have hm : ∀ x, x ∈ r.1 ↔ x ∈ matL S := fun x => by rw [b, mat_mem, whole_isF hn he hp]
  have hlen := perm_len a (srtM_nodup (mat_srt S)) hm
  refine ⟨a, hm, hlen, ?_, c, d⟩
  cases l with
  | nil =>
    unfold runM at hr
    cases hr
    rw [← hlen]
    show 1 ≤ 5000
    omega
  | cons o l => rw [← hlen]; exact e (by simp)
theorem cost_up {t : Tys} {s : Sta} (h : SV t s) {p : Gr} : ∀ (l : List Opn) (k : Kn) (n c : Int), 0 ≤ n → c ≤ 1000000000 → c ≤ costS t s p k n c l
  | [], k, n, c, _, _ => Int.le_refl _
  | o :: l, k, n, c, hn, hc => by
    have h1 := est_nn h (p := p) (k := k) (o := o) hn
    have h2 := capC_up hc h1.1
    exact Int.le_trans h2.1 (cost_up h l _ _ _ h1.1 h2.2)
theorem first_node {p : Gr} {o : Opn} (h : opE p (kn0 p) o = 0) : o.kind = 1 ∧ 0 ≤ o.el ∧ o.el < p.nodes.length := by
  rcases opE_zero h with ⟨h1, h2, _⟩ | ⟨h1, h2, h3⟩
  · exact ⟨h1, h2⟩
  · unfold edgP nodK kn0 at h3
    simp only [rep_false] at h3
    rw [Bool.and_eq_true] at h3
    have := h3.2
    split at this <;> cases this
theorem range_filter_len {A : Type} (q : A → Bool) (d : A) : ∀ (l : List A), ((List.range l.length).filterMap fun n => if q (l.getD n d) = true then some n else none).length = (l.filter q).length := by
  intro l
  have h1 : (l.filter q).length = (((List.range l.length).map fun n => l.getD n d).filter q).length := by
    congr 2
    refine List.ext_getElem? fun j => ?_
    rw [List.getElem?_map]
    by_cases hj : j < l.length
    · rw [List.getElem?_range hj, List.getElem?_eq_getElem hj]
      simp [List.getD_eq_getElem?_getD, List.getElem?_eq_getElem hj]
    · rw [List.getElem?_eq_none (by omega), List.getElem?_eq_none (by simp; omega)]
      rfl
  rw [h1]
  generalize List.range l.length = r
  induction r with
  | nil => rfl
  | cons n r ih =>
    rw [List.filterMap_cons, List.map_cons, List.filter_cons]
    split
    · rename_i h
      split at h
      · cases h
      · rename_i h2; rw [if_neg h2]; exact ih
    · rename_i h
      split at h
      · rename_i h2; rw [if_pos h2, List.length_cons, List.length_cons, ih]
      · cases h
theorem first_count {t : Tys} {p g : Gr} (ht : TV t g) (hp : GV p) (htp : typT t p = true) {o : Opn} (h : opE p (kn0 p) o = 0) :
    ((extM (seaA t p g false) (noMo p) o).length : Int) = numN t (ofS g) p o.el ∧ estK t (ofS g) p (kn0 p) 1 o = numN t (ofS g) p o.el := by
  obtain ⟨h1, h2, h3⟩ := first_node h
  have hk : 0 ≤ nodeAt p o.el ∧ nodeAt p o.el < t.nodes.length := by
    have hm := nodeAt_mem h2 h3
    refine ⟨(hp.nodes _ hm).1, ?_⟩
    unfold typT at htp
    rw [Bool.and_eq_true] at htp
    have := htp.1
    simp only [Bool.not_eq_true', List.any_eq_false, decide_eq_true_eq] at this
    have := this _ hm
    omega
  have hn := numN_nn (ofS_valid ht) p o.el
  have hN : numN t (ofS g) p o.el = cU t.nodes g.nodes (nodeAt p o.el) := by
    have := nodes_ofS ht hk
    unfold nodesR at this
    rw [if_neg (Decidable.not_not.2 (sValid_zero.2 (ofS_valid ht))), if_neg (Decidable.not_not.2 hk)] at this
    exact congrArg Prod.fst this
  constructor
  · rw [hN]
    unfold extM cU
    rw [if_pos h1, ← range_filter_len (fun v => decide (nodeAt p o.el ∈ up t.nodes v)) 0 g.nodes]
    congr 1
    have key : ∀ r : List Nat, (r.filterMap (nodM (seaA t p g false) (noMo p) o.el)).length = (r.filterMap fun n => if decide (nodeAt p o.el ∈ up t.nodes (g.nodes.getD n 0)) = true then some n else none).length := fun r => by
      induction r with
      | nil => rfl
      | cons n r ih =>
        have e : nodB (seaA t p g false) (noMo p) o.el n = decide (nodeAt p o.el ∈ up t.nodes (g.nodes.getD n 0)) := by
          show (okT t (nodeAt p o.el) (nodeAt g n) && true) = _
          rw [Bool.and_true]
          unfold okT
          rw [show nodeAt g n = g.nodes.getD n 0 by unfold nodeAt; rw [Int.toNat_natCast]]
        rw [List.filterMap_cons, List.filterMap_cons]
        unfold nodM
        rw [e]
        split
        · rename_i hq; split at hq
          · cases hq
          · rename_i h5; rw [if_neg h5]; exact ih
        · rename_i hq; split at hq
          · rename_i h5; rw [if_pos h5]; exact congrArg (· + 1) ih
          · cases hq
    exact key _
  · unfold estK
    rw [if_pos h1, Int.one_mul]
    unfold capC
    omega
theorem exact_cost {t : Tys} {p g : Gr} (ht : TV t g) (hp : GV p) (htp : typT t p = true) {o : Opn} {l : List Opn} (hl : planE p (kn0 p) (o :: l) = 0) {r : List Mo × List Int} (hr : runM (extM (seaA t p g false)) [noMo p] (o :: l) = some r) :
    ∃ z, r.2[0]? = some z ∧ z ≤ costL t (ofS g) p (o :: l) ∧ (l = [] → costL t (ofS g) p (o :: l) = z) := by
  unfold planE at hl
  split at hl
  · rename_i h1; exact absurd hl h1
  · rename_i h1
    have h1 := Decidable.not_not.1 h1
    obtain ⟨a, b⟩ := first_count ht hp htp h1
    have hs := ofS_valid ht
    have hn := numN_nn hs p o.el
    unfold runM at hr
    split at hr
    · cases hr
    · obtain ⟨r1, hr1, he⟩ := Option.map_eq_some_iff.1 hr
      subst he
      refine ⟨_, rfl, ?_⟩
      rw [List.flatMap_cons, List.flatMap_nil, List.append_nil, a]
      have hc : capC (0 + numN t (ofS g) p o.el) = numN t (ofS g) p o.el := by unfold capC; omega
      unfold costL
      rw [costS, b, hc]
      refine ⟨cost_up hs _ _ _ _ hn.1 (by omega), fun e => ?_⟩
      subst e
      rfl
end Go.Sj.Pln
end
section
namespace Go.Proofs.YtimfponihbfimaaGreat
open Go.Sj Go.Sj.Typ Go.Sj.Sta Go.Sj.Inc
set_option maxRecDepth 8000
set_option maxHeartbeats 16000000
abbrev LeM (l : List Mo) : Prop := l.Pairwise fun a b => cmpM a b ≤ 0
theorem srtL_le (l : List Mo) : LeM (srtL l) := by
  have h := Sort.sort_sorts ltM swo_ltM l.toArray
  unfold srtL
  rw [LeM, List.pairwise_iff_getElem]
  intro i j hi hj hij
  have hs : (Sort.sort ltM l.toArray).size = l.toArray.size := h.1.1
  have hi' : i < (Sort.sort ltM l.toArray).size := by simpa using hi
  have hj' : j < (Sort.sort ltM l.toArray).size := by simpa using hj
  have := ltM_f.1 (h.2 i j (Nat.zero_le _) hij (by omega))
  rw [get_pos _ hi', get_pos _ hj', cmpM_anti] at this
  simp only [Array.getElem_toList]
  omega
theorem le_srt {l : List Mo} (h : LeM l) (hn : l.Nodup) : SrtM l := by
  have := List.Pairwise.and h hn
  exact this.imp fun {a b} hab => by
    have : cmpM a b ≠ 0 := fun e => hab.2 (cmpM_eq e)
    omega
section
variable {t : Tys} {p g : Gr} {edge inj : Bool}
end
end Go.Proofs.YtimfponihbfimaaGreat
end
section
namespace Go.Sj.Pln
open Go.Sj Go.Sj.Sta Go.Sj.Typ Go.Sj.Inc
set_option maxRecDepth 8000
def PreE (p : Gr) : Kn → List Opn → Prop
  | _, [] => True
  | k, o :: l => opE p k o = 0 ∧ PreE p (aftK p k o) l
def endK (p : Gr) (k : Kn) (l : List Opn) : Kn := l.foldl (aftK p) k
theorem endK_ok {p : Gr} : ∀ {l : List Opn} {k : Kn}, KnOk p k → KnOk p (endK p k l)
  | [], k, h => h
  | o :: l, k, h => endK_ok (l := l) (aftK_ok h o)
theorem endK_snoc (p : Gr) (k : Kn) (l : List Opn) (o : Opn) : endK p k (l ++ [o]) = aftK p (endK p k l) o := by unfold endK; rw [List.foldl_append]; rfl
theorem preE_snoc {p : Gr} : ∀ {l : List Opn} {k : Kn} {o : Opn}, PreE p k l → opE p (endK p k l) o = 0 → PreE p k (l ++ [o])
  | [], k, o, _, h => ⟨h, trivial⟩
  | x :: l, k, o, h, ho => ⟨h.1, preE_snoc (l := l) h.2 ho⟩
theorem pre_at {p : Gr} {o : Opn} : ∀ {l : List Opn} {k : Kn} {j : Nat}, PreE p k l → l[j]? = some o → opE p (endK p k (l.take j)) o = 0
  | [], k, j, h, hx => by cases hx
  | x :: l, k, 0, h, hx => by cases hx; exact h.1
  | x :: l, k, j + 1, h, hx => pre_at (l := l) (j := j) h.2 hx
theorem end_take {p : Gr} {o : Opn} {l : List Opn} {k : Kn} {j : Nat} (hx : l[j]? = some o) : endK p k (l.take (j + 1)) = aftK p (endK p k (l.take j)) o := by
  rw [List.take_add_one, hx]
  exact endK_snoc p k (l.take j) o
def opsX (p : Gr) (k : Kn) (kind : Int) (n : Nat) : List Opn := ((List.range n).map fun i : Nat => (⟨kind, (i : Int)⟩ : Opn)).filter fun o => decide (opE p k o = 0)
theorem opsX_succ (p : Gr) (k : Kn) (kind : Int) (n : Nat) : opsX p k kind (n + 1) = opsX p k kind n ++ if opE p k ⟨kind, (n : Int)⟩ = 0 then [⟨kind, (n : Int)⟩] else [] := by
  unfold opsX
  rw [List.range_succ, List.map_append, List.filter_append]
  congr 1
  simp only [List.map_cons, List.map_nil, List.filter_cons, List.filter_nil, decide_eq_true_eq]
theorem opsX_len (p : Gr) (k : Kn) (kind : Int) (n : Nat) : (opsX p k kind n).length ≤ n := by
  unfold opsX
  exact Nat.le_trans (List.length_filter_le _ _) (by simp)
theorem opsX_more {p : Gr} {k : Kn} {kind : Int} {n m : Nat} (h : ∀ i : Nat, n ≤ i → opE p k ⟨kind, (i : Int)⟩ ≠ 0) (hm : n ≤ m) : opsX p k kind m = opsX p k kind n := by
  obtain ⟨d, rfl⟩ : ∃ d, m = n + d := ⟨m - n, by omega⟩
  induction d with
  | zero => rfl
  | succ d ih =>
    rw [← Nat.add_assoc, opsX_succ, if_neg (h _ (by omega)), List.append_nil]
    exact ih (by omega)
theorem poss_X (p : Gr) (k : Kn) (M : Nat) (h1 : p.nodes.length ≤ M) (h2 : p.edges.length ≤ M) : poss p k = opsX p k 1 M ++ opsX p k 2 M ++ opsX p k 3 M := by
  have e1 : opsX p k 1 M = opsX p k 1 p.nodes.length := opsX_more (fun i hi h => by
    rcases opE_zero h with ⟨_, a, _⟩ | ⟨a, _⟩
    · simp only at a; omega
    · simp only at a; omega) h1
  have e2 : ∀ kind : Int, kind = 2 ∨ kind = 3 → opsX p k kind M = opsX p k kind p.edges.length := fun kind hk => opsX_more (fun i hi h => by
    rcases opE_zero h with ⟨a, _⟩ | ⟨_, a, _⟩
    · simp only at a; omega
    · simp only at a; omega) h2
  rw [e1, e2 2 (.inl rfl), e2 3 (.inr rfl)]
  unfold poss opsL opsN opsE opsX
  rw [List.filter_append, List.filter_append]
theorem poss_len (p : Gr) (k : Kn) : (poss p k).length ≤ p.nodes.length + p.edges.length + p.edges.length := by
  unfold poss
  exact Nat.le_trans (List.length_filter_le _ _) (by simp [opsL, opsN, opsE]; omega)
end Go.Sj.Pln
end
section
namespace Go.Proofs.YtimfponihbfimaaGreat
open Go.Sj Go.Sj.Typ Go.Sj.Sta Go.Sj.Inc Go.Sj.Pln
set_option maxRecDepth 8000
set_option maxHeartbeats 16000000
def posK (p : Gr) (k : Kn) (M : Nat) : Nat → List Opn
  | 0 => []
  | 1 => opsX p k 1 M
  | 2 => opsX p k 1 M ++ opsX p k 2 M
  | _ => opsX p k 1 M ++ opsX p k 2 M ++ opsX p k 3 M
theorem posK_step (p : Gr) (k : Kn) (M d : Nat) (h : d < 3) : posK p k M (d + 1) = posK p k M d ++ opsX p k ((d : Int) + 1) M := by
  have : d = 0 ∨ d = 1 ∨ d = 2 := by omega
  rcases this with rfl | rfl | rfl
  · rfl
  · rfl
  · rfl
theorem posK_len (p : Gr) (k : Kn) (M d : Nat) (h : d ≤ 3) : (posK p k M d).length ≤ d * M := by
  have h1 := opsX_len p k 1 M
  have h2 := opsX_len p k 2 M
  have h3 := opsX_len p k 3 M
  have : d = 0 ∨ d = 1 ∨ d = 2 ∨ d = 3 := by omega
  rcases this with rfl | rfl | rfl | rfl
  · simp [posK]
  · simp [posK]; omega
  · simp [posK]; omega
  · simp [posK]; omega
theorem gPossible_spec (p : Gr) (hp : GV p) (l : List Opn) (hl : l.length ≤ 1000) (hpl : PreE p (kn0 p) l) : Gives Tryz.prog 57 [grA p, opsA l] 41 2 ((poss p (endK p (kn0 p) l)).map cOp) := by
  have hnl := hp.nl
  have hel := hp.el
  have su := gfresh_spec p (by omega) (by omega)
  have ss := fun s hs o => gpossible_spec p hp s hs o
  have sf := fun s hs o ho => gafter_spec p hp s hs o ho
  have ll : (l.map cOp).length = l.length := by simp
  have lpn : (rowI p.nodes).length = p.nodes.length := by simp
  have lpe : (p.edges.map cEd).length = p.edges.length := by simp
  obtain ⟨M, hM1, hM2, hM3⟩ : ∃ M : Nat, p.nodes.length ≤ M ∧ p.edges.length ≤ M ∧ (M = p.nodes.length ∨ M = p.edges.length) := by
    rcases Nat.le_total p.nodes.length p.edges.length with h | h
    · exact ⟨_, h, Nat.le_refl _, .inr rfl⟩
    · exact ⟨_, Nat.le_refl _, h, .inl rfl⟩
  rw [poss_X p _ M hM1 hM2]
  refine zen Tryz.func57 (by kernel_rfl) rfl Tryz.ntmps57 rfl (by simp) ?_; refine a_seq ?_; refine a_reg ?_; (repeat (first | refine gZ pk ?_ | (show AL _ _ _ _ _ _ _; first | refine jB (fun u => ?_)))); refine zfb 0 2 rfl rfl ?_
  repeat (first | refine gA pk ?_ | (show AL _ _ _ _ _ _ _; first | refine jP su ?_ | refine jL tok (fun us => ?_) | refine jS tok 0 ?_))
  refine a_loopG3 (fun (i : Nat) (_ : Unit) (_ : Unit) => [(1, opsA l), (2, grP p), (5, .pt us 0 0 0), (6, AI i)]) (fun i _ _ => [(us, .box [boolsA (endK p (kn0 p) (l.take i)).ns, boolsA (endK p (kn0 p) (l.take i)).es])]) (fun i _ _ => i ≤ l.length) (fun i _ _ => l.length - i) 0 () () (Nat.zero_le _) (.sub (by exact subQ) (OSub.refl _)) ?_
  rintro i _ _ hi
  have hks : KnOk p (endK p (kn0 p) (l.take i)) := endK_ok (kn0_ok p)
  rcases Nat.lt_or_ge i l.length with h | h
  · have h1 := List.getElem?_eq_getElem h
    generalize l[i] = o at h1
    have hop := pre_at hpl h1
    have het := end_take (p := p) (k := kn0 p) h1
    have xk : (l.map cOp)[(i : Int).toNat]? = some [AI o.kind, AI o.el] := zmp (f := cOp) h1
    have s2 := sf _ hks o hop
    rw [← het] at s2
    change Pure _ _ [_, _, .agg [AI o.kind, AI o.el]] _ at s2
    repeat (first | refine gN pk ?_)
    refine zrg ((List.range 8).map fun i => if inL [6, 7] i = true then .eff else if inL [0, 1, 4, 5] i = true then .read else .pure) [] [0, 1, 2, 3, 4, 5, 6, 7] .stop mixed rfl rfl (by decide +kernel) ?_
    repeat' (first | (with_reducible show AG _ _ _ _ _ _ _ _ _ _; first | exact zgn | refine zgs ?_ | refine znd ?_ ?_) | (show AMid _ _ _ _; first | refine zmf ?_ | refine zmg (by first | exact OSub.refl _ | exact .drop (OSub.refl _) | exact .drop (.drop (OSub.refl _))) ?_) | refine gY pk ?_ | (show AL _ _ _ _ _ _ _; first | refine jO tok 0 ?_ | refine jX tok xk ?_ | refine jP s2 ?_ | refine jS tok 0 ?_) | fail)
    repeat (first | refine gA pk ?_)
    exact ⟨i + 1, (), (), by omega, by omega, .sub (by exact subQ) (OSub.refl _)⟩
  · obtain rfl : i = l.length := by omega
    rw [List.take_length] at hks ⊢
    generalize endK p (kn0 p) l = K at *
    refine zfb 0 5 rfl rfl ?_
    repeat (first | refine gA pk ?_)
    refine a_loopG3 (fun (d : Nat) (o : List Opn) (v : Value) => [(2, grP p), (5, .ip [boolsA K.ns, boolsA K.es]), (7, .lit v), (8, AI ((d : Int) + 1))]) (fun d o v => [(v, .row 41 2 (o.map cOp))]) (fun d o _ => d ≤ 3 ∧ o = posK p K M d) (fun d _ _ => 3 - d) 0 [] (.slice none 0 0) ⟨by omega, rfl⟩ (.sub (by exact subQ) (.free (OSub.none _))) ?_
    rintro d o v ⟨hd, ho⟩
    have hol : o.length ≤ d * M := by rw [ho]; exact posK_len p K M d hd
    rcases Nat.lt_or_ge d 3 with h3 | h3
    rotate_left
    · obtain rfl : d = 3 := by omega
      have ho : o = opsX p K 1 M ++ opsX p K 2 M ++ opsX p K 3 M := ho
      subst ho
      repeat (first | refine gA pk ?_)
      refine finR ?_
      exact ⟨v, rfl, rfl⟩
    · have hst := posK_step p K M d h3
      rw [← ho] at hst
      have hdm : d * M ≤ 2 * M := Nat.mul_le_mul_right M (by omega)
      repeat (first | refine gA pk ?_)
      refine a_loopG3 (fun (i : Nat) (o' : List Opn) (v : Value) => [(2, grP p), (5, .ip [boolsA K.ns, boolsA K.es]), (7, .lit v), (8, AI ((d : Int) + 1)), (9, AI i)]) (fun i o' v => [(v, .row 41 2 (o'.map cOp))]) (fun i o' _ => i ≤ M ∧ o' = o ++ opsX p K ((d : Int) + 1) i) (fun i _ _ => M - i) 0 o v ⟨by omega, by simp [opsX]⟩ (.sub (by exact subQ) (OSub.refl _)) ?_
      rintro i o' v ⟨hi, ho'⟩
      have hol' : o'.length ≤ d * M + i := by
        rw [ho', List.length_append]
        have := opsX_len p K ((d : Int) + 1) i
        omega
      have lo' : (o'.map cOp).length = o'.length := by simp
      rcases Nat.lt_or_ge i M with h4 | h4
      · have s1 := ss K hks ⟨(d : Int) + 1, (i : Int)⟩
        change Pure _ _ [_, _, .agg [AI ((d : Int) + 1), AI i]] _ at s1
        have hsx := opsX_succ p K ((d : Int) + 1) i
        have hlt : (i : Int) < p.nodes.length ∨ (¬ (i : Int) < p.nodes.length ∧ (i : Int) < p.edges.length) := by omega
        by_cases hop : opE p K ⟨(d : Int) + 1, (i : Int)⟩ = 0
        · have hnew : (o ++ opsX p K ((d : Int) + 1) (i + 1)).map cOp = o'.map cOp ++ [[AI ((d : Int) + 1), AI i]] := by
            rw [ho', opsX_succ, if_pos hop, ← List.append_assoc, List.map_append]
            rfl
          rw [hop] at s1
          rcases hlt with hlt | ⟨hlt1, hlt2⟩
          all_goals
            repeat (first | refine gA pk ?_ | (show AL _ _ _ _ _ _ _; first | refine jL tok (fun uo => ?_) | refine jS tok 0 ?_ | refine jO tok 0 ?_ | refine jP s1 ?_))
            (first | refine s_build1 tok rfl rfl rfl rfl rfl rfl rfl rfl (fun u => ?_) | refine s_build1M tok rfl rfl rfl rfl rfl rfl rfl (fun u => ?_) | refine zba tok rfl rfl rfl rfl rfl rfl rfl rfl (by decide) (fun u => ?_)); refine s_append1 tok 1 rfl rfl rfl rfl rfl rfl (by decide) rfl rfl rfl rfl (by omega) (by omega) (fun w => ?_)
            repeat (first | refine gA pk ?_)
            exact ⟨i + 1, o ++ opsX p K ((d : Int) + 1) (i + 1), w, ⟨by omega, rfl⟩, by omega, .sub (by exact subQ) (by rw [hnew]; exact .drop (OSub.refl _))⟩
        · rw [if_neg hop, List.append_nil] at hsx
          generalize opE p K ⟨(d : Int) + 1, (i : Int)⟩ = c at *
          rcases hlt with hlt | ⟨hlt1, hlt2⟩
          all_goals
            repeat (first | refine gA pk ?_ | (show AL _ _ _ _ _ _ _; first | refine jL tok (fun uo => ?_) | refine jS tok 0 ?_ | refine jO tok 0 ?_ | refine jP s1 ?_))
            exact ⟨i + 1, o', v, ⟨by omega, by rw [hsx]; exact ho'⟩, by omega, .sub (by exact subQ) (.drop (OSub.refl _))⟩
      · obtain rfl : i = M := by omega
        repeat (first | refine gA pk ?_)
        exact ⟨d + 1, o', v, ⟨by omega, by rw [ho', hst]⟩, by omega, .sub (by exact subQ) (OSub.refl _)⟩
end Go.Proofs.YtimfponihbfimaaGreat
end
section
namespace Go.Proofs.YtimfponihbfimaaGreat
open Go.Sj Go.Sj.Typ Go.Sj.Sta Go.Sj.Inc Go.Sj.Pln
set_option maxRecDepth 8000
abbrev cseA (t : Tys) (p g : Gr) : AV := .agg [nodsA t.nodes, edgsA t.edges, ints p.nodes, edsA p.edges, ints g.nodes, edsA g.edges]
end Go.Proofs.YtimfponihbfimaaGreat
end
section
namespace Go.Sj.Can
open Go.Sj Go.Sj.Sta Go.Sj.Typ
set_option maxRecDepth 8000
structure Dr5 where
  nodes : List Int
  edges : List (Int × Int × Int)
abbrev RDr5 := List Int × List (List Int) × Unit
def toDr5 (x : RDr5) : Dr5 := ⟨x.1, x.2.1.map toC3⟩
abbrev dr5L (d : Dr5) : List AV := [bytesA d.nodes, .im 3 (d.edges.map c83)]
abbrev dr5A (d : Dr5) : AV := .agg (dr5L d)
def gDr5 (x : RDr5) : List AV := [.im 1 (x.1.map fun n => [.lit (.int .u8 n)])] ++ ([.im 3 (x.2.1.map g8s)] ++ [])
structure OkD5 (d : Dr5) : Prop where
  nodes : ∀ n ∈ d.nodes, 0 ≤ n ∧ n ≤ 255
  edges : ∀ c ∈ d.edges, In3 c
  nl : d.nodes.length ≤ 140737488355328
  gl : d.edges.length ≤ 140737488355328
abbrev okRD5 (x : RDr5) : Prop := ((∀ m ∈ x.1, (Lit.int .u8 m).wf = true) ∧ x.1.length ≤ reachBytes) ∧ ((∀ a ∈ x.2.1, a.length = 3 ∧ ∀ m ∈ a, (Lit.int .u8 m).wf = true) ∧ x.2.1.length ≤ reachBytes) ∧ True
theorem dr5_ok {x : RDr5} (hx : okRD5 x) : OkD5 (toDr5 x) := by
  have r3 := hx.1.2
  have r4 := hx.2.1.2
  unfold reachBytes at r3 r4
  refine ⟨fun n hn => wf_n8 (hx.1.1 n hn), fun c hc => ?_, ?_, ?_⟩
  · obtain ⟨a, ha, rfl⟩ := List.mem_map.1 hc
    exact toC3_ok (hx.2.1.1 a ha)
  · show x.1.length ≤ _
    omega
  · show (x.2.1.map toC3).length ≤ _
    rw [List.length_map]; omega
section
variable {g : Gr} {p q : List Int} (h : GV g) (hp : Prm p g.nodes.length) (hq : Prm q g.edges.length)
include h hp hq
end
end Go.Sj.Can
end
section
namespace Go.Proofs.YtimfponihbfimaaGreat
open Go.Sj Go.Sj.Typ Go.Sj.Sta Go.Sj.Inc Go.Sj.Pln
set_option maxRecDepth 8000
set_option maxHeartbeats 16000000
def chF (codes : List Int) (i : Nat) : Int := if codes.length = 0 then 0 else codes.getD (i % codes.length) 0
theorem mkP_nil {p : Gr} {f : Nat → Int} {m i : Nat} {k : Kn} (h : poss p k = []) : mkP p f m i k = [] := by
  cases m with
  | zero => rfl
  | succ m => rw [mkP, if_pos h]
theorem gmade_spec (p : Gr) (hp : GV p) (codes : List Int) (hcl : codes.length ≤ 1000) (hc : ∀ x ∈ codes, 0 ≤ x ∧ x ≤ 255) : Pure Tryz.prog 19 [grA p, bytesA codes] (opsA (mkP p (chF codes) 200 0 (kn0 p))) := by
  have hnl := hp.nl
  have hel := hp.el
  have sP : ∀ (l : List Opn) (h1 : l.length ≤ 1000) (h2 : PreE p (kn0 p) l) (v : Value), ACalls Tryz.prog 57 [grA p, .lit v] [(v, .row 41 2 (l.map cOp))] (fun y M => ∃ w, y = .lit w ∧ M = [(w, .row 41 2 ((poss p (endK p (kn0 p) l)).map cOp)), (v, .row 41 2 (l.map cOp))]) := fun l h1 h2 v => (ACalls.lendZ (E := 41) (gPossible_spec p hp l h1 h2) (v := v) (sz := 2) (es := l.map cOp) (args' := [grA p, .lit v]) ⟨FZ.refl _, FZ.here, trivial⟩ (fun y M ⟨w, h1, h2⟩ => by
    subst h1; subst h2
    refine ⟨.lit _, fun q hq => ?_⟩
    rw [List.mem_singleton] at hq
    subst hq
    intro e he x hx
    obtain ⟨z, _, rfl⟩ := List.mem_map.1 he
    have hx : x ∈ [AI z.kind, AI z.el] := hx
    simp only [List.mem_cons, List.not_mem_nil, or_false] at hx
    rcases hx with rfl | rfl <;> exact .lit _)).mono fun y M ⟨M', ⟨w, h1, h2⟩, h3⟩ => ⟨w, h1, by rw [h3, h2]; rfl⟩
  have lc : (codes.map c8).length = codes.length := by simp
  generalize hf : chF codes = f
  refine zen Tryz.func19 (by kernel_rfl) rfl Tryz.ntmps19 rfl (by simp) ?_; refine a_seq ?_; refine a_reg ?_; (repeat (first | refine gZ pk ?_ | (show AL _ _ _ _ _ _ _; first | refine jB (fun u => ?_)))); refine zfb 0 2 rfl rfl ?_
  repeat (first | refine gA pk ?_)
  refine a_loopG3 (fun (i : Nat) (o : List Opn) (v : Value) => [(1, bytesA codes), (2, grP p), (5, .lit v), (6, AI i)]) (fun i o v => [(v, .row 41 2 (o.map cOp))]) (fun i o _ => i ≤ 200 ∧ o.length = i ∧ PreE p (kn0 p) o ∧ mkP p f 200 0 (kn0 p) = o ++ mkP p f (200 - i) i (endK p (kn0 p) o)) (fun i _ _ => 200 - i) 0 [] (.slice none 0 0) ⟨by omega, rfl, trivial, rfl⟩ (.sub (by exact subQ) (.free (OSub.none _))) ?_
  rintro i o v ⟨hi, ho, hpr, he⟩
  rw [he]
  have lo : (o.map cOp).length = i := by rw [List.length_map, ho]
  rcases Nat.lt_or_ge i 200 with h | h
  · have s1 := sP o (by omega) hpr v
    have hplen := poss_len p (endK p (kn0 p) o)
    have hpm := fun x => poss_mem (p := p) (s := endK p (kn0 p) o) (o := x)
    by_cases hn : poss p (endK p (kn0 p) o) = []
    · rw [mkP_nil hn, List.append_nil]
      rw [hn] at s1
      have l0 : (([] : List Opn).map cOp).length = 0 := rfl
      repeat (first | refine gZ pk ?_)
      refine a_reg ?_
      repeat (first | refine gZ pk ?_)
      refine a_reg ?_
      repeat (first | refine gZ pk ?_ | (show AL _ _ _ _ _ _ _; first | refine s_frzNowP (M := [(v, .row 41 2 (o.map cOp))]) 0 rfl rfl rfl (zsc (Lc := [(v, .row 41 2 (o.map cOp))]) (Lr := []) rfl rfl rfl rfl rfl s1 (SubL.of_eq rfl) (List.Perm.refl _) (by rintro _ _ ⟨w, rfl, rfl⟩; exact AL.nil ⟨w, rfl, rfl, List.Perm.refl _⟩)) ?_))
      refine a_frz 0 5 rfl rfl ?_
      repeat (first | refine gA pk ?_)
      refine finQ ?_
      exact ⟨rfl, rfl⟩
    · have hpos : 0 < (poss p (endK p (kn0 p) o)).length := List.length_pos_iff.2 hn
      have hstep : mkP p f (200 - i) i (endK p (kn0 p) o) = (poss p (endK p (kn0 p) o)).getD (f i % (poss p (endK p (kn0 p) o)).length).toNat ⟨0, 0⟩ :: mkP p f (200 - (i + 1)) (i + 1) (aftK p (endK p (kn0 p) o) ((poss p (endK p (kn0 p) o)).getD (f i % (poss p (endK p (kn0 p) o)).length).toNat ⟨0, 0⟩)) := by
        obtain ⟨d, hd⟩ : ∃ d, 200 - i = d + 1 := ⟨200 - i - 1, by omega⟩
        rw [hd, show 200 - (i + 1) = d by omega, mkP, if_neg hn]
      rw [hstep] at he ⊢
      have h0 := Int.emod_nonneg (f i) (b := ((poss p (endK p (kn0 p) o)).length : Int)) (by omega)
      have h1 := Int.emod_lt_of_pos (f i) (b := ((poss p (endK p (kn0 p) o)).length : Int)) (by omega)
      have hget := List.getElem?_eq_getElem (l := poss p (endK p (kn0 p) o)) (i := (f i % (poss p (endK p (kn0 p) o)).length).toNat) (by omega)
      have hmem := (hpm _).1 (List.mem_of_getElem? hget)
      have hgD : (poss p (endK p (kn0 p) o)).getD (f i % (poss p (endK p (kn0 p) o)).length).toNat ⟨0, 0⟩ = (poss p (endK p (kn0 p) o))[(f i % (poss p (endK p (kn0 p) o)).length).toNat]'(by omega) := by
        rw [List.getD_eq_getElem?_getD, hget]
        rfl
      rw [hgD] at he ⊢
      generalize (poss p (endK p (kn0 p) o))[(f i % (poss p (endK p (kn0 p) o)).length).toNat]'(by omega) = x at *
      have hpr2 := preE_snoc hpr hmem
      have hek := endK_snoc p (kn0 p) o x
      rw [← hek] at he ⊢
      have lL : ((poss p (endK p (kn0 p) o)).map cOp).length = (poss p (endK p (kn0 p) o)).length := by simp
      clear hgD hstep hpm hmem
      generalize poss p (endK p (kn0 p) o) = L at *
      have hrow : (o ++ [x]).map cOp = o.map cOp ++ [[AI x.kind, AI x.el]] := by rw [List.map_append]; rfl
      by_cases hz : codes.length = 0
      · have hfi : f i = 0 := by rw [← hf]; unfold chF; rw [if_pos hz]
        rw [hfi] at hget h0 h1
        have xk : (L.map cOp)[(0 : Int).toNat]? = some [AI x.kind, AI x.el] := zmp (f := cOp) (by rw [Int.zero_emod] at hget; exact hget)
        repeat (first | refine gA pk ?_ | (show AL _ _ _ _ _ _ _; first | refine s_frzNowP (M := [(v, .row 41 2 (o.map cOp))]) 0 rfl rfl rfl (zsc (Lc := [(v, .row 41 2 (o.map cOp))]) (Lr := []) rfl rfl rfl rfl rfl s1 (SubL.of_eq rfl) (List.Perm.refl _) (by rintro _ _ ⟨w, rfl, rfl⟩; exact AL.nil ⟨w, rfl, rfl, List.Perm.refl _⟩)) ?_ | refine jX tok xk ?_))
        (first | refine s_build1 tok rfl rfl rfl rfl rfl rfl rfl rfl (fun u => ?_) | refine s_build1M tok rfl rfl rfl rfl rfl rfl rfl (fun u => ?_) | refine zba tok rfl rfl rfl rfl rfl rfl rfl rfl (by decide) (fun u => ?_)); refine s_append1 tok 0 rfl rfl rfl rfl rfl rfl (by decide) rfl rfl rfl rfl (by omega) (by omega) (fun w => ?_)
        repeat (first | refine gA pk ?_)
        exact ⟨i + 1, o ++ [x], w, ⟨by omega, by simp; omega, hpr2, by simp⟩, by omega, .sub (by exact subQ) (by rw [hrow]; exact OSub.refl _)⟩
      · have hm : i % codes.length < codes.length := Nat.mod_lt _ (by omega)
        have hcg := List.getElem?_eq_getElem hm
        have hcr := hc _ (List.getElem_mem hm)
        have hfi : f i = codes[i % codes.length] := by
          rw [← hf]
          unfold chF
          rw [if_neg hz, List.getD_eq_getElem?_getD, hcg]
          rfl
        rw [hfi] at hget h0 h1
        generalize codes[i % codes.length] = y at *
        have hmi : ((i : Int) % ((codes.map c8).length : Int)) = ((i % codes.length : Nat) : Int) := by rw [lc]; omega
        have ck : (codes.map c8)[((i : Int) % ((codes.map c8).length : Int)).toNat]? = some [A8 y] := by rw [hmi, Int.toNat_natCast]; exact zmp (f := c8) hcg
        have hmn : 0 ≤ (i : Int) % ((codes.map c8).length : Int) := by rw [hmi]; omega
        have xk : (L.map cOp)[(y % ((L.map cOp).length : Int)).toNat]? = some [AI x.kind, AI x.el] := by rw [lL]; exact zmp (f := cOp) hget
        rw [← lL] at h0 h1
        repeat (first | refine gA pk ?_ | (show AL _ _ _ _ _ _ _; first | refine s_frzNowP (M := [(v, .row 41 2 (o.map cOp))]) 0 rfl rfl rfl (zsc (Lc := [(v, .row 41 2 (o.map cOp))]) (Lr := []) rfl rfl rfl rfl rfl s1 (SubL.of_eq rfl) (List.Perm.refl _) (by rintro _ _ ⟨w, rfl, rfl⟩; exact AL.nil ⟨w, rfl, rfl, List.Perm.refl _⟩)) ?_ | refine s_rem rfl rfl rfl rfl rfl rfl (by omega) (by omega) ?_ | refine s_index tok rfl rfl rfl rfl rfl rfl rfl rfl rfl hmn ck ?_ | refine zcv tok rfl rfl rfl rfl rfl rfl rfl (IntWalk.i64_in _ (by omega)) ?_ | refine s_index tok rfl rfl rfl rfl rfl rfl rfl rfl rfl h0 xk ?_))
        (first | refine s_build1 tok rfl rfl rfl rfl rfl rfl rfl rfl (fun u => ?_) | refine s_build1M tok rfl rfl rfl rfl rfl rfl rfl (fun u => ?_) | refine zba tok rfl rfl rfl rfl rfl rfl rfl rfl (by decide) (fun u => ?_)); refine s_append1 tok 0 rfl rfl rfl rfl rfl rfl (by decide) rfl rfl rfl rfl (by omega) (by omega) (fun w => ?_)
        repeat (first | refine gA pk ?_)
        exact ⟨i + 1, o ++ [x], w, ⟨by omega, by simp; omega, hpr2, by simp⟩, by omega, .sub (by exact subQ) (by rw [hrow]; exact OSub.refl _)⟩
  · obtain rfl : i = 200 := by omega
    rw [show mkP p f (200 - 200) 200 (endK p (kn0 p) o) = [] from rfl, List.append_nil]
    refine a_frz 0 5 rfl rfl ?_
    repeat (first | refine gA pk ?_)
    refine finQ ?_
    exact ⟨rfl, rfl⟩
end Go.Proofs.YtimfponihbfimaaGreat
end
section
namespace Go.Proofs.YtimfponihbfimaaGreat
open Go.Sj Go.Sj.Typ Go.Sj.Sta Go.Sj.Inc Go.Sj.Can
set_option maxRecDepth 8000
set_option maxHeartbeats 16000000
structure TyG (t : Tys) : Prop where
  sm : Small t
  pr : PR t.nodes t.nodes.length
  ed : ∀ e ∈ t.edges, 0 ≤ e.fr ∧ 0 ≤ e.to
  vl : (validR t).2 = 0
  ne : 1 ≤ t.nodes.length
def Amg (tn : List Nod) (k : Int) (ns r : List Int) : Prop := ∀ x ∈ r, (0 ≤ x ∧ x < ns.length) ∧ k ∈ up tn (ns.getD x.toNat 0)
def EdS (tn : List Nod) (te : List Edg) (ns : List Int) (es : List Ed) : Prop := ∀ e ∈ es, (0 ≤ e.ty ∧ e.ty < te.length) ∧ (0 ≤ e.fr ∧ e.fr < ns.length) ∧ (0 ≤ e.to ∧ e.to < ns.length) ∧ ∃ y : Edg, te[e.ty.toNat]? = some y ∧ y.fr ∈ up tn (ns.getD e.fr.toNat 0) ∧ y.to ∈ up tn (ns.getD e.to.toNat 0)
theorem amongS_spec (t : Tys) (ht : TyG t) (ns : List Int) (es : List Ed) (hn : ns.length ≤ 8) (hns : ∀ x ∈ ns, 0 ≤ x ∧ x < t.nodes.length) (k : Int) (hk : 0 ≤ k) (vn ve : Value) :
    Go.Sj.ACalls Tryz.prog 95 [tysA t, .agg [.lit vn, .lit ve], AI k] [(vn, .row 3 1 (rowI ns)), (ve, .row 112 3 (es.map cEd))]
      (fun y L => ∃ (r : List Int) (w : Value), y = .lit w ∧ r.length ≤ ns.length ∧ Amg t.nodes k ns r ∧ L = [(w, .row 3 1 (rowI r)), (vn, .row 3 1 (rowI ns)), (ve, .row 112 3 (es.map cEd))]) := by
  have ll : (rowI ns).length = ns.length := by simp
  have s1 := fun (a : Int) (h0 : 0 ≤ a) (ha : a < t.nodes.length) => Below1_spec t t.nodes.length (Nat.le_refl _) ht.pr k hk (a.toNat + 1) a (by omega) (by omega) ha
  obtain ⟨tn, te⟩ := t
  simp only at s1 hns
  change ∀ a : Int, 0 ≤ a → a < tn.length → Pure _ _ [.agg [nodsA tn, edgsA te], AI a, AI k] _ at s1
  change Go.Sj.ACalls _ _ [.agg [nodsA tn, edgsA te], _, _] _ _
  refine zen Tryz.func95 (by kernel_rfl) rfl Tryz.ntmps95 rfl (by simp) ?_
  refine a_seq ?_
  refine a_reg ?_
  repeat (first | refine gZ pk ?_ | (show AL _ _ _ _ _ _ _; first | refine jB (fun u => ?_)))
  refine zfb 1 3 rfl rfl ?_
  refine zfb 0 4 rfl rfl ?_
  repeat (first | refine gA pk ?_)
  refine a_loopG3 (fun (i : Nat) (r : List Int) (v : Value) => [(2, AI k), (3, .ip [nodsA tn, edgsA te]), (4, .ip [.lit vn, .lit ve]), (7, .lit v), (8, AI i)]) (fun i r v => [(v, .row 3 1 (rowI r)), (vn, .row 3 1 (rowI ns)), (ve, .row 112 3 (es.map cEd))]) (fun i r _ => i ≤ ns.length ∧ r.length ≤ i ∧ Amg tn k ns r) (fun i _ _ => ns.length - i) 0 [] (.slice none 0 0) ⟨Nat.zero_le _, Nat.le_refl _, fun x hx => by cases hx⟩ (.sub (by exact subQ) (.free (OSub.refl _))) ?_
  rintro i r v ⟨hi, hr, hA⟩
  have lr : (rowI r).length = r.length := by simp
  rcases Nat.lt_or_ge i ns.length with h | h
  · have h1 := List.getElem?_eq_getElem h
    have hx := hns _ (List.getElem_mem h)
    generalize ns[i] = x at h1 hx
    have s2 := s1 x hx.1 hx.2
    have gx : ns[((i : Nat) : Int).toNat]? = some x := by rw [Int.toNat_natCast]; exact h1
    have hA2 : k ∈ up tn x → Amg tn k ns (r ++ [(i : Int)]) := fun hk y hy => by
      rcases List.mem_append.1 hy with hy | hy
      · exact hA y hy
      · simp at hy
        subst hy
        refine ⟨by omega, ?_⟩
        rw [List.getD_eq_getElem?_getD, Int.toNat_natCast, h1]
        exact hk
    obtain ⟨b, hb⟩ : ∃ b, decide (k ∈ up tn x) = b := ⟨_, rfl⟩
    rw [hb] at s2
    have hset : rowI (r ++ [(i : Int)]) = rowI r ++ [[AI i]] := by simp [cI]
    repeat (first | refine gN pk ?_ | (show AL _ _ _ _ _ _ _; first | refine zol tok 1 rfl rfl rfl rfl (by decide) rfl rfl rfl ?_))
    refine zrg ((List.range 8).map fun i => if inL [7] i = true then .eff else if inL [0, 2, 4, 5] i = true then .read else .pure) [] [0, 1, 2, 3, 4, 5, 6, 7] .stop mixed rfl rfl (by decide +kernel) ?_
    cases b
    · repeat' (first | (with_reducible show AG _ _ _ _ _ _ _ _ _ _; first | exact zgn | refine zgs ?_ | refine znd ?_ ?_) | (show AMid _ _ _ _; first | refine zmf ?_ | refine zmg (by first | exact OSub.refl _ | exact .drop (OSub.refl _) | exact .drop (.drop (OSub.refl _))) ?_) | refine gY pk ?_ | (show AL _ _ _ _ _ _ _; first | refine zoi tok 1 rfl rfl rfl rfl (by decide) rfl rfl rfl rfl rfl rfl (by omega) (by omega) ?_ | refine s_loadI tok 1 rfl rfl rfl rfl (by decide) rfl rfl rfl rfl gx ?_ | refine jP s2 ?_) | fail)
      repeat (first | refine gA pk ?_)
      exact ⟨i + 1, r, v, ⟨by omega, by omega, hA⟩, by omega, .sub (by exact subQ) (OSub.refl _)⟩
    · repeat' (first | (with_reducible show AG _ _ _ _ _ _ _ _ _ _; first | exact zgn | refine zgs ?_ | refine znd ?_ ?_) | (show AMid _ _ _ _; first | refine zmf ?_ | refine zmg (by first | exact OSub.refl _ | exact .drop (OSub.refl _) | exact .drop (.drop (OSub.refl _))) ?_) | refine gY pk ?_ | (show AL _ _ _ _ _ _ _; first | refine zoi tok 1 rfl rfl rfl rfl (by decide) rfl rfl rfl rfl rfl rfl (by omega) (by omega) ?_ | refine s_loadI tok 1 rfl rfl rfl rfl (by decide) rfl rfl rfl rfl gx ?_ | refine jP s2 ?_) | fail)
      repeat (first | refine gA pk ?_ | (show AL _ _ _ _ _ _ _; first | refine s_build1 tok rfl rfl rfl rfl rfl rfl rfl rfl (fun lv => ?_) | refine zak tok 0 rfl rfl rfl rfl rfl rfl (by decide) rfl rfl rfl rfl (by omega) (by omega) (fun w hw => ?_)))
      exact ⟨i + 1, r ++ [(i : Int)], w, ⟨by omega, by simp; omega, hA2 (of_decide_eq_true hb)⟩, by omega, .sub (by exact subQ) (by rw [hset]; exact OSub.refl _)⟩
  · obtain rfl : i = ns.length := by omega
    repeat (first | refine gA pk ?_ | (show AL _ _ _ _ _ _ _; first | refine zol tok 1 rfl rfl rfl rfl (by decide) rfl rfl rfl ?_))
    exact fin (x := .lit _) (.inr rfl) rfl (Sub.refl _) ⟨r, v, rfl, hr, hA, rfl⟩ (OSub.refl _)
theorem made17S_spec (t : Tys) (ht : TyG t) (d : Dr5) (hd : OkD5 d) (abs : Bool) :
    Go.Sj.ACalls Tryz.prog 56 [tysA t, dr5A d, AB abs] [] (fun y L => (∃ g : Gr, y = grA g ∧ (g.nodes.length ≤ 8 ∧ g.nodes.length ≤ d.nodes.length) ∧ g.edges.length ≤ 10 ∧ g.edges.length ≤ d.edges.length ∧ (∀ x ∈ g.nodes, 0 ≤ x ∧ x < t.nodes.length) ∧ EdS t.nodes t.edges g.nodes g.edges) ∧ L = []) := by
  have sam := fun ns es h1 h2 k h3 vn ve => amongS_spec t ht ns es h1 h2 k h3 vn ve
  have ht1 := ht.sm.nodes
  have ht2 := ht.sm.edges
  have hed := ht.ed
  obtain ⟨tn, te⟩ := t
  obtain ⟨dn, de⟩ := d
  obtain ⟨hd1, hd2, hd3, hd4⟩ := hd
  simp only at sam ht1 ht2 hed hd1 hd2 hd3 hd4
  have ltn : (tn.map cNod).length = tn.length := by simp
  have lte : (te.map cEdg).length = te.length := by simp
  have ldn : (dn.map c8).length = dn.length := by simp
  have lde : (de.map c83).length = de.length := by simp
  have hr1 : ∀ (l : List Int), ∀ x ∈ rowI l, x.length = 1 := fun l x hx => by
    obtain ⟨y, _, rfl⟩ := List.mem_map.1 hx
    rfl
  have hr3 : ∀ (l : List Ed), ∀ x ∈ l.map cEd, x.length = 3 := fun l x hx => by
    obtain ⟨y, _, rfl⟩ := List.mem_map.1 hx
    rfl
  change Go.Sj.ACalls _ _ [.agg [nodsA tn, edgsA te], .agg [bytesA dn, .im 3 (de.map c83)], AB abs] _ _
  refine a_enterC Tryz.func56 (by kernel_rfl) rfl Tryz.ntmps56 rfl (tok _ _ rfl) (by simp) ?_
  refine a_seq ?_
  refine a_reg ?_
  repeat (first | refine gZ pk ?_ | (show AL _ _ _ _ _ _ _; first | refine jB (fun u => ?_) | refine jL tok (fun U6 => ?_)))
  refine zfb 2 3 rfl rfl ?_
  refine zfb 1 4 rfl rfl ?_
  repeat (first | refine gA pk ?_)
  refine a_loopG3 (fun (i : Nat) (K : List Int) (v : Value) => [(2, AB abs), (3, .ip [nodsA tn, edgsA te]), (4, .ip [bytesA dn, .im 3 (de.map c83)]), (6, .pt U6 0 0 0), (7, .lit v), (8, AI i)]) (fun i K v => [(v, .row 3 1 (rowI K)), (U6, .box [nilS, nilS])]) (fun i K _ => i ≤ tn.length ∧ K.length ≤ i ∧ ∀ x ∈ K, 0 ≤ x ∧ x < tn.length) (fun i _ _ => tn.length - i) 0 [] (.slice none 0 0) ⟨Nat.zero_le _, Nat.le_refl _, fun x hx => by cases hx⟩ (.sub (by exact subQ) (.free (OSub.refl _))) ?_
  rintro i K v ⟨hi, hK, hKr⟩
  have lK : (rowI K).length = K.length := by simp
  rcases Nat.lt_or_ge i tn.length with h | h
  · have h1 := List.getElem?_eq_getElem h
    generalize tn[i] = nd at h1
    obtain ⟨n1, n2, n3, n4⟩ := nd
    have xk : (tn.map cNod)[(i : Int).toNat]? = some [AS n1, AI n2, AB n3, attrsA n4] := zmp (f := cNod) h1
    have hset : rowI (K ++ [(i : Int)]) = rowI K ++ [[AI i]] := by simp [cI]
    have hK2 : ∀ x ∈ K ++ [(i : Int)], 0 ≤ x ∧ x < tn.length := fun x hx => by
      rcases List.mem_append.1 hx with hx | hx
      · exact hKr x hx
      · simp at hx
        omega
    cases abs <;> cases n3
    all_goals
      repeat (first | refine gA pk ?_ | (show AL _ _ _ _ _ _ _; first | refine jX tok xk ?_ | refine s_build1 tok rfl rfl rfl rfl rfl rfl rfl rfl (fun lv => ?_) | refine zak tok 0 rfl rfl rfl rfl rfl rfl (by decide) rfl rfl rfl rfl (by omega) (by omega) (fun w hw => ?_)))
      first
        | exact ⟨i + 1, K ++ [(i : Int)], w, ⟨by omega, by simp; omega, hK2⟩, by omega, .sub (by exact subQ) (by rw [hset]; exact OSub.refl _)⟩
        | exact ⟨i + 1, K, v, ⟨by omega, by omega, hKr⟩, by omega, .sub (by exact subQ) (OSub.refl _)⟩
  obtain rfl : i = tn.length := by omega
  have hKl : K.length ≤ 20 := by omega
  clear hK
  refine a_frz 0 7 rfl rfl ?_
  repeat (first | refine gZ pk ?_)
  refine a_reg ?_
  repeat (first | refine gZ pk ?_)
  refine a_reg ?_
  repeat (first | refine gY pk ?_ | (show AL _ _ _ _ _ _ _; first | refine jL tok (fun ug => ?_)))
  refine a_mid (fun st L => ∃ (G : List Int) (v : Value), (G.length ≤ 8 ∧ G.length ≤ dn.length ∧ ∀ x ∈ G, 0 ≤ x ∧ x < tn.length) ∧ GoTo 157 st L (lk [(3, .ip [nodsA tn, edgsA te]), (4, .ip [bytesA dn, .im 3 (de.map c83)]), (6, .pt U6 0 0 0), (9, .pt ug 0 0 0)]) [(ug, .box [.lit v, nilS]), (v, .row 3 1 (rowI G)), (U6, .box [nilS, nilS])]) ?_ (fun st L h => ?_)
  · repeat (first | refine gA pk ?_)
    refine a_loopG3 (fun (i : Nat) (G : List Int) (v : Value) => [(3, .ip [nodsA tn, edgsA te]), (4, .ip [bytesA dn, .im 3 (de.map c83)]), (6, .pt U6 0 0 0), (7, ints K), (9, .pt ug 0 0 0), (10, AI i)]) (fun i G v => [(ug, .box [.lit v, nilS]), (v, .row 3 1 (rowI G)), (U6, .box [nilS, nilS])]) (fun i G _ => i ≤ 8 ∧ i ≤ dn.length ∧ G.length = i ∧ ∀ x ∈ G, 0 ≤ x ∧ x < tn.length) (fun i _ _ => 8 - i) 0 [] (.slice none 0 0) ⟨by omega, Nat.zero_le _, rfl, fun x hx => by cases hx⟩ (.sub (by exact subQ) (.keep (.free (OSub.refl _)))) ?_
    rintro i G v ⟨hi8, hid, hG, hGr⟩
    have lG : (rowI G).length = G.length := by simp
    by_cases hgo : i < dn.length ∧ i < 8 ∧ 0 < K.length
    · obtain ⟨g1, g2, g3⟩ := hgo
      have h1 := List.getElem?_eq_getElem g1
      have hx := hd1 _ (List.getElem_mem g1)
      generalize dn[i] = x at h1 hx
      have xk : (dn.map c8)[(i : Int).toNat]? = some [A8 x] := zmp (f := c8) h1
      have hm0 := Int.emod_nonneg x (b := (K.length : Int)) (by omega)
      have hm1 := Int.emod_lt_of_pos x (b := (K.length : Int)) (by omega)
      have h2 := List.getElem?_eq_getElem (l := K) (i := (x % (K.length : Int)).toNat) (by omega)
      have hy := hKr _ (List.getElem_mem (l := K) (n := (x % (K.length : Int)).toNat) (by omega))
      generalize K[(x % (K.length : Int)).toNat] = y at h2 hy
      have yk : (rowI K)[(x % ((rowI K).length : Int)).toNat]? = some [AI y] := by rw [lK]; exact zmp (f := cI) h2
      rw [← lK] at hm0 hm1
      have hset : rowI (G ++ [y]) = rowI G ++ [[AI y]] := by simp [cI]
      have hG2 : ∀ z ∈ G ++ [y], 0 ≤ z ∧ z < tn.length := fun z hz => by
        rcases List.mem_append.1 hz with hz | hz
        · exact hGr z hz
        · simp at hz
          subst hz
          exact hy
      repeat (first | refine gN pk ?_ | (show AL _ _ _ _ _ _ _; first | refine jX tok xk ?_))
      refine zrg ((List.range 18).map fun i => if inL [14, 15, 17] i = true then .eff else if inL [1, 4, 6, 7, 10, 12, 13] i = true then .read else .pure) [14] [0, 1, 2, 3, 4, 5, 6, 7, 8, 9, 10, 11, 12, 13] (.nd 14 [15, 16, 17] .stop .stop) mixed rfl rfl (by decide +kernel) ?_
      repeat' (first | (with_reducible show AG _ _ _ _ _ _ _ _ _ _; first | exact zgn | refine zgs ?_ | refine znd ?_ ?_) | (show AMid _ _ _ _; first | refine zmf ?_ | refine zmg (by first | exact OSub.refl _ | exact .drop (OSub.refl _) | exact .drop (.drop (OSub.refl _))) ?_) | refine gY pk ?_ | (show AL _ _ _ _ _ _ _; first | refine jO tok 0 ?_ | refine jX tok xk ?_ | refine zcv tok rfl rfl rfl rfl rfl rfl rfl (IntWalk.i64_in _ (by omega)) ?_ | refine s_rem rfl rfl rfl rfl rfl rfl (by omega) (by omega) ?_ | refine s_index tok rfl rfl rfl rfl rfl rfl rfl rfl rfl hm0 yk ?_ | refine s_build1 tok rfl rfl rfl rfl rfl rfl rfl rfl (fun lv => ?_) | refine zak tok 1 rfl rfl rfl rfl rfl rfl (by decide) rfl rfl rfl rfl (by omega) (by omega) (fun w hw => ?_) | refine zsb tok 0 rfl rfl rfl rfl rfl rfl rfl hw rfl (Nat.le_of_ble_eq_true rfl) rfl ?_) | fail)
      all_goals
        repeat (first | refine gA pk ?_)
        exact ⟨i + 1, G ++ [y], w, ⟨by omega, by omega, by simp; omega, hG2⟩, by omega, .sub (by exact subQ) (by rw [hset]; exact OSub.refl _)⟩
    have hex : dn.length ≤ i ∨ (i < dn.length ∧ 8 ≤ i) ∨ (i < dn.length ∧ i < 8 ∧ K.length = 0) := by omega
    rcases hex with hx | ⟨hx1, hx2⟩ | ⟨hx1, hx2, hx3⟩
    all_goals
      repeat (first | refine gA pk ?_)
      exact ⟨G, v, ⟨by omega, by omega, hGr⟩, .sub (by exact subQ) (OSub.refl _)⟩
  obtain ⟨G, v, ⟨hG8, hGd, hGr⟩, h⟩ := h
  refine zgt h ?_
  clear h
  have lG : (rowI G).length = G.length := by simp
  refine a_mid (fun st L => ∃ (E : List Ed) (ve : Value), (E.length ≤ 10 ∧ E.length ≤ de.length ∧ EdS tn te G E) ∧ GoTo 157 st L (lk [(6, .pt U6 0 0 0), (9, .pt ug 0 0 0)]) [(v, .row 3 1 (rowI G)), (ve, .row 112 3 (E.map cEd)), (ug, .box [.lit v, .lit ve]), (U6, .box [nilS, nilS])]) ?_ (fun st L h => ?_)
  rotate_left
  · obtain ⟨E, ve, ⟨hE1, hE2, hE3⟩, h⟩ := h
    refine zgt h ?_
    clear h
    refine zgt (GoTo.freeze 0 rfl (FZS.refl _) [(ve, OB.row 112 3 (E.map cEd)), (ug, OB.box [ints G, .lit ve]), (U6, OB.box [nilS, nilS])] (zfw (hr3 _) (zfo ⟨FZ.here, FZ.refl _, trivial⟩ (zfo (FZL.refl _) trivial)))) ?_
    refine zgt (GoTo.freeze 0 rfl (FZS.refl _) [(ug, OB.box [ints G, edsA E]), (U6, OB.box [nilS, nilS])] (zfo ⟨FZ.refl _, FZ.here, trivial⟩ (zfo (FZL.refl _) trivial))) ?_
    refine zfb 0 9 rfl rfl ?_
    repeat (first | refine gV pk ?_ | (show AL _ _ _ _ _ _ _; first | refine jS tok 0 ?_))
    refine zfb 0 6 rfl rfl ?_
    refine a_ret ?_
    exact ⟨.inr rfl, _, _, _, _, rfl, rfl, Turn.of (Sub.of_eq rfl) (OSub.none _), ⟨⟨G, E⟩, rfl, ⟨hG8, hGd⟩, hE1, hE2, hGr, hE3⟩, rfl⟩
  · repeat (first | refine gA pk ?_)
    refine a_loopG3 (fun (i : Nat) (E : List Ed) (ve : Value) => [(3, .ip [nodsA tn, edgsA te]), (4, .ip [bytesA dn, .im 3 (de.map c83)]), (6, .pt U6 0 0 0), (9, .pt ug 0 0 0), (11, AI i)]) (fun i E ve => [(v, .row 3 1 (rowI G)), (ve, .row 112 3 (E.map cEd)), (ug, .box [.lit v, .lit ve]), (U6, .box [nilS, nilS])]) (fun i E _ => i ≤ 10 ∧ i ≤ de.length ∧ E.length ≤ i ∧ EdS tn te G E) (fun i _ _ => 10 - i) 0 [] (.slice none 0 0) ⟨by omega, Nat.zero_le _, Nat.le_refl _, fun x hx => by cases hx⟩ ((GoTo.perm (List.Perm.swap _ _ _)).trans (.sub (by exact subQ) (.keep (.free (OSub.refl _))))) ?_
    rintro j E ve ⟨hj10, hjd, hE, hEs⟩
    have lE : (E.map cEd).length = E.length := by simp
    by_cases hgo : j < de.length ∧ j < 10 ∧ 0 < te.length
    rotate_left
    · have hex : de.length ≤ j ∨ (j < de.length ∧ 10 ≤ j) ∨ (j < de.length ∧ j < 10 ∧ te.length = 0) := by omega
      rcases hex with hx | ⟨hx1, hx2⟩ | ⟨hx1, hx2, hx3⟩
      all_goals
        repeat (first | refine gA pk ?_)
        exact ⟨E, ve, ⟨by omega, by omega, hEs⟩, .sub (by exact subQ) (OSub.refl _)⟩
    obtain ⟨g1, g2, g3⟩ := hgo
    have h1 := List.getElem?_eq_getElem g1
    have hx := hd2 _ (List.getElem_mem g1)
    generalize de[j] = c at h1 hx
    obtain ⟨c1, c2, c3⟩ := c
    obtain ⟨hc1, hc2, hc3⟩ := hx
    simp only at hc1 hc2 hc3
    have xk : (de.map c83)[(j : Int).toNat]? = some [A8 c1, A8 c2, A8 c3] := zmp (f := c83) h1
    have hm0 := Int.emod_nonneg c1 (b := (te.length : Int)) (by omega)
    have hm1 := Int.emod_lt_of_pos c1 (b := (te.length : Int)) (by omega)
    have h2 := List.getElem?_eq_getElem (l := te) (i := (c1 % (te.length : Int)).toNat) (by omega)
    have hy := hed _ (List.getElem_mem (l := te) (n := (c1 % (te.length : Int)).toNat) (by omega))
    generalize te[(c1 % (te.length : Int)).toNat] = ty at h2 hy
    obtain ⟨y1, yf, yt, y4, y5, y6, y7⟩ := ty
    simp only at hy
    have yk : (te.map cEdg)[(c1 % ((te.map cEdg).length : Int)).toNat]? = some [AS y1, AI yf, AI yt, AI y4, AI y5, AI y6, AI y7] := by rw [lte]; exact zmp (f := cEdg) h2
    rw [← lte] at hm0 hm1
    have h2t : te[(c1 % ((te.map cEdg).length : Int)).toNat]? = some ⟨y1, yf, yt, y4, y5, y6, y7⟩ := by rw [lte]; exact h2
    have sf := sam G E hG8 hGr yf hy.1 v ve
    have st := sam G E hG8 hGr yt hy.2 v ve
    repeat (first | refine gN pk ?_)
    refine zrg ((List.range 12).map fun i => if inL [1, 3, 4, 5, 8, 9] i = true then .read else .pure) [] [0, 1, 2, 3, 4, 5, 6, 7, 8, 9, 10, 11] .stop mixed rfl rfl (by decide +kernel) ?_
    repeat' (first | (with_reducible show AG _ _ _ _ _ _ _ _ _ _; first | exact zgn | refine zgs ?_ | refine znd ?_ ?_) | (show AMid _ _ _ _; first | refine zmf ?_ | refine zmg (by first | exact OSub.refl _ | exact .drop (OSub.refl _) | exact .drop (.drop (OSub.refl _))) ?_) | refine gY pk ?_ | (show AL _ _ _ _ _ _ _; first | refine jX tok xk ?_ | refine s_arrIp tok rfl rfl rfl rfl rfl rfl rfl rfl (by decide) (by decide) ?_ | refine zcv tok rfl rfl rfl rfl rfl rfl rfl (IntWalk.i64_in _ (by omega)) ?_ | refine s_rem rfl rfl rfl rfl rfl rfl (by omega) (by omega) ?_) | fail)
    refine a_mid (fun st L => ∃ (r1 r2 : List Int) (w1 w2 : Value), (r1.length ≤ 8 ∧ r2.length ≤ 8 ∧ Amg tn yf G r1 ∧ Amg tn yt G r2) ∧ GoTo 157 st L (lk [(3, .ip [nodsA tn, edgsA te]), (4, .ip [bytesA dn, .im 3 (de.map c83)]), (6, .pt U6 0 0 0), (9, .pt ug 0 0 0), (11, AI j), (12, AI (c1 % ((te.map cEdg).length : Int))), (13, .lit w1), (14, .lit w2)]) [(w2, .row 3 1 (rowI r2)), (v, .row 3 1 (rowI G)), (ve, .row 112 3 (E.map cEd)), (w1, .row 3 1 (rowI r1)), (ug, .box [.lit v, .lit ve]), (U6, .box [nilS, nilS])]) ?_ (fun st L h => ?_)
    · refine zrg ((List.range 20).map fun i => if inL [8, 17] i = true then .eff else if inL [0, 1, 3, 5, 7, 9, 10, 12, 14, 16] i = true then .read else .pure) [8] [0, 1, 2, 3, 4, 5, 6, 7, 9, 10, 11, 12, 13, 14, 15, 16] (.nd 8 [17, 18, 19] .stop .stop) mixed rfl rfl (by decide +kernel) ?_
      repeat' (first | (with_reducible show AG _ _ _ _ _ _ _ _ _ _; first | exact zgn | refine zgs ?_ | refine znd ?_ ?_) | (show AMid _ _ _ _; first | refine zmf ?_ | refine zmg (by first | exact OSub.refl _ | exact .drop (OSub.refl _) | exact .drop (.drop (OSub.refl _))) ?_) | refine gY pk ?_ | (show AL _ _ _ _ _ _ _; first | refine jO tok 2 ?_ | refine jO tok 3 ?_ | refine s_index tok rfl rfl rfl rfl rfl rfl rfl rfl rfl hm0 yk ?_ | refine zsc (Lc := [(v, .row 3 1 (rowI G)), (ve, .row 112 3 (E.map cEd))]) (Lr := [(ug, .box [.lit v, .lit ve]), (U6, .box [nilS, nilS])]) rfl rfl rfl rfl rfl sf (SubL.of_eq rfl) (List.Perm.refl _) ?_; rintro _ _ ⟨r1, w1, rfl, q1, qa1, rfl⟩ | refine zsc (Lc := [(v, .row 3 1 (rowI G)), (ve, .row 112 3 (E.map cEd))]) (Lr := [(w1, .row 3 1 (rowI r1)), (ug, .box [.lit v, .lit ve]), (U6, .box [nilS, nilS])]) rfl rfl rfl rfl rfl st (SubL.of_eq rfl) (List.perm_middle (l₁ := [_, _]) (l₂ := [_, _])).symm ?_; rintro _ _ ⟨r2, w2, rfl, q2, qa2, rfl⟩) | fail)
      exact ⟨r1, r2, w1, w2, ⟨by omega, by omega, qa1, qa2⟩, .sub (by exact subQ) (OSub.refl _)⟩
    obtain ⟨r1, r2, w1, w2, ⟨q1, q2, qa1, qa2⟩, h⟩ := h
    refine zgt h ?_
    clear h sf st
    have lr1 : (rowI r1).length = r1.length := by simp
    have lr2 : (rowI r2).length = r2.length := by simp
    by_cases hboth : 0 < r1.length ∧ 0 < r2.length
    rotate_left
    · have hex : r1.length = 0 ∨ (0 < r1.length ∧ r2.length = 0) := by omega
      rcases hex with hx | ⟨hx1, hx2⟩
      all_goals
        repeat (first | refine gA pk ?_ | (show AL _ _ _ _ _ _ _; first | refine zol tok 3 rfl rfl rfl rfl (by decide) rfl rfl rfl ?_ | refine zol tok 0 rfl rfl rfl rfl (by decide) rfl rfl rfl ?_))
        exact ⟨j + 1, E, ve, ⟨by omega, by omega, by omega, hEs⟩, by omega, GoTo.sub (by exact subQ) (.drop (.keep (.keep (.drop (OSub.refl _)))))⟩
    obtain ⟨b1, b2⟩ := hboth
    have p0 := Int.emod_nonneg c2 (b := ((rowI r1).length : Int)) (by omega)
    have p1 := Int.emod_lt_of_pos c2 (b := ((rowI r1).length : Int)) (by omega)
    have p2 := Int.emod_nonneg c3 (b := ((rowI r2).length : Int)) (by omega)
    have p3 := Int.emod_lt_of_pos c3 (b := ((rowI r2).length : Int)) (by omega)
    have x1 := List.getElem?_eq_getElem (l := r1) (i := (c2 % ((rowI r1).length : Int)).toNat) (by omega)
    have x2 := List.getElem?_eq_getElem (l := r2) (i := (c3 % ((rowI r2).length : Int)).toNat) (by omega)
    generalize r1[(c2 % ((rowI r1).length : Int)).toNat] = z1 at x1
    generalize r2[(c3 % ((rowI r2).length : Int)).toNat] = z2 at x2
    have az1 := qa1 z1 (List.mem_of_getElem? x1)
    have az2 := qa2 z2 (List.mem_of_getElem? x2)
    have hE3 : EdS tn te G (E ++ [(⟨c1 % ((te.map cEdg).length : Int), z1, z2⟩ : Ed)]) := fun e he => by
      rcases List.mem_append.1 he with he | he
      · exact hEs e he
      · rw [List.mem_singleton] at he
        subst he
        exact ⟨⟨hm0, by show c1 % ((te.map cEdg).length : Int) < _; omega⟩, az1.1, az2.1, _, h2t, az1.2, az2.2⟩
    have hset : (E ++ [(⟨c1 % ((te.map cEdg).length : Int), z1, z2⟩ : Ed)]).map cEd = E.map cEd ++ [[AI (c1 % ((te.map cEdg).length : Int)), AI z1, AI z2]] := by simp [cEd]
    repeat (first | refine gN pk ?_ | (show AL _ _ _ _ _ _ _; first | refine zol tok 3 rfl rfl rfl rfl (by decide) rfl rfl rfl ?_ | refine zol tok 0 rfl rfl rfl rfl (by decide) rfl rfl rfl ?_))
    refine zrg ((List.range 34).map fun i => if inL [30, 31, 33] i = true then .eff else if inL [1, 5, 7, 8, 9, 12, 14, 15, 18, 20, 21, 22, 25, 27, 28] i = true then .read else .pure) [30] [0, 1, 2, 3, 4, 5, 6, 7, 8, 9, 10, 11, 12, 13, 14, 15, 16, 17, 18, 19, 20, 21, 22, 23, 24, 25, 26, 27, 28, 29] (.nd 30 [31, 32, 33] .stop .stop) mixed rfl rfl (by decide +kernel) ?_
    repeat' (first | (with_reducible show AG _ _ _ _ _ _ _ _ _ _; first | exact zgn | refine zgs ?_ | refine znd ?_ ?_) | (show AMid _ _ _ _; first | refine zmf ?_ | refine zmg (by first | exact OSub.refl _ | exact .drop (OSub.refl _) | exact .drop (.drop (OSub.refl _))) ?_) | refine gY pk ?_ | (show AL _ _ _ _ _ _ _; first | refine jO tok 4 ?_ | refine jX tok xk ?_ | refine zol tok 3 rfl rfl rfl rfl (by decide) rfl rfl rfl ?_ | refine zol tok 0 rfl rfl rfl rfl (by decide) rfl rfl rfl ?_ | refine s_arrIp tok rfl rfl rfl rfl rfl rfl rfl rfl (by decide) (by decide) ?_ | refine zcv tok rfl rfl rfl rfl rfl rfl rfl (IntWalk.i64_in _ (by omega)) ?_ | refine s_rem rfl rfl rfl rfl rfl rfl (by omega) (by omega) ?_ | refine zoi tok 3 rfl rfl rfl rfl (by decide) rfl rfl rfl rfl rfl rfl p0 p1 ?_ | refine s_loadI tok 3 rfl rfl rfl rfl (by decide) rfl rfl rfl rfl x1 ?_ | refine zoi tok 0 rfl rfl rfl rfl (by decide) rfl rfl rfl rfl rfl rfl p2 p3 ?_ | refine s_loadI tok 0 rfl rfl rfl rfl (by decide) rfl rfl rfl rfl x2 ?_ | refine zba tok rfl rfl rfl rfl rfl rfl rfl rfl (by decide) (fun lv => ?_) | refine zak tok 2 rfl rfl rfl rfl rfl rfl (by decide) rfl rfl rfl rfl (by omega) (by omega) (fun w hw => ?_) | refine zsb tok 4 rfl rfl rfl rfl rfl rfl rfl hw rfl (Nat.le_of_ble_eq_true rfl) rfl ?_) | fail)
    repeat (first | refine gA pk ?_)
    exact ⟨j + 1, E ++ [(⟨c1 % ((te.map cEdg).length : Int), z1, z2⟩ : Ed)], w, ⟨by omega, by omega, by simp; omega, hE3⟩, by omega, GoTo.sub (by exact subQ) (by rw [hset]; exact .drop (.keep (.keep (.drop (OSub.refl _)))))⟩
end Go.Proofs.YtimfponihbfimaaGreat
end
section
namespace Go.Proofs.YtimfponihbfimaaGreat
open Go.Sj Go.Sj.Typ Go.Sj.Sta Go.Sj.Inc Go.Sj.Pln
set_option maxRecDepth 8000
theorem tyG_madeP (nodes edges : List (Int × Int)) : TyG (madeT nodes edges) := by
  have hr := madeNum_rng nodes
  refine ⟨made_small nodes edges, ?_, fun e he => ?_, made_valid nodes edges, by rw [made_nodes]; exact hr.1⟩
  · rw [made_nodes]
    exact pr_of fun j hj => made_node hr.2 hj
  · unfold madeT madeEs at he
    obtain ⟨i, hi, rfl⟩ := List.mem_map.1 he
    unfold madeE
    exact ⟨Int.emod_nonneg _ (by omega), Int.emod_nonneg _ (by omega)⟩
theorem edS_TV {t : Tys} (ht : TyG t) {g : Gr} (hn : g.nodes.length ≤ 8) (he : g.edges.length ≤ 10) (h1 : ∀ x ∈ g.nodes, 0 ≤ x ∧ x < t.nodes.length) (h2 : EdS t.nodes t.edges g.nodes g.edges) : TV t g := by
  have s1 := ht.sm.nodes
  have s2 := ht.sm.edges
  have hat : ∀ i : Int, 0 ≤ i ∧ i < g.nodes.length → 0 ≤ nodeAt g i ∧ nodeAt g i < t.nodes.length := fun i hi => h1 _ (nodeAt_mem hi.1 hi.2)
  refine ⟨ht.vl, ⟨by omega, by omega, fun x hx => ?_, fun e hx => ?_⟩, h1, fun e hx => ?_⟩
  · have := h1 x hx
    omega
  · obtain ⟨a, b, c, _⟩ := h2 e hx
    exact ⟨by omega, b, c⟩
  · obtain ⟨a, b, c, y, d1, d2, d3⟩ := h2 e hx
    refine ⟨a, ?_⟩
    have hg : givenR t [nodeAt g e.fr, nodeAt g e.to] = 0 := by
      have k1 := hat _ b
      have k2 := hat _ c
      unfold givenR
      rw [if_neg (Decidable.not_not.2 ht.vl), if_neg]
      simp only [List.any_cons, List.any_nil, outB, Bool.or_false, Bool.or_eq_true, decide_eq_true_eq]
      omega
    unfold fitsR
    rw [if_neg (by rw [hg]; omega), d1]
    simp only [Bool.and_eq_true, decide_eq_true_eq]
    exact ⟨d2, d3⟩
theorem tv_typ {t : Tys} {g : Gr} (h : TV t g) : typT t g = true := by
  unfold typT
  rw [Bool.and_eq_true]
  constructor
  · simp only [Bool.not_eq_true', List.any_eq_false, decide_eq_true_eq]
    intro x hx
    have := h.nodes x hx
    omega
  · simp only [Bool.not_eq_true', List.any_eq_false, decide_eq_true_eq]
    intro e he
    have := (h.edges e he).1
    omega
theorem tv_valid {t : Tys} {p g : Gr} (hp : TV t p) (hg : TV t g) : validS t p g = 0 := by
  unfold validS
  rw [if_neg (Decidable.not_not.2 hp.types), if_neg (Decidable.not_not.2 (gvalid_zero.2 hp.graph)), if_neg (Decidable.not_not.2 (gvalid_zero.2 hg.graph)), if_pos (by rw [tv_typ hp, tv_typ hg]; rfl)]
theorem runR_eq {t : Tys} {p g : Gr} {l : List Opn} (inj : Bool) (hv : validS t p g = 0) (hl : planE p (kn0 p) l = 0) : runR t p g l inj = resR (runM (extM (seaA t p g inj)) [noMo p] l) := by
  unfold runR
  rw [if_neg (Decidable.not_not.2 hv), if_neg (Decidable.not_not.2 hl)]
theorem run_agree {t : Tys} {p g : Gr} {l : List Opn} (inj : Bool) (hv : validS t p g = 0) (hl : planE p (kn0 p) l = 0) :
    (runR t p g l inj).2.2 = 3 ∨ ((runR t p g l inj).2.2 = 0 ∧ allR t p g inj = ((runR t p g l inj).1, 0) ∧ (runR t p g l inj).2.1.length = l.length ∧ (l ≠ [] → (runR t p g l inj).2.1.getLast? = some ((runR t p g l inj).1.length : Int)) ∧ (runR t p g l inj).1.length ≤ 5000 ∧ ∀ m ∈ (runR t p g l inj).1, m.1.length = p.nodes.length ∧ m.2.length = p.edges.length) := by
  rw [runR_eq inj hv hl]
  obtain ⟨h1, h2, h3, h4, h5⟩ := zvz hv
  cases hr : runM (extM (seaA t p g inj)) [noMo p] l with
  | none => exact .inl rfl
  | some r =>
    obtain ⟨a, b, c, d, e, f⟩ := run_mat (S := seaA t p g inj) rfl rfl h2 h3 hl hr
    have hp := srtL_perm r.1
    have hm : srtL r.1 = matL (seaA t p g inj) := srtM_ext (le_srt (srtL_le r.1) (hp.nodup_iff.2 a)) (mat_srt _) fun x => hp.mem_iff.trans (b x)
    have hlen : (srtL r.1).length = r.1.length := hp.length_eq
    refine .inr ⟨rfl, ?_, e, fun hne => ?_, ?_, fun m hm => ?_⟩
    · show allR t p g inj = (srtL r.1, 0)
      unfold allR capR
      rw [if_neg (Decidable.not_not.2 hv), if_neg (by omega), hm]
    · show r.2.getLast? = some ((srtL r.1).length : Int)
      rw [hlen]
      exact f hne
    · show (srtL r.1).length ≤ 5000
      omega
    · have hm : m ∈ srtL r.1 := hm
      have := mat_mem.1 ((b m).1 (hp.mem_iff.1 hm))
      exact ⟨this.nl, this.el⟩
theorem run_inj {t : Tys} {p g : Gr} {l : List Opn} (hv : validS t p g = 0) (hl : planE p (kn0 p) l = 0) :
    (runR t p g l false).2.2 = 3 ∨ ((runR t p g l false).2.2 = 0 ∧ (runR t p g l true).2.2 = 0 ∧ (runR t p g l true).2.1.length = (runR t p g l false).2.1.length ∧ ∀ (i : Nat) (x y : Int), (runR t p g l true).2.1[i]? = some x → (runR t p g l false).2.1[i]? = some y → x ≤ y) := by
  rw [runR_eq true hv hl, runR_eq false hv hl]
  cases hr : runM (extM (seaA t p g false)) [noMo p] l with
  | none => exact .inl rfl
  | some r =>
    obtain ⟨r', h1, h2, h3⟩ := run_sub (S := seaA t p g false) l [noMo p] [noMo p] (List.Sublist.refl _) r hr
    have h1 : runM (extM (seaA t p g true)) [noMo p] l = some r' := h1
    rw [h1]
    exact .inr ⟨rfl, rfl, h2, h3⟩
theorem run_exact {t : Tys} {p g : Gr} {l : List Opn} (hp : TV t p) (hg : TV t g) (hl : planE p (kn0 p) l = 0) :
    (∃ c, costR t (ofS g) p l = (c, 0) ∧ (l = [] → c = 0) ∧ ((runR t p g l false).2.2 = 3 ∨ ((runR t p g l false).2.2 = 0 ∧ (runR t p g l false).2.1.length = l.length ∧ (l ≠ [] → ∃ z, (runR t p g l false).2.1[0]? = some z ∧ z ≤ c ∧ (l.length = 1 → c = z))))) := by
  have hv := tv_valid hp hg
  have hP : Prc t (ofS g) p := ⟨ofS_valid hg, hp.graph, tv_typ hp⟩
  refine ⟨costL t (ofS g) p l, ?_, fun e => ?_, ?_⟩
  · unfold costR
    rw [if_neg (Decidable.not_not.2 (pricE_zero.2 hP)), if_neg (Decidable.not_not.2 hl)]
  · subst e
    rfl
  · have ha := run_agree false hv hl
    rw [runR_eq false hv hl] at ha ⊢
    cases hr : runM (extM (seaA t p g false)) [noMo p] l with
    | none => exact .inl rfl
    | some r =>
      rw [hr] at ha
      refine .inr ⟨rfl, ?_, fun hne => ?_⟩
      · rcases ha with h | h
        · cases h
        · exact h.2.2.1
      · cases l with
        | nil => exact absurd rfl hne
        | cons o l =>
          obtain ⟨z, a, b, c⟩ := exact_cost hg hp.graph (tv_typ hp) hl hr
          refine ⟨z, a, b, fun h => c ?_⟩
          rw [List.length_cons] at h
          exact List.eq_nil_of_length_eq_zero (by omega)
end Go.Proofs.YtimfponihbfimaaGreat
end
section
namespace Go.Proofs.YtimfponihbfimaaGreat
open Go.Sj Go.Sj.Typ Go.Sj.Sta Go.Sj.Inc Go.Sj.Can Go.Sj.Pln
set_option maxRecDepth 8000
set_option maxHeartbeats 16000000
structure DrP where
  nodes : List (Int × Int)
  edges : List (Int × Int)
  p : Dr5
  g : Dr5
abbrev drPL (d : DrP) : List AV := [.im 2 (d.nodes.map c82), .im 2 (d.edges.map c82), bytesA d.p.nodes, .im 3 (d.p.edges.map c83), bytesA d.g.nodes, .im 3 (d.g.edges.map c83)]
abbrev drPA (d : DrP) : AV := .agg (drPL d)
structure OkDP (d : DrP) : Prop where
  n : Cd d.nodes
  e : Cd d.edges
  nl : d.nodes.length ≤ 140737488355328
  el : d.edges.length ≤ 140737488355328
  p : OkD5 d.p
  g : OkD5 d.g
abbrev RDrP := List (List Int) × List (List Int) × RDr5 × RDr5 × Unit
def toDrP (x : RDrP) : DrP := ⟨x.1.map toC2, x.2.1.map toC2, toDr5 x.2.2.1, toDr5 x.2.2.2.1⟩
def gDrP (x : RDrP) : List AV := [.im 2 (x.1.map g8s)] ++ ([.im 2 (x.2.1.map g8s)] ++ (gDr5 x.2.2.1 ++ (gDr5 x.2.2.2.1 ++ [])))
theorem gDr5P_eq {x : RDr5} (hx : okRD5 x) : gDr5 x = dr5L (toDr5 x) := by
  have e3 : x.2.1.map g8s = (x.2.1.map toC3).map c83 := by rw [List.map_map]; exact List.map_congr_left fun a ha => toC3_c (hx.2.1.1 a ha).1
  show [AV.im 1 (x.1.map fun n => [.lit (.int .u8 n)]), AV.im 3 (x.2.1.map g8s)] = _
  rw [e3]; rfl
abbrev okRDP (x : RDrP) : Prop := ((∀ a ∈ x.1, a.length = 2 ∧ ∀ m ∈ a, (Lit.int .u8 m).wf = true) ∧ x.1.length ≤ reachBytes) ∧ ((∀ a ∈ x.2.1, a.length = 2 ∧ ∀ m ∈ a, (Lit.int .u8 m).wf = true) ∧ x.2.1.length ≤ reachBytes) ∧
  okRD5 x.2.2.1 ∧ okRD5 x.2.2.2.1 ∧ True
theorem drfP_vr {σ : Hp} {v : Value} {x : RDrP} (hx : okRDP x) (h : VR σ (.agg (gDrP x)) v) : VR σ (drPA (toDrP x)) v := by
  have e1 : x.1.map g8s = (x.1.map toC2).map c82 := by rw [List.map_map]; exact List.map_congr_left fun a ha => toC2_c (hx.1.1 a ha).1
  have e2 : x.2.1.map g8s = (x.2.1.map toC2).map c82 := by rw [List.map_map]; exact List.map_congr_left fun a ha => toC2_c (hx.2.1.1 a ha).1
  have e : gDrP x = drPL (toDrP x) := by
    unfold gDrP
    rw [e1, e2, gDr5P_eq hx.2.2.1, gDr5P_eq hx.2.2.2.1]
    rfl
  rw [e] at h
  exact h
theorem drfP_ok {x : RDrP} (hx : okRDP x) : OkDP (toDrP x) := by
  have r1 := hx.1.2
  have r2 := hx.2.1.2
  unfold reachBytes at r1 r2
  refine ⟨fun c hc => ?_, fun c hc => ?_, ?_, ?_, dr5_ok hx.2.2.1, dr5_ok hx.2.2.2.1⟩
  · obtain ⟨a, ha, rfl⟩ := List.mem_map.1 hc
    exact toC2_ok (hx.1.1 a ha)
  · obtain ⟨a, ha, rfl⟩ := List.mem_map.1 hc
    exact toC2_ok (hx.2.1.1 a ha)
  · show (x.1.map toC2).length ≤ _
    rw [List.length_map]; omega
  · show (x.2.1.map toC2).length ≤ _
    rw [List.length_map]; omega
end Go.Proofs.YtimfponihbfimaaGreat
end
section
namespace Go.Proofs.YtimfponihbfimaaGreat
open Go.Sj Go.Sj.Typ
set_option maxRecDepth 8000
set_option maxHeartbeats 4000000
abbrev SN : AV := .lit (.slice none 0 0)
def rawA (i : Nat) (y : Int) : AV := if y % 4 = 1 then .im 4 [[AS (nmS lower i), AI (-3), AI (3 + y / 4 % 9), SN]] else if y % 4 = 2 then .im 4 [[AS (nmS lower i), AI 0, AI 1, .im 1 [[AS offS], [AS onS]]]] else SN
def rawN (i : Nat) (c : Int × Int) : List AV := [AS (nmS upper i), AI (c.1 % (i + 1) - 1), AB (decide (c.1 / 16 % 4 = 3)), rawA i c.2]
def rawNs (l : List (Int × Int)) (n : Nat) : List (List AV) := (List.range n).map fun i => rawN i (codeAt l i)
theorem rawA_sub (i : Nat) (y : Int) : Sub (rawA i y) (attrsA (madeA i y)) := by
  unfold rawA madeA
  split
  · exact Sub.im ⟨⟨Sub.refl _, Sub.refl _, Sub.refl _, Sub.nil 1, trivial⟩, trivial⟩
  · split
    · exact Sub.refl _
    · exact Sub.nil 4
theorem rawNs_sub (l : List (Int × Int)) (n : Nat) : SubLL (rawNs l n) ((madeNs l n).map cNod) := by
  unfold rawNs madeNs
  rw [List.map_map]
  exact subLL_map (f := fun i => rawN i (codeAt l i)) (g := fun i => cNod (madeN i (codeAt l i).1 (codeAt l i).2)) (fun i => by unfold rawN cNod madeN; exact ⟨Sub.refl _, Sub.refl _, Sub.refl _, rawA_sub _ _, trivial⟩) _
theorem rawNs_succ (l : List (Int × Int)) (n : Nat) : rawNs l (n + 1) = rawNs l n ++ [rawN n (codeAt l n)] := by simp [rawNs, List.range_succ]
theorem madeEs_succ (n : Nat) (l : List (Int × Int)) (m : Nat) : madeEs n l (m + 1) = madeEs n l m ++ [madeE n m (codeAt l m)] := by simp [madeEs, List.range_succ]
theorem codeAt_some {l : List (Int × Int)} {i : Nat} {c : Int × Int} (h : l[i]? = some c) : codeAt l i = c := by simp [codeAt, List.getD_eq_getElem?_getD, h]
theorem codeAt_none {l : List (Int × Int)} {i : Nat} (h : l.length ≤ i) : codeAt l i = (0, 0) := by simp [codeAt, List.getD_eq_getElem?_getD, h]
theorem rawA_cell (i : Nat) (y : Int) : (rawA i y).cell = true := by
  unfold rawA
  split
  · rfl
  · split <;> rfl
theorem raw4_cell (a : ByteArray) (b : Int) (c : Bool) (i : Nat) (y : Int) : ([AS a, AI b, AB c, rawA i y] : List AV).all AV.cell = true := by
  simp only [List.all_cons, List.all_nil, rawA_cell, Bool.and_true]
  rfl
theorem Made_spec (nodes edges : List (Int × Int)) (hn : Cd nodes) (he : Cd edges) (hnl : nodes.length ≤ 140737488355328) (hel : edges.length ≤ 140737488355328) : Pure Tryz.prog 55 [.im 2 (nodes.map c82), .im 2 (edges.map c82)] (tysA (madeT nodes edges)) := by
  have lnn : (nodes.map c82).length = nodes.length := by simp
  have len : (edges.map c82).length = edges.length := by simp
  have hmn := madeNum_rng nodes
  have hrn := fun i => codeAt_rng hn i
  have hre := fun i => codeAt_rng he i
  refine a_enterC Tryz.func55 (by kernel_rfl) rfl Tryz.ntmps55 rfl (tok _ _ rfl) (by simp) ?_
  refine a_seq ?_
  refine a_reg ?_
  repeat (first | refine gZ pk ?_ | (show AL _ _ _ _ _ _ _; first | refine jL tok (fun u4 => ?_)))
  refine a_reg ?_
  repeat (first | refine gZ pk ?_ | (show AL _ _ _ _ _ _ _; first | refine jL tok (fun u5 => ?_)))
  refine a_reg ?_
  repeat (first | refine gZ pk ?_)
  refine a_loop2 (fun (i : Nat) (v : Value) => [(0, .im 2 (nodes.map c82)), (1, .im 2 (edges.map c82)), (4, .pt u4 0 0 0), (5, .pt u5 0 0 0), (6, AI i)]) (fun i v => [(v, .row 138 4 (rawNs nodes i)), (u5, .box [.lit v, SN]), (u4, .box [SN, SN])]) (fun i v => i ≤ zmu nodes) (fun i v => zmu nodes - i) 0 (.slice none 0 0) (Nat.zero_le _) ?_ (.free (OSub.refl _)) ?_
  · exact subQ
  · intro i v hi
    by_cases hlt : i < zmu nodes
    · have hgo : i = 0 ∨ (i < nodes.length ∧ i < 6) := by unfold zmu at hlt; split at hlt <;> omega
      have hi6 : i < 6 := by omega
      have hcr := hrn i
      have hsucc := rawNs_succ nodes i
      have lr : (rawNs nodes i).length = i := by simp [rawNs]
      obtain ⟨x, y, hcode⟩ : ∃ x y, codeAt nodes i = (x, y) := ⟨_, _, rfl⟩
      rw [hcode] at hcr hsucc
      simp only at hcr
      have hm1 := Int.emod_nonneg x (b := (i : Int) + 1) (by omega)
      have hm2 := Int.emod_lt_of_pos x (b := (i : Int) + 1) (by omega)
      refine a_mid (fun st L => GoTo 124 st L (lk [(0, .im 2 (nodes.map c82)), (1, .im 2 (edges.map c82)), (4, .pt u4 0 0 0), (5, .pt u5 0 0 0), (6, AI i)]) [(v, .row 138 4 (rawNs nodes i)), (u5, .box [.lit v, SN]), (u4, .box [SN, SN])]) ?_ (fun st L h => zgt h ?_)
      · rcases Nat.eq_zero_or_pos i with h0 | h0
        all_goals
          repeat (first | refine gA pk ?_)
          exact GoTo.sub (by exact subQ) (OSub.refl _)
      · refine a_seq ?_
        refine a_block ?_
        refine a_seq ?_
        refine a_reg ?_
        repeat (first | refine gY pk ?_ | (show AL _ _ _ _ _ _ _; first | refine s_zeroArr tok rfl rfl rfl rfl rfl rfl ?_ | refine jL tok (fun u7 => ?_) | refine jS tok 0 ?_))
        refine a_mid (fun st L => GoTo 124 st L (lk [(0, .im 2 (nodes.map c82)), (1, .im 2 (edges.map c82)), (4, .pt u4 0 0 0), (5, .pt u5 0 0 0), (6, AI i), (7, .pt u7 0 0 0)]) [(u7, .box [A8 x, A8 y]), (v, .row 138 4 (rawNs nodes i)), (u5, .box [.lit v, SN]), (u4, .box [SN, SN])]) ?_ (fun st L h => zgt h ?_)
        · by_cases hA : i < nodes.length
          · have hx := List.getElem?_eq_getElem hA
            rw [codeAt_some hx] at hcode
            rw [hcode] at hx
            have xk : (nodes.map c82)[(i : Int).toNat]? = some [A8 x, A8 y] := zmp (f := c82) hx
            repeat (first | refine gA pk ?_ | (show AL _ _ _ _ _ _ _; first | refine jX tok xk ?_ | refine jS tok 0 ?_))
            exact GoTo.sub (by exact subQ) (OSub.refl _)
          · rw [codeAt_none (by omega)] at hcode
            obtain ⟨rfl, rfl⟩ : x = 0 ∧ y = 0 := by cases hcode; exact ⟨rfl, rfl⟩
            repeat (first | refine gA pk ?_)
            exact GoTo.sub (by exact subQ) (OSub.refl _)
        · refine zfb 0 7 rfl rfl ?_
          refine a_seq ?_
          refine a_regP mixed (by decide +kernel) ?_
          repeat (first | refine gY pk ?_ | (show AL _ _ _ _ _ _ _; first | refine jL tok (fun u8 => ?_) | refine jS tok 0 ?_ | refine s_strSubI tok i (i + 1) rfl rfl rfl rfl rfl rfl (by exact ⟨_, _, rfl, rfl⟩) (by exact ⟨_, _, rfl, by omega⟩) (by omega) (by first | (show i + 1 ≤ 6; omega) | (show i + 1 ≤ 5; omega)) ?_ | refine s_arrIp tok rfl rfl rfl rfl rfl rfl rfl rfl (by decide) (by decide) ?_ | refine zcv tok rfl rfl rfl rfl rfl rfl rfl (IntWalk.i64_in _ (by omega)) ?_ | refine s_rem rfl rfl rfl rfl rfl rfl (by omega) (by omega) ?_ | refine s_quo rfl rfl rfl rfl rfl rfl (by omega) (by omega) (IntWalk.u8_in _ (by omega)) ?_ | refine s_eqD rfl rfl rfl rfl rfl rfl ?_))
          refine a_mid (fun st L => GoTo 124 st L (lk [(0, .im 2 (nodes.map c82)), (1, .im 2 (edges.map c82)), (4, .pt u4 0 0 0), (5, .pt u5 0 0 0), (6, AI i), (8, .pt u8 0 0 0)]) [(u8, .box [AS (nmS upper i), AI (x % (i + 1) - 1), AB (decide (x / 16 % 4 = 3)), rawA i y]), (v, .row 138 4 (rawNs nodes i)), (u5, .box [.lit v, SN]), (u4, .box [SN, SN])]) ?_ (fun st L h => zgt h ?_)
          · by_cases h1 : y % 4 = 1
            · rw [show rawA i y = .im 4 [[AS (nmS lower i), AI (-3), AI (3 + y / 4 % 9), SN]] by simp [rawA, h1]]
              repeat (first | refine gA pk ?_ | (show AL _ _ _ _ _ _ _; first | refine s_arrIp tok rfl rfl rfl rfl rfl rfl rfl rfl (by decide) (by decide) ?_ | refine zcv tok rfl rfl rfl rfl rfl rfl rfl (IntWalk.i64_in _ (by omega)) ?_ | refine s_rem rfl rfl rfl rfl rfl rfl (by omega) (by omega) ?_ | refine s_quo rfl rfl rfl rfl rfl rfl (by omega) (by omega) (IntWalk.u8_in _ (by omega)) ?_ | refine s_strSubI tok i (i + 1) rfl rfl rfl rfl rfl rfl (by exact ⟨_, _, rfl, rfl⟩) (by exact ⟨_, _, rfl, by omega⟩) (by omega) (by first | (show i + 1 ≤ 6; omega) | (show i + 1 ≤ 5; omega)) ?_ | refine s_frzNow 0 rfl rfl rfl (s_build tok rfl rfl rfl rfl rfl rfl rfl rfl (by decide) (by decide) (fun v => AL.nil ⟨v, rfl, rfl, rfl⟩)) ?_ | refine jS tok 0 ?_))
              exact GoTo.sub (by exact subQ) (OSub.refl _)
            · by_cases h2 : y % 4 = 2
              · rw [show rawA i y = .im 4 [[AS (nmS lower i), AI 0, AI 1, .im 1 [[AS offS], [AS onS]]]] by simp [rawA, h2]]
                repeat (first | refine gA pk ?_ | (show AL _ _ _ _ _ _ _; first | refine s_arrIp tok rfl rfl rfl rfl rfl rfl rfl rfl (by decide) (by decide) ?_ | refine zcv tok rfl rfl rfl rfl rfl rfl rfl (IntWalk.i64_in _ (by omega)) ?_ | refine s_rem rfl rfl rfl rfl rfl rfl (by omega) (by omega) ?_ | refine s_quo rfl rfl rfl rfl rfl rfl (by omega) (by omega) (IntWalk.u8_in _ (by omega)) ?_ | refine s_strSubI tok i (i + 1) rfl rfl rfl rfl rfl rfl (by exact ⟨_, _, rfl, rfl⟩) (by exact ⟨_, _, rfl, by omega⟩) (by omega) (by first | (show i + 1 ≤ 6; omega) | (show i + 1 ≤ 5; omega)) ?_ | refine s_frzNow 0 rfl rfl rfl (s_build tok rfl rfl rfl rfl rfl rfl rfl rfl (by decide) (by decide) (fun v => AL.nil ⟨v, rfl, rfl, rfl⟩)) ?_ | refine jS tok 0 ?_))
                exact GoTo.sub (by exact subQ) (OSub.refl _)
              · rw [show rawA i y = SN by simp [rawA, h1, h2]]
                repeat (first | refine gA pk ?_ | (show AL _ _ _ _ _ _ _; first | refine s_arrIp tok rfl rfl rfl rfl rfl rfl rfl rfl (by decide) (by decide) ?_ | refine zcv tok rfl rfl rfl rfl rfl rfl rfl (IntWalk.i64_in _ (by omega)) ?_ | refine s_rem rfl rfl rfl rfl rfl rfl (by omega) (by omega) ?_ | refine s_quo rfl rfl rfl rfl rfl rfl (by omega) (by omega) (IntWalk.u8_in _ (by omega)) ?_ | refine s_strSubI tok i (i + 1) rfl rfl rfl rfl rfl rfl (by exact ⟨_, _, rfl, rfl⟩) (by exact ⟨_, _, rfl, by omega⟩) (by omega) (by first | (show i + 1 ≤ 6; omega) | (show i + 1 ≤ 5; omega)) ?_ | refine s_frzNow 0 rfl rfl rfl (s_build tok rfl rfl rfl rfl rfl rfl rfl rfl (by decide) (by decide) (fun v => AL.nil ⟨v, rfl, rfl, rfl⟩)) ?_ | refine jS tok 0 ?_))
                exact GoTo.sub (by exact subQ) (OSub.refl _)
          · have hr : rawN i (x, y) = [AS (nmS upper i), AI (x % (i + 1) - 1), AB (decide (x / 16 % 4 = 3)), rawA i y] := rfl
            repeat (first | refine gA pk ?_ | (show AL _ _ _ _ _ _ _; first | refine jO tok 0 ?_ | refine jO tok 2 ?_))
            refine zba tok rfl rfl rfl rfl rfl rfl rfl rfl (by decide) (fun w => ?_)
            refine zak tok 1 rfl rfl rfl rfl rfl rfl (by decide) rfl rfl rfl (raw4_cell _ _ _ _ _) (by omega) (by omega) (fun v' hv => ?_)
            repeat (first | refine gA pk ?_ | (show AL _ _ _ _ _ _ _; first | refine s_store (a := .lit v') tok 2 rfl rfl rfl rfl rfl rfl hv rfl (by decide) rfl rfl rfl (Nat.le_of_ble_eq_true rfl) ?_ | refine s_store (a := .lit v') tok 3 rfl rfl rfl rfl rfl rfl hv rfl (by decide) rfl rfl rfl (Nat.le_of_ble_eq_true rfl) ?_))
            refine ⟨i + 1, v', by omega, by omega, by exact subQ, ?_⟩
            rw [hsucc, hr]
            first | exact .drop (.drop (OSub.refl _)) | exact .drop (OSub.refl _)
    · obtain rfl : i = zmu nodes := by omega
      have hex : nodes.length ≤ zmu nodes ∨ 6 ≤ zmu nodes := by unfold zmu; split <;> omega
      refine AWp.mono (Q := fun e st L => e = .exit 0 ∧ GoTo 124 st L (lk [(1, .im 2 (edges.map c82)), (4, .pt u4 0 0 0), (5, .pt u5 0 0 0)]) [(v, .row 138 4 (rawNs nodes (zmu nodes))), (u5, .box [.lit v, SN]), (u4, .box [SN, SN])]) ?_ (fun e st L h => ?_)
      · by_cases hA : zmu nodes < nodes.length
        all_goals
          repeat (first | refine gA pk ?_)
          exact ⟨rfl, GoTo.sub (by exact subQ) (OSub.refl _)⟩
      · obtain ⟨rfl, h⟩ := h
        refine zgt h ?_
        repeat (first | refine gA pk ?_)
        refine a_loop2 (fun (i : Nat) (w : Value) => [(1, .im 2 (edges.map c82)), (4, .pt u4 0 0 0), (5, .pt u5 0 0 0), (10, AI i)]) (fun i w => [(w, .row 140 7 ((madeEs (zmu nodes) edges i).map cEdg)), (v, .row 138 4 (rawNs nodes (zmu nodes))), (u5, .box [.lit v, .lit w]), (u4, .box [SN, SN])]) (fun i w => i ≤ min 5 edges.length) (fun i w => min 5 edges.length - i) 0 (.slice none 0 0) (Nat.zero_le _) ?_ (.free (OSub.refl _)) ?_
        · exact subQ
        · intro i w hi
          by_cases hlt : i < min 5 edges.length
          · have hx := List.getElem?_eq_getElem (l := edges) (i := i) (by omega)
            have hcr := hre i
            rw [codeAt_some hx] at hcr
            have hsucc := madeEs_succ (zmu nodes) edges i
            rw [codeAt_some hx] at hsucc
            generalize edges[i] = c at *
            obtain ⟨x, y⟩ := c
            simp only at hcr
            have xk : (edges.map c82)[(i : Int).toNat]? = some [A8 x, A8 y] := zmp (f := c82) hx
            have lr : (rawNs nodes (zmu nodes)).length = zmu nodes := by simp [rawNs]
            have le' : ((madeEs (zmu nodes) edges i).map cEdg).length = i := by simp [madeEs]
            have a1 := Int.emod_nonneg x (b := (zmu nodes : Int)) (by omega)
            have a2 := Int.emod_lt_of_pos x (b := (zmu nodes : Int)) (by omega)
            repeat (first | refine gN pk ?_ | (show AL _ _ _ _ _ _ _; first | refine jO tok 2 ?_ | refine zol tok 1 rfl rfl rfl rfl (by decide) rfl rfl rfl ?_))
            rw [lr]
            refine a_regTK (ks := (List.range 27).map fun i => if i = 1 ∨ i = 23 ∨ i = 24 ∨ i = 26 then .eff else .pure) (.br [0, 2, 3, 4, 5, 6, 7, 8, 9, 10, 11, 12, 13, 14, 15, 16, 17, 18, 19, 20, 21, 22] (.seg [1, 23, 24, 25, 26]) (.seg [23, 1, 24, 25, 26])) mixed rfl rfl (by decide +kernel) (atk_br ?_)
            have b1 := Int.emod_nonneg y (b := (zmu nodes : Int)) (by omega)
            have b2 := Int.emod_lt_of_pos y (b := (zmu nodes : Int)) (by omega)
            have he' : cEdg (madeE (zmu nodes) i (x, y)) = [AS (nmS edgeL i), AI (x % (zmu nodes : Int)), AI (y % (zmu nodes : Int)), AI 0, AI (-1), AI 0, AI (-1)] := rfl
            repeat (first | refine gY pk ?_ | (show AL _ _ _ _ _ _ _; first | refine jX tok xk ?_ | refine s_arrIp tok rfl rfl rfl rfl rfl rfl rfl rfl (by decide) (by decide) ?_ | refine zcv tok rfl rfl rfl rfl rfl rfl rfl (IntWalk.i64_in _ (by omega)) ?_ | refine s_rem rfl rfl rfl rfl rfl rfl (by omega) (by omega) ?_ | refine s_strSubI tok i (i + 1) rfl rfl rfl rfl rfl rfl (by exact ⟨_, _, rfl, rfl⟩) (by exact ⟨_, _, rfl, by omega⟩) (by omega) (by first | (show i + 1 ≤ 6; omega) | (show i + 1 ≤ 5; omega)) ?_))
            refine ⟨atk_seg ?_, atk_seg ?_⟩
            · repeat (first | refine gY pk ?_ | (show AL _ _ _ _ _ _ _; first | refine jO tok 2 ?_))
              refine zba tok rfl rfl rfl rfl rfl rfl rfl rfl (by decide) (fun u => ?_)
              refine zak tok 0 rfl rfl rfl rfl rfl rfl (by decide) rfl rfl rfl rfl (by omega) (by omega) (fun v' hv => ?_)
              repeat (first | refine gA pk ?_ | (show AL _ _ _ _ _ _ _; first | refine s_store (a := .lit v') tok 2 rfl rfl rfl rfl rfl rfl hv rfl (by decide) rfl rfl rfl (Nat.le_of_ble_eq_true rfl) ?_))
              refine ⟨i + 1, v', by omega, by omega, by exact subQ, ?_⟩
              rw [hsucc, List.map_append, List.map_cons, List.map_nil, he']
              exact OSub.refl _
            · refine zba tok rfl rfl rfl rfl rfl rfl rfl rfl (by decide) (fun u => ?_)
              repeat (first | refine gY pk ?_ | (show AL _ _ _ _ _ _ _; first | refine jO tok 3 ?_))
              refine zak tok 0 rfl rfl rfl rfl rfl rfl (by decide) rfl rfl rfl rfl (by omega) (by omega) (fun v' hv => ?_)
              repeat (first | refine gA pk ?_ | (show AL _ _ _ _ _ _ _; first | refine s_store (a := .lit v') tok 2 rfl rfl rfl rfl rfl rfl hv rfl (by decide) rfl rfl rfl (Nat.le_of_ble_eq_true rfl) ?_))
              refine ⟨i + 1, v', by omega, by omega, by exact subQ, ?_⟩
              rw [hsucc, List.map_append, List.map_cons, List.map_nil, he']
              exact OSub.refl _
          · obtain rfl : i = min 5 edges.length := by omega
            refine AWp.mono (Q := fun e st L => e = .exit 3 ∧ GoTo 124 st L (lk [(4, .pt u4 0 0 0), (5, .pt u5 0 0 0)]) [(w, .row 140 7 ((madeEs (zmu nodes) edges (min 5 edges.length)).map cEdg)), (v, .row 138 4 (rawNs nodes (zmu nodes))), (u5, .box [.lit v, .lit w]), (u4, .box [SN, SN])]) ?_ (fun e st L h => ?_)
            · by_cases hA : min 5 edges.length < edges.length
              all_goals
                repeat (first | refine gA pk ?_)
                exact ⟨rfl, GoTo.sub (by exact subQ) (OSub.refl _)⟩
            · obtain ⟨rfl, h⟩ := h
              refine zgt h ?_
              refine a_know 0 rfl (fun hw => ?_)
              refine a_know 1 rfl (fun hv => ?_)
              repeat (first | refine gV pk ?_ | (show AL _ _ _ _ _ _ _; first | refine jO tok 2 ?_ | refine s_store (a := .agg [.lit v, .lit w]) tok 3 rfl rfl rfl rfl rfl rfl (by simp [AV.storable, AV.cell, hv, hw]) rfl (by decide) rfl rfl rfl (Nat.le_of_ble_eq_true rfl) ?_))
              refine a_ownSub [(w, .row 140 7 ((madeEs (zmu nodes) edges (min 5 edges.length)).map cEdg)), (v, .row 138 4 (rawNs nodes (zmu nodes))), (u4, .box [.lit v, .lit w])] (.keep (.keep (.drop (.keep .nil)))) ?_
              refine a_freeze 0 rfl _ (FZS.refl _) [(v, .row 138 4 (rawNs nodes (zmu nodes))), (u4, .box [.lit v, .im 7 ((madeEs (zmu nodes) edges (min 5 edges.length)).map cEdg)])] ⟨rfl, rfl, rfl, rfl, by simp [rawNs, rawN], FZL.refl _, rfl, ⟨FZ.refl _, FZ.here, trivial⟩, trivial⟩ ?_
              refine a_freeze 0 rfl _ (FZS.refl _) [(u4, .box [.im 4 (rawNs nodes (zmu nodes)), .im 7 ((madeEs (zmu nodes) edges (min 5 edges.length)).map cEdg)])] ⟨rfl, ⟨FZ.here, FZ.refl _, trivial⟩, trivial⟩ ?_
              refine zfb 0 4 rfl rfl ?_
              refine a_ret ?_
              refine ⟨.inr rfl, _, .agg [.im 4 (rawNs nodes (zmu nodes)), .im 7 ((madeEs (zmu nodes) edges (min 5 edges.length)).map cEdg)], tysA (madeT nodes edges), [], rfl, rfl, Turn.of (Sub.agg (m := [nodsA (madeNs nodes (zmu nodes)), edgsA (madeEs (zmu nodes) edges (min 5 edges.length))]) ⟨Sub.im (rawNs_sub _ _), Sub.refl _, trivial⟩) (OSub.refl _), rfl, rfl⟩
end Go.Proofs.YtimfponihbfimaaGreat
end
section
namespace Go.Proofs.YtimfponihbfimaaGreat
open Go.Sj Go.Sj.Typ Go.Sj.Sta Go.Sj.Inc Go.Sj.Can Go.Sj.Pln
set_option maxRecDepth 8000
set_option maxHeartbeats 16000000
section
variable {P : Program} {N : Nat} {ops : List Oper} {Q : St → Own → Prop} {L : Own} {rest : List (Oper × Kd)} {l : List (Nat × AV)} {k : Kd} {q : Nat}
end
structure CsF (t : Tys) (p g : Gr) : Prop where
  sm : Small t
  tp : TV t p
  tg : TV t g
  pn : p.nodes.length ≤ 3
  pe : p.edges.length ≤ 3
  gn : g.nodes.length ≤ 7
  ge : g.edges.length ≤ 10
theorem lmade_spec (d : DrP) (hd : OkDP d) : Go.Sj.ACalls Tryz.prog 18 [drPA d] [] (fun y L => (y = .tup [.agg [nilS, nilS, nilS, nilS, nilS, nilS], AB false] ∨ ∃ (t : Tys) (p g : Gr), y = .tup [cseA t p g, AB true] ∧ CsF t p g) ∧ L = []) := by
  obtain ⟨dn, de, ⟨pn, pe⟩, ⟨gn, ge⟩⟩ := d
  obtain ⟨h1, h2, h3, h4, h5, h6⟩ := hd
  simp only at h1 h2 h3 h4 h5 h6
  have sT := Made_spec dn de h1 h2 h3 h4
  have hT := tyG_madeP dn de
  generalize madeT dn de = t at *
  have sP := made17S_spec t hT ⟨pn, pe⟩ h5 true
  have sG := made17S_spec t hT ⟨gn, ge⟩ h6 false
  have b1 := h5.nl
  have b2 := h5.gl
  have b3 := h6.nl
  have b4 := h6.gl
  simp only at b1 b2 b3 b4 sP sG
  have l1 : (dn.map c82).length = dn.length := by simp
  have l2 : (de.map c82).length = de.length := by simp
  have l3 : (pn.map c8).length = pn.length := by simp
  have l4 : (pe.map c83).length = pe.length := by simp
  have l5 : (gn.map c8).length = gn.length := by simp
  have l6 : (ge.map c83).length = ge.length := by simp
  have htv : ∀ g : Gr, g.nodes.length ≤ 8 → g.edges.length ≤ 10 → (∀ x ∈ g.nodes, 0 ≤ x ∧ x < t.nodes.length) → EdS t.nodes t.edges g.nodes g.edges → TV t g := fun g a b c d => edS_TV hT a b c d
  have hsm := hT.sm
  clear hT
  change Go.Sj.ACalls _ _ [.agg [.im 2 (dn.map c82), .im 2 (de.map c82), bytesA pn, .im 3 (pe.map c83), bytesA gn, .im 3 (ge.map c83)]] _ _
  change Go.Sj.ACalls _ _ [tysA t, .agg [bytesA pn, .im 3 (pe.map c83)], AB true] _ _ at sP
  change Go.Sj.ACalls _ _ [tysA t, .agg [bytesA gn, .im 3 (ge.map c83)], AB false] _ _ at sG
  have hcs : (dn.length ≤ 8 ∧ de.length ≤ 8 ∧ pn.length ≤ 3 ∧ pe.length ≤ 3 ∧ gn.length ≤ 7 ∧ ge.length ≤ 10) ∨ 8 < dn.length ∨ (dn.length ≤ 8 ∧ 8 < de.length) ∨ (dn.length ≤ 8 ∧ de.length ≤ 8 ∧ 3 < pn.length) ∨ (dn.length ≤ 8 ∧ de.length ≤ 8 ∧ pn.length ≤ 3 ∧ 3 < pe.length) ∨ (dn.length ≤ 8 ∧ de.length ≤ 8 ∧ pn.length ≤ 3 ∧ pe.length ≤ 3 ∧ 7 < gn.length) ∨ (dn.length ≤ 8 ∧ de.length ≤ 8 ∧ pn.length ≤ 3 ∧ pe.length ≤ 3 ∧ gn.length ≤ 7 ∧ 10 < ge.length) := by omega
  rcases hcs with ⟨k1, k2, k3, k4, k5, k6⟩ | hc
  · obtain ⟨tn, te⟩ := t
    change Pure _ _ _ (.agg [nodsA tn, edgsA te]) at sT
    change Go.Sj.ACalls _ _ [.agg [nodsA tn, edgsA te], _, _] _ _ at sP
    change Go.Sj.ACalls _ _ [.agg [nodsA tn, edgsA te], _, _] _ _ at sG
    refine a_enterM (rs := [.cell 2 31, .tmp 3]) tok Tryz.func18 (by kernel_rfl) rfl Tryz.ntmps18 rfl (by decide) (by simp) ?_
    refine a_seq ?_
    refine a_reg ?_
    repeat (first | refine gZ pk ?_ | (show AL _ _ _ _ _ _ _; first | refine jB (fun u => ?_) | refine jL tok (fun U2 => ?_)))
    refine zfb 1 1 rfl rfl ?_
    repeat (first | refine gN pk ?_ | (show AL _ _ _ _ _ _ _; first | refine jP sT ?_ | refine jL tok (fun ut => ?_) | refine jS tok 0 ?_))
    refine zfb 0 4 rfl rfl ?_
    refine zrg ((List.range 12).map fun i => if inL [4, 8, 10] i = true then .eff else if inL [0, 1, 3, 5, 7] i = true then .read else .pure) [4, 8] [0, 1, 2, 3, 5, 6, 7] (.nd 4 [] (.nd 8 [9, 10, 11] .stop .stop) .stop) mixed rfl rfl (by decide +kernel) ?_
    repeat' (first | (with_reducible show AG _ _ _ _ _ _ _ _ _ _; first | exact zgn | refine zgs ?_ | refine znd ?_ ?_) | (show AMid _ _ _ _; first | refine zmf ?_ | refine zmg (by first | exact OSub.refl _ | exact .drop (OSub.refl _) | exact .drop (.drop (OSub.refl _))) ?_) | refine gY pk ?_ | (show AL _ _ _ _ _ _ _; first | refine zsc (Lc := []) rfl rfl rfl rfl rfl sP (SubL.of_eq rfl) (List.Perm.refl _) ?_; rintro _ _ ⟨⟨⟨Pn, Pe⟩, rfl, ⟨p1, p2⟩, p3, p4, p5, p6⟩, rfl⟩ | refine zsc (Lc := []) rfl rfl rfl rfl rfl sG (SubL.of_eq rfl) (List.Perm.refl _) ?_; rintro _ _ ⟨⟨⟨Gn, Ge⟩, rfl, ⟨q1, q2⟩, q3, q4, q5, q6⟩, rfl⟩ | refine jS tok 0 ?_) | fail)
    repeat (first | refine gV pk ?_ | (show AL _ _ _ _ _ _ _; first | refine jS tok 0 ?_))
    refine zfb 0 2 rfl rfl ?_
    refine a_ret ?_
    exact ⟨.inr rfl, _, _, [], rfl, Turn.of (Sub.refl _) (OSub.none _), .inr ⟨⟨tn, te⟩, ⟨Pn, Pe⟩, ⟨Gn, Ge⟩, rfl, hsm, htv _ p1 p3 p5 p6, htv _ q1 q3 q5 q6, Nat.le_trans p2 k3, Nat.le_trans p4 k4, Nat.le_trans q2 k5, q3⟩, rfl⟩
  · rcases hc with k1 | ⟨k1, k2⟩ | ⟨k1, k2, k3⟩ | ⟨k1, k2, k3, k4⟩ | ⟨k1, k2, k3, k4, k5⟩ | ⟨k1, k2, k3, k4, k5, k6⟩
    all_goals
      refine a_enterM (rs := [.cell 2 31, .tmp 3]) tok Tryz.func18 (by kernel_rfl) rfl Tryz.ntmps18 rfl (by decide) (by simp) ?_
      refine a_seq ?_
      refine a_reg ?_
      repeat (first | refine gZ pk ?_ | (show AL _ _ _ _ _ _ _; first | refine jB (fun u => ?_) | refine jL tok (fun U2 => ?_)))
      refine zfb 1 1 rfl rfl ?_
      repeat (first | refine gV pk ?_ | (show AL _ _ _ _ _ _ _; first | refine jS tok 0 ?_))
      refine zfb 0 2 rfl rfl ?_
      refine a_ret ?_
      exact ⟨.inr rfl, _, _, [], rfl, Turn.of (Sub.refl _) (OSub.none _), .inl rfl, rfl⟩
theorem csf_plan {t : Tys} {p g : Gr} (h : CsF t p g) (codes : List Int) : planE p (kn0 p) (mkP p (chF codes) 200 0 (kn0 p)) = 0 ∧ (mkP p (chF codes) 200 0 (kn0 p)).length ≤ 6 := by
  have h1 := h.pn
  have h2 := h.pe
  have hv := mkP_valid h.tp.graph (chF codes) 200 0 (kn0 p) (kn0_ok p) (by rw [unk_0]; omega)
  have hl := plan_len _ (kn0 p) (kn0_ok p) hv
  rw [unk_0] at hl
  exact ⟨hv, by omega⟩
theorem csf_ok {t : Tys} {p g : Gr} (h : CsF t p g) : OkG p ∧ OkG g := ⟨⟨by have := h.pn; omega, by have := h.pe; omega⟩, ⟨by have := h.gn; omega, by have := h.ge; omega⟩⟩
theorem PlanInjective_spec (d : DrP) (hd : OkDP d) (codes : List Int) (hc0 : (∀ x ∈ codes, 0 ≤ x ∧ x ≤ 255) ∧ codes.length ≤ 140737488355328) : Pure Tryz.prog 5 [drPA d, bytesA codes] (AB true) := by
  have hc := hc0.1
  have sa := awakeP_spec
  have s1 := lmade_spec d hd
  have lc : (codes.map c8).length = codes.length := by simp
  obtain ⟨dn, de, ⟨dpn, dpe⟩, ⟨dgn, dge⟩⟩ := d
  change Go.Sj.ACalls _ _ [.agg [.im 2 (dn.map c82), .im 2 (de.map c82), bytesA dpn, .im 3 (dpe.map c83), bytesA dgn, .im 3 (dge.map c83)]] _ _ at s1
  change Pure _ _ [.agg [.im 2 (dn.map c82), .im 2 (de.map c82), bytesA dpn, .im 3 (dpe.map c83), bytesA dgn, .im 3 (dge.map c83)], bytesA codes] _
  refine zen Tryz.func5 (by kernel_rfl) rfl Tryz.ntmps5 rfl (by simp) ?_; refine a_seq ?_; refine a_reg ?_; (repeat (first | refine gZ pk ?_ | (show AL _ _ _ _ _ _ _; first | refine jB (fun u => ?_)))); refine zfb 0 2 rfl rfl ?_
  repeat (first | refine gN pk ?_)
  refine zsc (Lc := []) rfl rfl rfl rfl rfl s1 (SubL.of_eq rfl) (List.Perm.refl _) ?_
  rintro _ _ ⟨rfl | ⟨t, p, g, rfl, hF⟩, rfl⟩
  · repeat (first | refine gA pk ?_ | (show AL _ _ _ _ _ _ _; first | refine jL tok (fun uc => ?_) | refine jS tok 0 ?_ | refine jP sa ?_))
    refine finQ ?_
    exact ⟨rfl, rfl⟩
  obtain ⟨hO1, hO2⟩ := csf_ok hF
  by_cases hcl : codes.length ≤ 20
  rotate_left
  · clear hF
    obtain ⟨tn, te⟩ := t
    obtain ⟨pn, pe⟩ := p
    obtain ⟨gn, ge⟩ := g
    repeat (first | refine gA pk ?_ | (show AL _ _ _ _ _ _ _; first | refine jL tok (fun uc => ?_) | refine jS tok 0 ?_ | refine jP sa ?_))
    refine finQ ?_
    exact ⟨rfl, rfl⟩
  obtain ⟨hpl, hml⟩ := csf_plan hF codes
  have hv := tv_valid hF.tp hF.tg
  have s2 := gmade_spec p hF.tp.graph codes (by omega) hc
  generalize mkP p (chF codes) 200 0 (kn0 p) = M at *
  have s3 := prun_spec t hF.sm p g hO1 hO2 M (by omega) true
  have s4 := prun_spec t hF.sm p g hO1 hO2 M (by omega) false
  have ha := run_inj hv hpl
  have hag := run_agree false hv hpl
  generalize runR t p g M true = R1 at *
  generalize runR t p g M false = R2 at *
  obtain ⟨m1, n, e1⟩ := R1
  obtain ⟨m2, k, e2⟩ := R2
  simp only at s3 s4 ha hag
  have ln : (rowI n).length = n.length := by simp
  have lk2 : (rowI k).length = k.length := by simp
  clear hv hF hO1 hO2 hpl
  rcases ha with rfl | ⟨rfl, rfl, g1, g2⟩
  · obtain ⟨tn, te⟩ := t
    obtain ⟨pn, pe⟩ := p
    obtain ⟨gn, ge⟩ := g
    simp only at *
    repeat (first | refine gA pk ?_ | (show AL _ _ _ _ _ _ _; first | refine jL tok (fun uc => ?_) | refine jS tok 0 ?_ | refine jP sa ?_ | refine jO tok 0 ?_ | refine jP s2 ?_ | refine jP s3 ?_ | refine jP s4 ?_))
    refine finQ ?_
    exact ⟨rfl, rfl⟩
  · have hkl : k.length ≤ 6 := by
      rcases hag with h | h
      · cases h
      · omega
    clear hag
    obtain ⟨tn, te⟩ := t
    obtain ⟨pn, pe⟩ := p
    obtain ⟨gn, ge⟩ := g
    simp only at *
    repeat (first | refine gA pk ?_ | (show AL _ _ _ _ _ _ _; first | refine jL tok (fun uc => ?_) | refine jS tok 0 ?_ | refine jP sa ?_ | refine jO tok 0 ?_ | refine jP s2 ?_ | refine jP s3 ?_ | refine jP s4 ?_))
    refine zlx (fun i : Nat => [(9, ints n), (12, ints k), (74, AI (rowI n).length), (75, AI i)]) (fun _ => []) (fun i => i ≤ n.length) (fun i => n.length - i) 0 (Nat.zero_le _) ?_ (OSub.none _) ?_
    · exact subQ
    · intro i hi
      rcases Nat.lt_or_ge i n.length with h | h
      · have x1 := List.getElem?_eq_getElem h
        have x2 := List.getElem?_eq_getElem (l := k) (i := i) (by omega)
        have hle := g2 i _ _ x1 x2
        generalize n[i] = a at x1 hle
        generalize k[i]'(by omega) = b at x2 hle
        have y1 : (rowI n)[(i : Int).toNat]? = some [AI a] := zmp (f := cI) x1
        have y2 : (rowI k)[(i : Int).toNat]? = some [AI b] := zmp (f := cI) x2
        repeat (first | refine gN pk ?_)
        refine zrg ((List.range 9).map fun i => if inL [2, 3, 6, 7] i = true then .read else .pure) [] [0, 1, 2, 3, 4, 5, 6, 7, 8] .stop mixed rfl rfl (by decide +kernel) ?_
        repeat' (first | (with_reducible show AG _ _ _ _ _ _ _ _ _ _; first | exact zgn | refine zgs ?_ | refine znd ?_ ?_) | (show AMid _ _ _ _; first | refine zmf ?_ | refine zmg (by first | exact OSub.refl _ | exact .drop (OSub.refl _) | exact .drop (.drop (OSub.refl _))) ?_) | refine gY pk ?_ | (show AL _ _ _ _ _ _ _; first | refine jX tok y1 ?_ | refine jX tok y2 ?_) | fail)
        repeat (first | refine gA pk ?_)
        exact ⟨i + 1, by omega, by omega, by exact subQ, OSub.none _⟩
      · obtain rfl : i = n.length := by omega
        repeat (first | refine gA pk ?_)
        refine finQ ?_
        exact ⟨rfl, rfl⟩
theorem PlanExact_spec (d : DrP) (hd : OkDP d) (codes : List Int) (hc0 : (∀ x ∈ codes, 0 ≤ x ∧ x ≤ 255) ∧ codes.length ≤ 140737488355328) : Pure Tryz.prog 9 [drPA d, bytesA codes] (AB true) := by
  have hc := hc0.1
  have sa := awakeP_spec
  have s1 := lmade_spec d hd
  have lc : (codes.map c8).length = codes.length := by simp
  obtain ⟨dn, de, ⟨dpn, dpe⟩, ⟨dgn, dge⟩⟩ := d
  change Go.Sj.ACalls _ _ [.agg [.im 2 (dn.map c82), .im 2 (de.map c82), bytesA dpn, .im 3 (dpe.map c83), bytesA dgn, .im 3 (dge.map c83)]] _ _ at s1
  change Pure _ _ [.agg [.im 2 (dn.map c82), .im 2 (de.map c82), bytesA dpn, .im 3 (dpe.map c83), bytesA dgn, .im 3 (dge.map c83)], bytesA codes] _
  refine zen Tryz.func9 (by kernel_rfl) rfl Tryz.ntmps9 rfl (by simp) ?_; refine a_seq ?_; refine a_reg ?_; (repeat (first | refine gZ pk ?_ | (show AL _ _ _ _ _ _ _; first | refine jB (fun u => ?_)))); refine zfb 0 2 rfl rfl ?_
  repeat (first | refine gN pk ?_)
  refine zsc (Lc := []) rfl rfl rfl rfl rfl s1 (SubL.of_eq rfl) (List.Perm.refl _) ?_
  rintro _ _ ⟨rfl | ⟨t, p, g, rfl, hF⟩, rfl⟩
  · repeat (first | refine gA pk ?_ | (show AL _ _ _ _ _ _ _; first | refine jL tok (fun uc => ?_) | refine jS tok 0 ?_ | refine jP sa ?_))
    refine finQ ?_
    exact ⟨rfl, rfl⟩
  obtain ⟨hO1, hO2⟩ := csf_ok hF
  by_cases hcl : codes.length ≤ 20
  rotate_left
  · clear hF
    obtain ⟨tn, te⟩ := t
    obtain ⟨pn, pe⟩ := p
    obtain ⟨gn, ge⟩ := g
    repeat (first | refine gA pk ?_ | (show AL _ _ _ _ _ _ _; first | refine jL tok (fun uc => ?_) | refine jS tok 0 ?_ | refine jP sa ?_))
    refine finQ ?_
    exact ⟨rfl, rfl⟩
  obtain ⟨hpl, hml⟩ := csf_plan hF codes
  have hgn := hF.gn
  have hge := hF.ge
  have s2 := gmade_spec p hF.tp.graph codes (by omega) hc
  have s3 := refOf_spec t hF.sm g hO2
  have hof : ofR t g = (ofS g, 0) := by
    unfold ofR
    rw [if_neg (Decidable.not_not.2 (typedE_zero.2 hF.tg))]
  rw [hof] at s3
  have hsl : (ofS g).nodes.length ≤ 1000 ∧ (ofS g).edges.length ≤ 1000 := by
    have a := ofN_len g g.nodes
    have b := ofE_len g g.edges
    exact ⟨Nat.le_trans a (by omega), Nat.le_trans b (by omega)⟩
  generalize mkP p (chF codes) 200 0 (kn0 p) = M at *
  have s4 := cost_spec t hF.sm (ofS g) hsl p hO1 M (by omega)
  have s5 := prun_spec t hF.sm p g hO1 hO2 M (by omega) false
  obtain ⟨c, hcost, hc1, hc2⟩ := run_exact hF.tp hF.tg hpl
  rw [hcost] at s4
  generalize ofS g = S at *
  generalize runR t p g M false = R at *
  obtain ⟨m, n, e⟩ := R
  obtain ⟨sn, se⟩ := S
  simp only at s3 s4 s5 hc2
  have lM : (M.map cOp).length = M.length := by simp
  have ln : (rowI n).length = n.length := by simp
  clear hF hO1 hO2 hpl hof hcost hsl
  obtain ⟨tn, te⟩ := t
  obtain ⟨pn, pe⟩ := p
  obtain ⟨gn, ge⟩ := g
  simp only at *
  rcases hc2 with rfl | ⟨rfl, g1, g2⟩
  · repeat (first | refine gA pk ?_ | (show AL _ _ _ _ _ _ _; first | refine jL tok (fun uc => ?_) | refine jS tok 0 ?_ | refine jP sa ?_ | refine jO tok 0 ?_ | refine jO tok 1 ?_ | refine jP s2 ?_ | refine jP s3 ?_ | refine jP s4 ?_ | refine jP s5 ?_))
    refine finQ ?_
    exact ⟨rfl, rfl⟩
  · by_cases hM : M = []
    · have hc3 := hc1 hM
      subst hc3
      have hM0 : M.length = 0 := by rw [hM]; rfl
      clear hM hc1 g2
      repeat (first | refine gA pk ?_ | (show AL _ _ _ _ _ _ _; first | refine jL tok (fun uc => ?_) | refine jS tok 0 ?_ | refine jP sa ?_ | refine jO tok 0 ?_ | refine jO tok 1 ?_ | refine jP s2 ?_ | refine jP s3 ?_ | refine jP s4 ?_ | refine jP s5 ?_))
      refine finQ ?_
      exact ⟨rfl, rfl⟩
    · obtain ⟨z, hz, hzc, hz1⟩ := g2 hM
      have hM0 : 0 < M.length := List.length_pos_iff.2 hM
      have xk : (rowI n)[(0 : Int).toNat]? = some [AI z] := zmp (f := cI) hz
      clear hc1 hz g2
      by_cases hone : M.length = 1
      · have := hz1 hone
        subst this
        clear hz1
        repeat (first | refine gA pk ?_ | (show AL _ _ _ _ _ _ _; first | refine jL tok (fun uc => ?_) | refine jS tok 0 ?_ | refine jP sa ?_ | refine jO tok 0 ?_ | refine jO tok 1 ?_ | refine jP s2 ?_ | refine jP s3 ?_ | refine jP s4 ?_ | refine jP s5 ?_ | refine jX tok xk ?_))
        refine finQ ?_
        exact ⟨rfl, rfl⟩
      · clear hz1
        repeat (first | refine gA pk ?_ | (show AL _ _ _ _ _ _ _; first | refine jL tok (fun uc => ?_) | refine jS tok 0 ?_ | refine jP sa ?_ | refine jO tok 0 ?_ | refine jO tok 1 ?_ | refine jP s2 ?_ | refine jP s3 ?_ | refine jP s4 ?_ | refine jP s5 ?_ | refine jX tok xk ?_))
        refine finQ ?_
        exact ⟨rfl, rfl⟩
end Go.Proofs.YtimfponihbfimaaGreat
end
