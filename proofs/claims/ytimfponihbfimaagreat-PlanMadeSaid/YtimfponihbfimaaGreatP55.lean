/- Parts of a proof. -/
import Derived.WalkKit
import Derived.WalkSpells
import Derived.WalkLawsBesides
import Derived.Deep.Draws
import Derived.Orders
import Derived.Still
import Derived.Laws.Cover3
import Derived.ProofKit
import Derived.WideKeyArgs
import Derived.OpenShut
import Derived.SizedLaws
import Derived.Laws.Externs
import Derived.Laws.Runes
import Derived.Handy
import Derived.Lib.AppendZerosOnto
import Derived.Lib.Overlaps
import Derived.Test.YtimfponihbfimaaGreatProg
import Derived.Sort.AssemblyPlain
import Derived.Laws.Bits64
import Derived.Laws.Bits64b
import Derived.Test.YtimfponihbfimaaGreatP01
import Derived.Test.YtimfponihbfimaaGreatP02
import Derived.Test.YtimfponihbfimaaGreatP03
import Derived.Test.YtimfponihbfimaaGreatP04
import Derived.Test.YtimfponihbfimaaGreatP05
import Derived.Test.YtimfponihbfimaaGreatP06
import Derived.Test.YtimfponihbfimaaGreatP07
import Derived.Test.YtimfponihbfimaaGreatP08
import Derived.Test.YtimfponihbfimaaGreatP09
import Derived.Test.YtimfponihbfimaaGreatP10
import Derived.Test.YtimfponihbfimaaGreatP11
import Derived.Test.YtimfponihbfimaaGreatP12
import Derived.Test.YtimfponihbfimaaGreatP13
import Derived.Test.YtimfponihbfimaaGreatP14
import Derived.Test.YtimfponihbfimaaGreatP15
import Derived.Test.YtimfponihbfimaaGreatP16
import Derived.Test.YtimfponihbfimaaGreatP17
import Derived.Test.YtimfponihbfimaaGreatP18
import Derived.Test.YtimfponihbfimaaGreatP19
import Derived.Test.YtimfponihbfimaaGreatP20
import Derived.Test.YtimfponihbfimaaGreatP21
import Derived.Test.YtimfponihbfimaaGreatP22
import Derived.Test.YtimfponihbfimaaGreatP23
import Derived.Test.YtimfponihbfimaaGreatP24
import Derived.Test.YtimfponihbfimaaGreatP25
import Derived.Test.YtimfponihbfimaaGreatP26
import Derived.Test.YtimfponihbfimaaGreatP27
import Derived.Test.YtimfponihbfimaaGreatP28
import Derived.Test.YtimfponihbfimaaGreatP29
import Derived.Test.YtimfponihbfimaaGreatP30
import Derived.Test.YtimfponihbfimaaGreatP31
import Derived.Test.YtimfponihbfimaaGreatP32
import Derived.Test.YtimfponihbfimaaGreatP33
import Derived.Test.YtimfponihbfimaaGreatP34
import Derived.Test.YtimfponihbfimaaGreatP35
import Derived.Test.YtimfponihbfimaaGreatP36
import Derived.Test.YtimfponihbfimaaGreatP37
import Derived.Test.YtimfponihbfimaaGreatP38
import Derived.Test.YtimfponihbfimaaGreatP39
import Derived.Test.YtimfponihbfimaaGreatP40
import Derived.Test.YtimfponihbfimaaGreatP41
import Derived.Test.YtimfponihbfimaaGreatP42
import Derived.Test.YtimfponihbfimaaGreatP43
import Derived.Test.YtimfponihbfimaaGreatP44
import Derived.Test.YtimfponihbfimaaGreatP45
import Derived.Test.YtimfponihbfimaaGreatP46
import Derived.Test.YtimfponihbfimaaGreatP47
import Derived.Test.YtimfponihbfimaaGreatP48
import Derived.Test.YtimfponihbfimaaGreatP49
import Derived.Test.YtimfponihbfimaaGreatP50
import Derived.Test.YtimfponihbfimaaGreatP51
import Derived.Test.YtimfponihbfimaaGreatP52
set_option linter.unusedVariables false
set_option linter.unusedSimpArgs false
section
namespace Go.Sj
section steps
variable {P : Program} {N : Nat} {ops : List Oper} {Q : St → Own → Prop} {L : Own} {rest : List (Oper × Kd)} {l : List (Nat × AV)} {k : Kd} {q : Nat}
section heads
variable {tt : List (TypeId × TD)} (ok : TOK P tt) {o : Oper} (hdst : o.dst = some q) (hd : Nat.blt q N = true) (hg : guardA ops o (lk l) = some true)
include ok hdst hd hg
end heads
theorem s_rem {o : Oper} {T T' : TypeId} {x y : Operand} {kk : IntKind} {a b : Int} (ho : o.op = .binOp .rem T x y T') (hdst : o.dst = some q) (hd : Nat.blt q N = true) (hg : guardA ops o (lk l) = some true)
    (hx : ev (lk l) x = .lit (.int kk a)) (hy : ev (lk l) y = .lit (.int kk b)) (ha : 0 ≤ a) (hb : 0 < b)
    (n : AL P N ops Q rest (lk ((q, .lit (.int kk (a % b))) :: l)) L) : AL P N ops Q ((o, k) :: rest) (lk l) L := by
  obtain ⟨dst, op', ty, pos, after, g⟩ := o
  simp only at ho
  subst ho
  refine s_pure hdst hd hg ⟨fun σ F w ρ hR hρ => ⟨.int kk (a % b), ?_, .lit _⟩⟩ n
  have h1 := hρ x (by simp [Op.operands])
  have h2 := hρ y (by simp [Op.operands])
  rw [hx] at h1
  rw [hy] at h2
  have hb0 : b ≠ 0 := by omega
  simp [execOp, h1.lit_inv, h2.lit_inv, eqGuard, binOp, Op.intDiv, hb0, Int.tmod_eq_emod_of_nonneg ha]
end steps
end Go.Sj
namespace Go.Sj
section
variable {P : Program} {N : Nat} {ops : List Oper} {Q : St → Own → Prop} {L : Own} {rest : List (Oper × Kd)} {l : List (Nat × AV)} {k : Kd} {q : Nat}
end
end Go.Sj
namespace Go.Sj
end Go.Sj
namespace Go.Sj
section
variable {P : Program} {N : Nat} {ops : List Oper} {Q : St → Own → Prop} {L : Own} {rest : List (Oper × Kd)} {l : List (Nat × AV)} {k : Kd} {q : Nat}
end
end Go.Sj
end
section
namespace Go.Sj
theorem a_freeze {P : Program} {N : Nat} {c : Code} {Q : Exit → St → Own → Prop} {st : St} {L : Own} (i : Nat) {v : Value} {E sz : Nat} {es : List (List AV)} (hL : L[i]? = some (v, .row E sz es)) (st' : St) (hst : FZS v sz es st st') (M : Own) (hM : FZO v sz es (L.eraseIdx i) M)
    (k : AWp P N c Q st' M) : AWp P N c Q st L :=
  ⟨fun σ F w a hr ht => by
    obtain ⟨h1, h2⟩ := (hr.at hL).freeze hM
    have ht' : TR (frz σ w v) N st' a := ⟨ht.defers, ht.size, fun j => hst j _ _ h2 ((ht.mono (frz_le σ w v)).vals j)⟩
    exact wp_mono (k.out _ F w a h1 ht') fun e a' w' hp => hp.le (frz_le σ w v)⟩
end Go.Sj
namespace Go.Sj
section
variable {P : Program} {N : Nat} {ops : List Oper} {Q : St → Own → Prop} {L : Own} {rest : List (Oper × Kd)} {l : List (Nat × AV)} {k : Kd} {q : Nat}
end
end Go.Sj
namespace Go.Sj
section
variable {P : Program} {N : Nat} {ops : List Oper} {Q : St → Own → Prop} {L : Own} {rest : List (Oper × Kd)} {l : List (Nat × AV)} {q : Nat}
end
end Go.Sj
namespace Go.Sj
section
variable {P : Program} {N : Nat} {ops : List Oper} {Q : St → Own → Prop} {L : Own} {rest : List (Oper × Kd)} {l : List (Nat × AV)} {k : Kd} {q : Nat}
end
end Go.Sj
end
section
namespace Go.Sj
open Go.ChangeShapes Go.WideShapes Go.ChangeAt Go.RowKit
theorem reads_arr {P : Program} {t e n : Nat} {k : IntKind} (ht : P.underlying t = some (.array n e)) (he : P.underlying e = some (.int k)) (hc : P.cellsOf e = 1) (hct : P.cellsOf t = n) (hn : 0 < n) :
    Reads P t n (fun l : List Int => l.map fun m => .lit (.int k m)) (fun l => l.length = n ∧ ∀ m ∈ l, (Lit.int k m).wf = true) :=
  ⟨hct, hn, fun l h => by simp [h.1], fun {H enc w base sp held fuel cs x} h => by
    obtain ⟨xs, m, _, _, hl, hxl, hi⟩ := DataW.trod_array ht h
    rw [hct] at hl
    have each : ∀ i, i < n → ∃ z : Int, cs[i]? = some (.int k z) ∧ (Lit.int k z).wf = true := by
      intro i hin
      have := hi i hin
      rw [List.getElem?_eq_getElem (by omega)] at this
      obtain ⟨z, hz, _, hw⟩ := DataW.trod_int he this
      rw [hc, Nat.mul_one] at hz
      refine ⟨z, ?_, hw⟩
      have := congrArg (·[0]?) hz
      simpa [List.getElem?_take] using this
    obtain ⟨l, hll, hr⟩ := list_of n each
    refine ⟨l, ⟨hll, fun z hz => ?_⟩, by simp [hl, hll], fun j a y ha hy => ?_⟩
    · obtain ⟨i, hi', rfl⟩ := List.mem_iff_getElem.1 hz
      exact (hr i _ (List.getElem?_eq_getElem hi')).2
    · rw [List.getElem?_map] at ha
      cases hlj : l[j]? with
      | none => rw [hlj] at ha; cases ha
      | some z =>
        rw [hlj] at ha
        simp at ha
        subst ha
        have := (hr j z hlj).1
        rw [hy] at this
        cases this
        exact .lit _⟩
variable {H : Type} {enc : TypeId × Value → H} {P : Program}
end Go.Sj
namespace Go.Sj
open Go.ChangeShapes Go.WideShapes Go.ChangeAt Go.RowKit
end Go.Sj
namespace Go.Sj
open Go.ChangeShapes Go.WideShapes Go.ChangeAt Go.RowKit
end Go.Sj
end
section
namespace Go.Sj
section
variable {N : Nat} {st st' st'' : St} {L L' L'' : Own}
end
theorem a_know {P : Program} {N : Nat} {c : Code} {Q : Exit → St → Own → Prop} {st : St} {L : Own} (i : Nat) {v : Value} {E sz : Nat} {es : List (List AV)} (hL : L[i]? = some (v, .row E sz es)) (k : v.oneCell' = true → AWp P N c Q st L) : AWp P N c Q st L :=
  ⟨fun σ F w a h1 h2 => (k (own_row_cell (h1.own1 hL))).out σ F w a h1 h2⟩
end Go.Sj
namespace Go.Sj
end Go.Sj
namespace Go.Sj
section
variable {P : Program} {N : Nat} {ops : List Oper} {Q : St → Own → Prop} {L : Own} {rest : List (Oper × Kd)} {l : List (Nat × AV)} {k : Kd} {q : Nat}
theorem s_arrIp {tt : List (TypeId × TD)} (ok : TOK P tt) {o : Oper} {T : TypeId} {x y : Operand} {E m s1 b1 : Nat} {z1 : List Value} {d : TD} {cells : List AV} {kk : IntKind} {i : Int} (ho : o.op = .indexAddr T x y) (hdst : o.dst = some q) (hd : Nat.blt q N = true) (hg : guardA ops o (lk l) = some true)
    (hT : lkT tt T = some ⟨.array m E, s1, b1, z1⟩) (hE : lkT tt E = some d) (hx : ev (lk l) x = .ip cells) (hy : ev (lk l) y = .lit (.int kk i)) (h0 : 0 ≤ i) (h1 : i < m)
    (n : AL P N ops Q rest (lk ((q, .ip (cells.drop (i.toNat * d.size))) :: l)) L) : AL P N ops Q ((o, k) :: rest) (lk l) L := by
  obtain ⟨dst, op', ty, pos, after, g⟩ := o
  simp only at ho
  subst ho
  refine s_pure hdst hd hg ⟨fun σ F w ρ hR hρ => ?_⟩ n
  have e1 := hρ x (by simp [Op.operands])
  have e2 := hρ y (by simp [Op.operands])
  rw [hx] at e1
  rw [hy] at e2
  have hu := (ok _ _ hT).array rfl
  have hs := (ok _ _ hE).sizeOf_run
  generalize hv : ρ x = u at e1
  cases e1 with
  | ip _ b off c E' fr f a1 a2 a3 =>
    refine ⟨.pointer (some ⟨b, off + i.toNat * d.size, none⟩), ?_, .ip _ b (off + i.toNat * d.size) c E' fr (fun j => f (i.toNat * d.size + j)) a1 (fun j y hy => ?_) (fun j y hy => ?_)⟩
    · have hadd : (⟨b, off, none⟩ : Addr).add (i.toNat * d.size) = ⟨b, off + i.toNat * d.size, none⟩ := by
        unfold Addr.add; split <;> simp_all
      simp [execOp, hv, e2.lit_inv, Instr.indexAt, Instr.sureAddr, asIntOf, run_underlying hu, h0, h1, hs, hadd]
    · rw [List.getElem?_drop] at hy
      rw [Nat.add_assoc]
      exact a2 _ y hy
    · rw [List.getElem?_drop] at hy
      exact a3 _ y hy
end
end Go.Sj
namespace Go.Sj
end Go.Sj
namespace Go.Sj
section
variable {P : Program} {N : Nat} {ops : List Oper} {Q : St → Own → Prop} {L : Own} {rest : List (Oper × Kd)} {l : List (Nat × AV)} {k : Kd} {q : Nat}
end
end Go.Sj
namespace Go.Sj
section
variable {P : Program} {N : Nat} {ops : List Oper} {Q : St → Own → Prop} {L : Own} {rest : List (Oper × Kd)} {l : List (Nat × AV)} {k : Kd} {q : Nat}
end
end Go.Sj
namespace Go.Sj
end Go.Sj
end
section
namespace Go.Sj.Typ
open Go.Sj
end Go.Sj.Typ
namespace Go.Sj.Typ
open Go.Sj
end Go.Sj.Typ
namespace Go.Sj.Typ
open Go.Sj
section
variable {ns : List Nod} (h : PR ns ns.length)
include h
end
end Go.Sj.Typ
namespace Go.Sj.Typ
open Go.Sj
section
variable {nodes edges : List (Int × Int)}
end
theorem wf_n8 {a : Int} (h : (Lit.int .u8 a).wf = true) : 0 ≤ a ∧ a ≤ 255 := by
  simp only [Lit.wf, Bool.and_eq_true, decide_eq_true_eq] at h
  rw [show IntKind.u8.min = 0 by decide, show IntKind.u8.max = 255 by decide] at h
  exact h
def Okn (n : Nat) (l : List Int) : Prop := l.length = n ∧ ∀ m ∈ l, (Lit.int .u8 m).wf = true
end Go.Sj.Typ
end
section
namespace Go.Sj.Sta
open Go.Sj Go.Sj.Typ
end Go.Sj.Sta
namespace Go.Sj.Sta
open Go.Sj Go.Sj.Typ
end Go.Sj.Sta
namespace Go.Sj.Sta
open Go.Sj Go.Sj.Typ
end Go.Sj.Sta
namespace Go.Sj.Sta
open Go.Sj Go.Sj.Typ
section
variable {ns : List Nod} (hp : PR ns ns.length)
end
end Go.Sj.Sta
namespace Go.Sj.Sta
open Go.Sj Go.Sj.Typ
section
variable {t : Tys} {g : Gr} {p q : List Int} (h : TV t g) (hp : Prm p g.nodes.length) (hq : Prm q g.edges.length)
include h hp hq
end
section
variable {t : Tys} {g : Gr} (h : TV t g)
include h
end
end Go.Sj.Sta
namespace Go.Sj.Sta
open Go.Sj Go.Sj.Typ
def c83 (c : Int × Int × Int) : List AV := [A8 c.1, A8 c.2.1, A8 c.2.2]
def toC3 : List Int → Int × Int × Int
  | [a, b, c] => (a, b, c)
  | _ => (0, 0, 0)
def In3 (c : Int × Int × Int) : Prop := (0 ≤ c.1 ∧ c.1 ≤ 255) ∧ (0 ≤ c.2.1 ∧ c.2.1 ≤ 255) ∧ (0 ≤ c.2.2 ∧ c.2.2 ≤ 255)
theorem toC3_c {l : List Int} (h : l.length = 3) : (l.map fun m => AV.lit (.int .u8 m)) = c83 (toC3 l) := by
  match l, h with
  | [a, b, c], _ => rfl
theorem toC3_ok {l : List Int} (h : Okn 3 l) : In3 (toC3 l) := by
  obtain ⟨h1, h2⟩ := h
  match l, h1, h2 with
  | [a, b, c], _, h2 => exact ⟨wf_n8 (h2 a (by simp)), wf_n8 (h2 b (by simp)), wf_n8 (h2 c (by simp))⟩
abbrev c8 (n : Int) : List AV := [A8 n]
abbrev bytesA (l : List Int) : AV := .im 1 (l.map c8)
def g8s (l : List Int) : List AV := l.map fun m => .lit (.int .u8 m)
theorem u8s_ok {x : List Int} (h : (∀ m ∈ x, (Lit.int .u8 m).wf = true) ∧ x.length ≤ reachBytes) : (∀ m ∈ x, 0 ≤ m ∧ m ≤ 255) ∧ x.length ≤ 140737488355328 := by
  have h2 := h.2
  unfold reachBytes at h2
  exact ⟨fun m hm => wf_n8 (h.1 m hm), by omega⟩
end Go.Sj.Sta
namespace Go.Sj.Sta
open Go.Sj Go.Sj.Typ
end Go.Sj.Sta
end
section
namespace Go.Sj.Pln
open Go.Sj Go.Sj.Sta Go.Sj.Typ Go.Sj.Inc
set_option maxRecDepth 8000
theorem known_unk {s : Kn} : knownB s = true ↔ unk s = 0 := by
  unfold knownB unk
  rw [Bool.and_eq_true]
  simp only [Bool.not_eq_true', List.contains_eq_mem, decide_eq_false_iff_not, ← List.count_eq_zero]
  omega
theorem poss_mem {p : Gr} {s : Kn} {o : Opn} : o ∈ poss p s ↔ opE p s o = 0 := by
  unfold poss
  rw [List.mem_filter, decide_eq_true_eq]
  refine ⟨fun h => h.2, fun h => ⟨?_, h⟩⟩
  obtain ⟨k, e⟩ := o
  unfold opsL opsN opsE
  simp only [List.mem_append, List.mem_map, List.mem_range]
  rcases opE_zero h with ⟨h1, h2, _⟩ | ⟨h1, h2, _⟩
  · simp only at h1 h2
    exact .inl (.inl ⟨e.toNat, by omega, by rw [h1]; congr 1; omega⟩)
  · simp only at h1 h2
    rcases h1 with h1 | h1
    · exact .inl (.inr ⟨e.toNat, by omega, by rw [h1]; congr 1; omega⟩)
    · exact .inr ⟨e.toNat, by omega, by rw [h1]; congr 1; omega⟩
theorem poss_nil {p : Gr} {s : Kn} (hp : GV p) (hs : KnOk p s) : poss p s = [] ↔ knownB s = true := by
  constructor
  · intro h
    have hno : ∀ o, opE p s o ≠ 0 := fun o ho => by
      have := poss_mem.2 ho
      rw [h] at this
      cases this
    have hn : ∀ (i : Nat) (b : Bool), s.ns[i]? = some b → b = true := fun i b hb => by
      obtain ⟨hi, _⟩ := List.getElem?_eq_some_iff.1 hb
      have := hno ⟨1, i⟩
      unfold opE nodK at this
      rw [if_pos rfl, if_pos (by simp only; rw [← hs.nl]; omega)] at this
      simp only [Int.toNat_natCast, List.getD_eq_getElem?_getD, hb, Option.getD_some] at this
      cases b
      · exact absurd rfl this
      · rfl
    have he : ∀ (i : Nat) (b : Bool), s.es[i]? = some b → b = true := fun i b hb => by
      obtain ⟨hi, _⟩ := List.getElem?_eq_some_iff.1 hb
      have := hno ⟨3, i⟩
      have hi2 : i < p.edges.length := by rw [← hs.el]; exact hi
      unfold opE edgP edgK edP nodK at this
      have hx := hp.edges _ (List.getElem_mem hi2)
      rw [if_neg (by simp), if_pos (.inr rfl), if_pos (by simp only; omega)] at this
      simp only [Int.toNat_natCast, List.getD_eq_getElem?_getD, hb, Option.getD_some, List.getElem?_eq_getElem hi2] at this
      generalize p.edges[i] = x at *
      have a1 : s.ns[x.fr.toNat]? = some true := by
        have hh := List.getElem?_eq_getElem (l := s.ns) (i := x.fr.toNat) (by rw [hs.nl]; omega)
        rw [hh, hn _ _ hh]
      have a2 : s.ns[x.to.toNat]? = some true := by
        have hh := List.getElem?_eq_getElem (l := s.ns) (i := x.to.toNat) (by rw [hs.nl]; omega)
        rw [hh, hn _ _ hh]
      rw [a1, a2] at this
      cases b
      · exact absurd rfl this
      · rfl
    unfold knownB
    rw [Bool.and_eq_true]
    simp only [Bool.not_eq_true', List.contains_eq_mem, decide_eq_false_iff_not]
    refine ⟨fun h => ?_, fun h => ?_⟩
    · obtain ⟨i, hi⟩ := List.getElem?_of_mem h
      cases hn i _ hi
    · obtain ⟨i, hi⟩ := List.getElem?_of_mem h
      cases he i _ hi
  · intro h
    rw [known_unk] at h
    refine List.eq_nil_iff_forall_not_mem.2 fun o ho => ?_
    have := unk_aft hs (poss_mem.1 ho)
    omega
def Fnd (t : Tys) (s : Sta) (p : Gr) (l : List Opn) (k : Kn) (n c : Int) (b r : Bst) : Prop := r = b ∨ ∃ l', r.l = l ++ l' ∧ planE p k l' = 0 ∧ r.c = costS t s p k n c l' ∧ r.ok = true
theorem betL_fnd {t : Tys} {s : Sta} {p : Gr} : ∀ (m : Nat) (l : List Opn) (k : Kn) (n c : Int) (b : Bst), Fnd t s p l k n c b (betL t s p m l k n c b)
  | 0, l, k, n, c, b => .inl rfl
  | m + 1, l, k, n, c, b => by
    unfold betL
    split
    · rename_i hk
      unfold leafB
      split
      · exact .inr ⟨[], by simp, by unfold planE; rw [if_pos hk], rfl, rfl⟩
      · exact .inl rfl
    · rename_i hk
      have key : ∀ (os : List Opn) (b : Bst), (∀ o ∈ os, opE p k o = 0) → Fnd t s p l k n c b (os.foldl (fun b o => betL t s p m (l ++ [o]) (aftK p k o) (estK t s p k n o) (capC (c + estK t s p k n o)) b) b) := by
        intro os
        induction os with
        | nil => exact fun b _ => .inl rfl
        | cons o os ih =>
          intro b ho
          rw [List.foldl_cons]
          rcases ih (betL t s p m (l ++ [o]) (aftK p k o) (estK t s p k n o) (capC (c + estK t s p k n o)) b) (fun x hx => ho x (by simp [hx])) with h | h
          · rw [h]
            rcases betL_fnd m (l ++ [o]) (aftK p k o) (estK t s p k n o) (capC (c + estK t s p k n o)) b with h | ⟨l', h1, h2, h3, h4⟩
            · exact .inl h
            · refine .inr ⟨o :: l', by rw [h1]; simp, ?_, h3, h4⟩
              unfold planE
              rw [if_neg (Decidable.not_not.2 (ho o (by simp)))]
              exact h2
          · exact .inr h
      exact key _ b fun o ho => poss_mem.1 ho
theorem foldl_low {A : Type} {f : Bst → A → Bst} (h : ∀ b a, Low b (f b a)) : ∀ (l : List A) (b : Bst), Low b (l.foldl f b)
  | [], b => Low.refl b
  | a :: l, b => (h b a).trans (foldl_low h l _)
theorem betL_low {t : Tys} {s : Sta} {p : Gr} : ∀ (m : Nat) (l : List Opn) (k : Kn) (n c : Int) (b : Bst), Low b (betL t s p m l k n c b)
  | 0, l, k, n, c, b => Low.refl b
  | m + 1, l, k, n, c, b => by
    unfold betL
    split
    · unfold leafB
      split
      · rename_i h
        intro hb
        rw [hb] at h
        simp only [Bool.true_eq_false, false_or] at h
        exact ⟨rfl, by show c ≤ _; omega⟩
      · exact Low.refl b
    · exact foldl_low (fun b o => betL_low m _ _ _ _ b) _ b
theorem betL_best {t : Tys} {s : Sta} {p : Gr} : ∀ (m : Nat) (l : List Opn) (k : Kn) (n c : Int) (b : Bst) (l' : List Opn), KnOk p k → unk k < m → planE p k l' = 0 →
    (betL t s p m l k n c b).ok = true ∧ (betL t s p m l k n c b).c ≤ costS t s p k n c l'
  | 0, l, k, n, c, b, l', _, h, _ => absurd h (Nat.not_lt_zero _)
  | m + 1, l, k, n, c, b, l', hk, hm, hl => by
    unfold betL
    cases l' with
    | nil =>
      unfold planE at hl
      split at hl
      · rename_i h1
        rw [if_pos h1]
        unfold leafB costS
        split
        · exact ⟨rfl, Int.le_refl _⟩
        · rename_i h2
          have : b.ok = true := by
            cases h : b.ok
            · exact absurd (.inl h) h2
            · rfl
          exact ⟨this, by omega⟩
      · cases hl
    | cons o l' =>
      unfold planE at hl
      split at hl
      · rename_i h1; exact absurd hl h1
      · rename_i h1
        have h1 := Decidable.not_not.1 h1
        have hu := unk_aft hk h1
        rw [if_neg (by rw [known_unk]; omega)]
        obtain ⟨a, d, he⟩ := List.append_of_mem (poss_mem.2 h1)
        rw [he, List.foldl_append, List.foldl_cons]
        generalize a.foldl _ b = b1
        have h2 := betL_best (t := t) (s := s) m (l ++ [o]) (aftK p k o) (estK t s p k n o) (capC (c + estK t s p k n o)) b1 l' (aftK_ok hk o) (by omega) hl
        have h3 := foldl_low (fun b o => betL_low (t := t) (s := s) (p := p) m (l ++ [o]) (aftK p k o) (estK t s p k n o) (capC (c + estK t s p k n o)) b) d (betL t s p m (l ++ [o]) (aftK p k o) (estK t s p k n o) (capC (c + estK t s p k n o)) b1) h2.1
        rw [costS]
        exact ⟨h3.1, Int.le_trans h3.2 h2.2⟩
def mkP (p : Gr) (f : Nat → Int) : Nat → Nat → Kn → List Opn
  | 0, _, _ => []
  | m + 1, i, k => if poss p k = [] then [] else (poss p k).getD (f i % (poss p k).length).toNat ⟨0, 0⟩ :: mkP p f m (i + 1) (aftK p k ((poss p k).getD (f i % (poss p k).length).toNat ⟨0, 0⟩))
theorem pick_mem {A : Type} {l : List A} (h : l ≠ []) (z : Int) (d : A) : l.getD (z % l.length).toNat d ∈ l := by
  have h0 : 0 < l.length := List.length_pos_iff.2 h
  have h1 := Int.emod_nonneg z (b := (l.length : Int)) (by omega)
  have h2 := Int.emod_lt_of_pos z (b := (l.length : Int)) (by omega)
  rw [List.getD_eq_getElem?_getD, List.getElem?_eq_getElem (by omega)]
  exact List.getElem_mem _
theorem mkP_valid {p : Gr} (hp : GV p) (f : Nat → Int) : ∀ (m i : Nat) (k : Kn), KnOk p k → unk k ≤ m → planE p k (mkP p f m i k) = 0
  | 0, i, k, hk, hu => by
    unfold mkP planE
    rw [if_pos (known_unk.2 (by omega))]
  | m + 1, i, k, hk, hu => by
    unfold mkP
    split
    · rename_i h
      unfold planE
      rw [if_pos ((poss_nil hp hk).1 h)]
    · rename_i h
      have h1 := poss_mem.1 (pick_mem h (f i) ⟨0, 0⟩)
      generalize (poss p k).getD (f i % (poss p k).length).toNat ⟨0, 0⟩ = o at *
      unfold planE
      rw [if_neg (Decidable.not_not.2 h1)]
      exact mkP_valid hp f m (i + 1) _ (aftK_ok hk o) (by have := unk_aft hk h1; omega)
theorem plan_cut {p : Gr} : ∀ (l : List Opn) (k : Kn), KnOk p k → planE p k l = 0 → l ≠ [] → planE p k (l.take (l.length - 1)) = 20
  | [], k, hk, h, hl => absurd rfl hl
  | o :: l, k, hk, h, hl => by
    unfold planE at h
    split at h
    · rename_i h1; exact absurd h h1
    · rename_i h1
      have h1 := Decidable.not_not.1 h1
      have hu := unk_aft hk h1
      cases l with
      | nil =>
        show (if knownB k = true then (0 : Int) else 20) = 20
        rw [if_neg (by rw [known_unk]; omega)]
      | cons o' l =>
        have := plan_cut (o' :: l) _ (aftK_ok hk o) h (by simp)
        show planE p k (o :: (o' :: l).take ((o' :: l).length - 1)) = 20
        rw [planE, if_neg (Decidable.not_not.2 h1)]
        exact this
theorem plan_len {p : Gr} : ∀ (l : List Opn) (k : Kn), KnOk p k → planE p k l = 0 → l.length ≤ unk k
  | [], k, hk, h => Nat.zero_le _
  | o :: l, k, hk, h => by
    unfold planE at h
    split at h
    · rename_i h1; exact absurd h h1
    · rename_i h1
      have hu := unk_aft hk (Decidable.not_not.1 h1)
      have := plan_len l _ (aftK_ok hk o) h
      simp only [List.length_cons]
      omega
end Go.Sj.Pln
end
section
namespace Go.Proofs.YtimfponihbfimaaGreat
open Go.Sj Go.Sj.Typ Go.Sj.Sta Go.Sj.Inc
set_option maxRecDepth 8000
set_option maxHeartbeats 16000000
theorem Pure.subA {P : Program} {f : FuncId} {args args' : List AV} {y : AV} (h : Go.Sj.Pure P f args y) (hs : SubL args' args) : Go.Sj.Pure P f args' y :=
  ⟨h.ok, fun σ F w vs a b => h.out σ F w vs a (hs.vrs b)⟩
section
variable {P : Program} {N : Nat} {ops : List Oper} {Q : St → Own → Prop} {L : Own} {rest : List (Oper × Kd)} {l : List (Nat × AV)}
end
end Go.Proofs.YtimfponihbfimaaGreat
end
section
namespace Go.Proofs.YtimfponihbfimaaGreat
open Go.Sj Go.Sj.Typ Go.Sj.Sta Go.Sj.Inc
set_option maxRecDepth 8000
set_option maxHeartbeats 16000000
theorem calls_subA {P : Program} {f : FuncId} {args args' : List AV} {L : Own} {R : AV → Own → Prop} (h : Go.Sj.ACalls P f args L R) (hs : SubL args' args) : Go.Sj.ACalls P f args' L R :=
  ⟨h.ok, fun σ F w vs a b => h.out σ F w vs a (hs.vrs b)⟩
end Go.Proofs.YtimfponihbfimaaGreat
end
section
namespace Go.Sj.Pln
open Go.Sj Go.Sj.Sta Go.Sj.Typ Go.Sj.Inc
set_option maxRecDepth 8000
def endK (p : Gr) (k : Kn) (l : List Opn) : Kn := l.foldl (aftK p) k
theorem endK_ok {p : Gr} : ∀ {l : List Opn} {k : Kn}, KnOk p k → KnOk p (endK p k l)
  | [], k, h => h
  | o :: l, k, h => endK_ok (l := l) (aftK_ok h o)
theorem endK_snoc (p : Gr) (k : Kn) (l : List Opn) (o : Opn) : endK p k (l ++ [o]) = aftK p (endK p k l) o := by unfold endK; rw [List.foldl_append]; rfl
theorem preE_snoc {p : Gr} : ∀ {l : List Opn} {k : Kn} {o : Opn}, PreE p k l → opE p (endK p k l) o = 0 → PreE p k (l ++ [o])
  | [], k, o, _, h => ⟨h, trivial⟩
  | x :: l, k, o, h, ho => ⟨h.1, preE_snoc (l := l) h.2 ho⟩
def stT (t : Tys) (s : Sta) (p : Gr) : Kn → Int → Int → List Opn → Int × Int
  | _, n, c, [] => (n, c)
  | k, n, c, o :: l => stT t s p (aftK p k o) (estK t s p k n o) (capC (c + estK t s p k n o)) l
theorem stT_cost {t : Tys} {s : Sta} {p : Gr} : ∀ (l : List Opn) (k : Kn) (n c : Int), costS t s p k n c l = (stT t s p k n c l).2
  | [], _, _, _ => rfl
  | o :: l, k, n, c => stT_cost l _ _ _
theorem stT_snoc {t : Tys} {s : Sta} {p : Gr} (o : Opn) : ∀ (l : List Opn) (k : Kn) (n c : Int), stT t s p k n c (l ++ [o]) = (estK t s p (endK p k l) (stT t s p k n c l).1 o, capC ((stT t s p k n c l).2 + estK t s p (endK p k l) (stT t s p k n c l).1 o))
  | [], _, _, _ => rfl
  | x :: l, k, n, c => stT_snoc o l _ _ _
theorem pre_at {p : Gr} {o : Opn} : ∀ {l : List Opn} {k : Kn} {j : Nat}, PreE p k l → l[j]? = some o → opE p (endK p k (l.take j)) o = 0
  | [], k, j, h, hx => by cases hx
  | x :: l, k, 0, h, hx => by cases hx; exact h.1
  | x :: l, k, j + 1, h, hx => pre_at (l := l) (j := j) h.2 hx
theorem end_take {p : Gr} {o : Opn} {l : List Opn} {k : Kn} {j : Nat} (hx : l[j]? = some o) : endK p k (l.take (j + 1)) = aftK p (endK p k (l.take j)) o := by
  rw [List.take_add_one, hx]
  exact endK_snoc p k (l.take j) o
def opsX (p : Gr) (k : Kn) (kind : Int) (n : Nat) : List Opn := ((List.range n).map fun i : Nat => (⟨kind, (i : Int)⟩ : Opn)).filter fun o => decide (opE p k o = 0)
theorem opsX_succ (p : Gr) (k : Kn) (kind : Int) (n : Nat) : opsX p k kind (n + 1) = opsX p k kind n ++ if opE p k ⟨kind, (n : Int)⟩ = 0 then [⟨kind, (n : Int)⟩] else [] := by
  unfold opsX
  rw [List.range_succ, List.map_append, List.filter_append]
  congr 1
  simp only [List.map_cons, List.map_nil, List.filter_cons, List.filter_nil, decide_eq_true_eq]
theorem opsX_len (p : Gr) (k : Kn) (kind : Int) (n : Nat) : (opsX p k kind n).length ≤ n := by
  unfold opsX
  exact Nat.le_trans (List.length_filter_le _ _) (by simp)
theorem opsX_more {p : Gr} {k : Kn} {kind : Int} {n m : Nat} (h : ∀ i : Nat, n ≤ i → opE p k ⟨kind, (i : Int)⟩ ≠ 0) (hm : n ≤ m) : opsX p k kind m = opsX p k kind n := by
  obtain ⟨d, rfl⟩ : ∃ d, m = n + d := ⟨m - n, by omega⟩
  induction d with
  | zero => rfl
  | succ d ih =>
    rw [← Nat.add_assoc, opsX_succ, if_neg (h _ (by omega)), List.append_nil]
    exact ih (by omega)
theorem poss_X (p : Gr) (k : Kn) (M : Nat) (h1 : p.nodes.length ≤ M) (h2 : p.edges.length ≤ M) : poss p k = opsX p k 1 M ++ opsX p k 2 M ++ opsX p k 3 M := by
  have e1 : opsX p k 1 M = opsX p k 1 p.nodes.length := opsX_more (fun i hi h => by
    rcases opE_zero h with ⟨_, a, _⟩ | ⟨a, _⟩
    · simp only at a; omega
    · simp only at a; omega) h1
  have e2 : ∀ kind : Int, kind = 2 ∨ kind = 3 → opsX p k kind M = opsX p k kind p.edges.length := fun kind hk => opsX_more (fun i hi h => by
    rcases opE_zero h with ⟨a, _⟩ | ⟨_, a, _⟩
    · simp only at a; omega
    · simp only at a; omega) h2
  rw [e1, e2 2 (.inl rfl), e2 3 (.inr rfl)]
  unfold poss opsL opsN opsE opsX
  rw [List.filter_append, List.filter_append]
theorem poss_len (p : Gr) (k : Kn) : (poss p k).length ≤ p.nodes.length + p.edges.length + p.edges.length := by
  unfold poss
  exact Nat.le_trans (List.length_filter_le _ _) (by simp [opsL, opsN, opsE]; omega)
end Go.Sj.Pln
end
section
namespace Go.Proofs.YtimfponihbfimaaGreat
open Go.Sj Go.Sj.Typ Go.Sj.Sta Go.Sj.Inc Go.Sj.Pln
set_option maxRecDepth 8000
set_option maxHeartbeats 16000000
def posK (p : Gr) (k : Kn) (M : Nat) : Nat → List Opn
  | 0 => []
  | 1 => opsX p k 1 M
  | 2 => opsX p k 1 M ++ opsX p k 2 M
  | _ => opsX p k 1 M ++ opsX p k 2 M ++ opsX p k 3 M
theorem posK_step (p : Gr) (k : Kn) (M d : Nat) (h : d < 3) : posK p k M (d + 1) = posK p k M d ++ opsX p k ((d : Int) + 1) M := by
  have : d = 0 ∨ d = 1 ∨ d = 2 := by omega
  rcases this with rfl | rfl | rfl
  · rfl
  · rfl
  · rfl
theorem posK_len (p : Gr) (k : Kn) (M d : Nat) (h : d ≤ 3) : (posK p k M d).length ≤ d * M := by
  have h1 := opsX_len p k 1 M
  have h2 := opsX_len p k 2 M
  have h3 := opsX_len p k 3 M
  have : d = 0 ∨ d = 1 ∨ d = 2 ∨ d = 3 := by omega
  rcases this with rfl | rfl | rfl | rfl
  · simp [posK]
  · simp [posK]; omega
  · simp [posK]; omega
  · simp [posK]; omega
theorem gPossible_spec (p : Gr) (hp : GV p) (l : List Opn) (hl : l.length ≤ 1000) (hpl : PreE p (kn0 p) l) : Gives Tryz.prog 57 [grA p, opsA l] 41 2 ((poss p (endK p (kn0 p) l)).map cOp) := by
  have hnl := hp.nl
  have hel := hp.el
  have su := gfresh_spec p (by omega) (by omega)
  have ss := fun s hs o => gpossible_spec p hp s hs o
  have sf := fun s hs o ho => gafter_spec p hp s hs o ho
  have ll : (l.map cOp).length = l.length := by simp
  have lpn : (rowI p.nodes).length = p.nodes.length := by simp
  have lpe : (p.edges.map cEd).length = p.edges.length := by simp
  obtain ⟨M, hM1, hM2, hM3⟩ : ∃ M : Nat, p.nodes.length ≤ M ∧ p.edges.length ≤ M ∧ (M = p.nodes.length ∨ M = p.edges.length) := by
    rcases Nat.le_total p.nodes.length p.edges.length with h | h
    · exact ⟨_, h, Nat.le_refl _, .inr rfl⟩
    · exact ⟨_, Nat.le_refl _, h, .inl rfl⟩
  rw [poss_X p _ M hM1 hM2]
  refine zen Tryz.func57 (by kernel_rfl) rfl Tryz.ntmps57 rfl (by simp) ?_; refine a_seq ?_; refine a_reg ?_; (repeat (first | refine gZ pk ?_ | (show AL _ _ _ _ _ _ _; first | refine jB (fun u => ?_)))); refine zfb 0 2 rfl rfl ?_
  repeat (first | refine gA pk ?_ | (show AL _ _ _ _ _ _ _; first | refine jP su ?_ | refine jL tok (fun us => ?_) | refine jS tok 0 ?_))
  refine a_loopG3 (fun (i : Nat) (_ : Unit) (_ : Unit) => [(1, opsA l), (2, grP p), (5, .pt us 0 0 0), (6, AI i)]) (fun i _ _ => [(us, .box [boolsA (endK p (kn0 p) (l.take i)).ns, boolsA (endK p (kn0 p) (l.take i)).es])]) (fun i _ _ => i ≤ l.length) (fun i _ _ => l.length - i) 0 () () (Nat.zero_le _) (.sub (by exact subQ) (OSub.refl _)) ?_
  rintro i _ _ hi
  have hks : KnOk p (endK p (kn0 p) (l.take i)) := endK_ok (kn0_ok p)
  rcases Nat.lt_or_ge i l.length with h | h
  · have h1 := List.getElem?_eq_getElem h
    generalize l[i] = o at h1
    have hop := pre_at hpl h1
    have het := end_take (p := p) (k := kn0 p) h1
    have xk : (l.map cOp)[(i : Int).toNat]? = some [AI o.kind, AI o.el] := zmp (f := cOp) h1
    have s2 := sf _ hks o hop
    rw [← het] at s2
    change Pure _ _ [_, _, .agg [AI o.kind, AI o.el]] _ at s2
    repeat (first | refine gN pk ?_)
    refine zrg ((List.range 8).map fun i => if inL [6, 7] i = true then .eff else if inL [0, 1, 4, 5] i = true then .read else .pure) [] [0, 1, 2, 3, 4, 5, 6, 7] .stop mixed rfl rfl (by decide +kernel) ?_
    repeat' (first | (with_reducible show AG _ _ _ _ _ _ _ _ _ _; first | exact zgn | refine zgs ?_ | refine znd ?_ ?_) | (show AMid _ _ _ _; first | refine zmf ?_ | refine zmg (by first | exact OSub.refl _ | exact .drop (OSub.refl _) | exact .drop (.drop (OSub.refl _))) ?_) | refine gY pk ?_ | (show AL _ _ _ _ _ _ _; first | refine jO tok 0 ?_ | refine jX tok xk ?_ | refine jP s2 ?_ | refine jS tok 0 ?_) | fail)
    repeat (first | refine gA pk ?_)
    exact ⟨i + 1, (), (), by omega, by omega, .sub (by exact subQ) (OSub.refl _)⟩
  · obtain rfl : i = l.length := by omega
    rw [List.take_length] at hks ⊢
    generalize endK p (kn0 p) l = K at *
    refine zfb 0 5 rfl rfl ?_
    repeat (first | refine gA pk ?_)
    refine a_loopG3 (fun (d : Nat) (o : List Opn) (v : Value) => [(2, grP p), (5, .ip [boolsA K.ns, boolsA K.es]), (7, .lit v), (8, AI ((d : Int) + 1))]) (fun d o v => [(v, .row 41 2 (o.map cOp))]) (fun d o _ => d ≤ 3 ∧ o = posK p K M d) (fun d _ _ => 3 - d) 0 [] (.slice none 0 0) ⟨by omega, rfl⟩ (.sub (by exact subQ) (.free (OSub.none _))) ?_
    rintro d o v ⟨hd, ho⟩
    have hol : o.length ≤ d * M := by rw [ho]; exact posK_len p K M d hd
    rcases Nat.lt_or_ge d 3 with h3 | h3
    rotate_left
    · obtain rfl : d = 3 := by omega
      have ho : o = opsX p K 1 M ++ opsX p K 2 M ++ opsX p K 3 M := ho
      subst ho
      repeat (first | refine gA pk ?_)
      refine finR ?_
      exact ⟨v, rfl, rfl⟩
    · have hst := posK_step p K M d h3
      rw [← ho] at hst
      have hdm : d * M ≤ 2 * M := Nat.mul_le_mul_right M (by omega)
      repeat (first | refine gA pk ?_)
      refine a_loopG3 (fun (i : Nat) (o' : List Opn) (v : Value) => [(2, grP p), (5, .ip [boolsA K.ns, boolsA K.es]), (7, .lit v), (8, AI ((d : Int) + 1)), (9, AI i)]) (fun i o' v => [(v, .row 41 2 (o'.map cOp))]) (fun i o' _ => i ≤ M ∧ o' = o ++ opsX p K ((d : Int) + 1) i) (fun i _ _ => M - i) 0 o v ⟨by omega, by simp [opsX]⟩ (.sub (by exact subQ) (OSub.refl _)) ?_
      rintro i o' v ⟨hi, ho'⟩
      have hol' : o'.length ≤ d * M + i := by
        rw [ho', List.length_append]
        have := opsX_len p K ((d : Int) + 1) i
        omega
      have lo' : (o'.map cOp).length = o'.length := by simp
      rcases Nat.lt_or_ge i M with h4 | h4
      · have s1 := ss K hks ⟨(d : Int) + 1, (i : Int)⟩
        change Pure _ _ [_, _, .agg [AI ((d : Int) + 1), AI i]] _ at s1
        have hsx := opsX_succ p K ((d : Int) + 1) i
        have hlt : (i : Int) < p.nodes.length ∨ (¬ (i : Int) < p.nodes.length ∧ (i : Int) < p.edges.length) := by omega
        by_cases hop : opE p K ⟨(d : Int) + 1, (i : Int)⟩ = 0
        · have hnew : (o ++ opsX p K ((d : Int) + 1) (i + 1)).map cOp = o'.map cOp ++ [[AI ((d : Int) + 1), AI i]] := by
            rw [ho', opsX_succ, if_pos hop, ← List.append_assoc, List.map_append]
            rfl
          rw [hop] at s1
          rcases hlt with hlt | ⟨hlt1, hlt2⟩
          all_goals
            repeat (first | refine gA pk ?_ | (show AL _ _ _ _ _ _ _; first | refine jL tok (fun uo => ?_) | refine jS tok 0 ?_ | refine jO tok 0 ?_ | refine jP s1 ?_))
            (first | refine s_build1 tok rfl rfl rfl rfl rfl rfl rfl rfl (fun u => ?_) | refine s_build1M tok rfl rfl rfl rfl rfl rfl rfl (fun u => ?_) | refine zba tok rfl rfl rfl rfl rfl rfl rfl rfl (by decide) (fun u => ?_)); refine s_append1 tok 1 rfl rfl rfl rfl rfl rfl (by decide) rfl rfl rfl rfl (by omega) (by omega) (fun w => ?_)
            repeat (first | refine gA pk ?_)
            exact ⟨i + 1, o ++ opsX p K ((d : Int) + 1) (i + 1), w, ⟨by omega, rfl⟩, by omega, .sub (by exact subQ) (by rw [hnew]; exact .drop (OSub.refl _))⟩
        · rw [if_neg hop, List.append_nil] at hsx
          generalize opE p K ⟨(d : Int) + 1, (i : Int)⟩ = c at *
          rcases hlt with hlt | ⟨hlt1, hlt2⟩
          all_goals
            repeat (first | refine gA pk ?_ | (show AL _ _ _ _ _ _ _; first | refine jL tok (fun uo => ?_) | refine jS tok 0 ?_ | refine jO tok 0 ?_ | refine jP s1 ?_))
            exact ⟨i + 1, o', v, ⟨by omega, by rw [hsx]; exact ho'⟩, by omega, .sub (by exact subQ) (.drop (OSub.refl _))⟩
      · obtain rfl : i = M := by omega
        repeat (first | refine gA pk ?_)
        exact ⟨d + 1, o', v, ⟨by omega, by rw [ho', hst]⟩, by omega, .sub (by exact subQ) (OSub.refl _)⟩
abbrev bsA (b : Bst) : AV := .agg [opsA b.l, AI b.c, AB b.ok]
theorem better_rec (t : Tys) (ht : Small t) (s : Sta) (hs : s.nodes.length ≤ 1000 ∧ s.edges.length ≤ 1000) (p : Gr) (h : Prc t s p) : ∀ (m : Nat) (l : List Opn) (b : Bst), PreE p (kn0 p) l → unk (endK p (kn0 p) l) < m → l.length + unk (endK p (kn0 p) l) ≤ 200 →
    Pure Tryz.prog 69 [tysA t, staA s, grA p, opsA l, bsA b] (bsA (betL t s p m l (endK p (kn0 p) l) (stT t s p (kn0 p) 1 0 l).1 (stT t s p (kn0 p) 1 0 l).2 b)) := by
  intro m
  induction m with
  | zero => intro l b _ hm; exact absurd hm (Nat.not_lt_zero _)
  | succ m ih =>
    intro l b hpl hm hl
    have hks : KnOk p (endK p (kn0 p) l) := endK_ok (kn0_ok p)
    have s1 := (gPossible_spec p h.gr l (by omega) hpl).pure
    have s2 := gcost_spec t ht s hs p h l (by omega) hpl
    have hcl : costL t s p l = (stT t s p (kn0 p) 1 0 l).2 := stT_cost l _ _ _
    rw [hcl] at s2
    have hnil := poss_nil h.gr hks
    have hplen : (poss p (endK p (kn0 p) l)).length ≤ 1000 := by
      have h1 := poss_len p (endK p (kn0 p) l)
      have h2 := h.gr.nl
      have h3 := h.gr.el
      omega
    have hpm := fun o => poss_mem (p := p) (s := endK p (kn0 p) l) (o := o)
    have ll : (l.map cOp).length = l.length := by simp
    have hsn := fun o => stT_snoc (t := t) (s := s) (p := p) o l (kn0 p) 1 0
    have hen := fun o => endK_snoc p (kn0 p) l o
    have ih2 := fun o (ho : opE p (endK p (kn0 p) l) o = 0) b' => ih (l ++ [o]) b' (preE_snoc hpl ho) (by rw [hen]; have := unk_aft hks ho; omega) (by rw [hen]; have := unk_aft hks ho; simp only [List.length_append, List.length_cons, List.length_nil]; omega)
    simp only [hsn, hen] at ih2
    obtain ⟨tn, te⟩ := t
    obtain ⟨sn, se⟩ := s
    obtain ⟨pn, pe⟩ := p
    generalize hK : endK ⟨pn, pe⟩ (kn0 ⟨pn, pe⟩) l = K at *
    generalize (stT ⟨tn, te⟩ ⟨sn, se⟩ ⟨pn, pe⟩ (kn0 ⟨pn, pe⟩) 1 0 l).1 = n at *
    generalize (stT ⟨tn, te⟩ ⟨sn, se⟩ ⟨pn, pe⟩ (kn0 ⟨pn, pe⟩) 1 0 l).2 = c at *
    have lps : ((poss ⟨pn, pe⟩ K).map cOp).length = (poss ⟨pn, pe⟩ K).length := by simp
    change Pure _ _ [.agg [nodsA tn, edgsA te], .agg [cntsA sn, cntsA se], .agg [ints pn, edsA pe], opsA l] _ at s2
    change Pure _ _ [.agg [ints pn, edsA pe], opsA l] _ at s1
    by_cases hkn : knownB K = true
    · have hp0 := hnil.2 hkn
      rw [hp0] at s1 lps
      have hb : betL ⟨tn, te⟩ ⟨sn, se⟩ ⟨pn, pe⟩ (m + 1) l K n c b = leafB l c b := by rw [betL, if_pos hkn]
      rw [hb]
      clear ih ih2 hb hnil hpm hsn hen hplen
      obtain ⟨bl, bc, bo⟩ := b
      have hcs : bo = false ∨ (bo = true ∧ c < bc) ∨ (bo = true ∧ ¬ c < bc) := by cases bo <;> simp <;> omega
      change Pure _ _ [.agg [nodsA tn, edgsA te], .agg [cntsA sn, cntsA se], .agg [ints pn, edsA pe], opsA l, .agg [opsA bl, AI bc, AB bo]] _
      rcases hcs with rfl | ⟨rfl, h2⟩ | ⟨rfl, h2⟩
      rotate_right
      · have hlf : leafB l c ⟨bl, bc, true⟩ = ⟨bl, bc, true⟩ := by unfold leafB; rw [if_neg (by simp; omega)]
        rw [hlf]
        refine a_enterC Tryz.func69 (by kernel_rfl) rfl Tryz.ntmps69 rfl (tok _ _ rfl) (by simp) ?_
        refine a_seq ?_
        refine a_reg ?_
        repeat (first | refine gZ pk ?_ | (show AL _ _ _ _ _ _ _; first | refine jB (fun u => ?_) | refine jL tok (fun U10 => ?_)))
        refine zfb 4 5 rfl rfl ?_
        refine zfb 3 6 rfl rfl ?_
        refine zfb 2 7 rfl rfl ?_
        refine zfb 1 9 rfl rfl ?_
        repeat (first | refine gV pk ?_ | (show AL _ _ _ _ _ _ _; first | refine jP s1 ?_ | refine jP s2 ?_ | refine jS tok 0 ?_))
        refine zfb 0 10 rfl rfl ?_
        refine a_ret ?_
        exact ⟨.inr rfl, _, _, _, _, rfl, rfl, Turn.of (Sub.of_eq rfl) (OSub.none _), rfl, rfl⟩
      all_goals
        first
          | rw [show leafB l c ⟨bl, bc, false⟩ = ⟨l, c, true⟩ by unfold leafB; rw [if_pos (.inl rfl)]]
          | rw [show leafB l c ⟨bl, bc, true⟩ = ⟨l, c, true⟩ by unfold leafB; rw [if_pos (.inr h2)]]
        refine a_enterC Tryz.func69 (by kernel_rfl) rfl Tryz.ntmps69 rfl (tok _ _ rfl) (by simp) ?_
        refine a_seq ?_
        refine a_reg ?_
        repeat (first | refine gZ pk ?_ | (show AL _ _ _ _ _ _ _; first | refine jB (fun u => ?_) | refine jL tok (fun U10 => ?_)))
        refine zfb 4 5 rfl rfl ?_
        refine zfb 3 6 rfl rfl ?_
        refine zfb 2 7 rfl rfl ?_
        refine zfb 1 9 rfl rfl ?_
        repeat (first | refine gV pk ?_ | (show AL _ _ _ _ _ _ _; first | refine jP s1 ?_ | refine jP s2 ?_ | refine s_build tok (parts := []) rfl rfl rfl rfl rfl rfl rfl rfl (by decide) (by decide) (fun v => ?_) | refine s_appendImF tok 0 rfl rfl rfl rfl rfl rfl (by decide) rfl rfl rfl rfl (cOp_cell _) (by simp only [ll, List.length_nil]; omega) (by simp only [ll, List.length_nil]; omega) ?_ | refine jS tok 0 ?_))
        refine zfb 0 10 rfl rfl ?_
        refine a_ret ?_
        exact ⟨.inr rfl, _, _, _, _, rfl, rfl, Turn.of (Sub.of_eq rfl) (OSub.none _), rfl, rfl⟩
    · have hne : poss ⟨pn, pe⟩ K ≠ [] := fun e => hkn (hnil.1 e)
      have hpos : 0 < (poss ⟨pn, pe⟩ K).length := List.length_pos_iff.2 hne
      obtain ⟨G, hG⟩ : ∃ G : Bst → Opn → Bst, (fun b o => betL ⟨tn, te⟩ ⟨sn, se⟩ ⟨pn, pe⟩ m (l ++ [o]) (aftK ⟨pn, pe⟩ K o) (estK ⟨tn, te⟩ ⟨sn, se⟩ ⟨pn, pe⟩ K n o) (capC (c + estK ⟨tn, te⟩ ⟨sn, se⟩ ⟨pn, pe⟩ K n o)) b) = G := ⟨_, rfl⟩
      have hGo := fun b o => congrFun (congrFun hG b) o
      try simp only at hGo
      have hb : betL ⟨tn, te⟩ ⟨sn, se⟩ ⟨pn, pe⟩ (m + 1) l K n c b = (poss ⟨pn, pe⟩ K).foldl G b := by rw [betL, if_neg hkn, ← hG]
      rw [hb]
      simp only [hGo] at ih2
      clear ih hb hnil hsn hen hG hGo s2 hm
      generalize poss ⟨pn, pe⟩ K = os at *
      change Pure _ _ [.agg [nodsA tn, edgsA te], .agg [cntsA sn, cntsA se], .agg [ints pn, edsA pe], opsA l, .agg [opsA b.l, AI b.c, AB b.ok]] _
      refine a_enterC Tryz.func69 (by kernel_rfl) rfl Tryz.ntmps69 rfl (tok _ _ rfl) (by simp) ?_
      refine a_seq ?_
      refine a_reg ?_
      repeat (first | refine gZ pk ?_ | (show AL _ _ _ _ _ _ _; first | refine jB (fun u => ?_) | refine jL tok (fun U10 => ?_)))
      refine zfb 4 5 rfl rfl ?_
      refine zfb 3 6 rfl rfl ?_
      refine zfb 2 7 rfl rfl ?_
      repeat (first | refine gA pk ?_ | (show AL _ _ _ _ _ _ _; first | refine jP s1 ?_))
      refine a_loopG3 (fun (i : Nat) (_ : Bst) (_ : Unit) => [(3, opsA l), (5, .ip [nodsA tn, edgsA te]), (6, .ip [cntsA sn, cntsA se]), (7, .ip [ints pn, edsA pe]), (9, .pt u 0 0 0), (10, .pt U10 0 0 0), (11, opsA os), (13, AI i)]) (fun i b' _ => [(U10, .box [nilS, AI 0, AB false]), (u, .box [opsA b'.l, AI b'.c, AB b'.ok])]) (fun i b' _ => i ≤ os.length ∧ os.foldl G b = (os.drop i).foldl G b') (fun i _ _ => os.length - i) 0 b () ⟨Nat.zero_le _, rfl⟩ (.sub (by exact subQ) (OSub.refl _)) ?_
      rintro i b' _ ⟨hi, he⟩
      rw [he]
      rcases Nat.lt_or_ge i os.length with h1 | h1
      · have h2 := List.getElem?_eq_getElem h1
        have h3 := (hpm _).1 (List.getElem_mem h1)
        rw [List.drop_eq_getElem_cons h1, List.foldl_cons] at he ⊢
        generalize os[i] = o at *
        have xk : (os.map cOp)[(i : Int).toNat]? = some [AI o.kind, AI o.el] := zmp (f := cOp) h2
        have s4 := ih2 o h3 b'
        have hrow : (l ++ [o]).map cOp = [] ++ l.map cOp ++ [[AI o.kind, AI o.el]] := by rw [List.map_append]; rfl
        rw [show opsA (l ++ [o]) = .im 2 ([] ++ l.map cOp ++ [[AI o.kind, AI o.el]]) by rw [← hrow]] at s4
        generalize G b' o = b2 at *
        obtain ⟨bl, bc, bo⟩ := b'
        obtain ⟨b2l, b2c, b2o⟩ := b2
        change Pure _ _ [.agg [nodsA tn, edgsA te], .agg [cntsA sn, cntsA se], .agg [ints pn, edsA pe], _, .agg [opsA bl, AI bc, AB bo]] (.agg [opsA b2l, AI b2c, AB b2o]) at s4
        repeat (first | refine gN pk ?_)
        refine zrg ((List.range 15).map fun i => if inL [3, 5, 10, 11, 12, 13, 14] i = true then .eff else .pure) [] [0, 1, 2, 4, 6, 7, 8, 9] (.nd 3 [] (.nd 5 [] (.nd 10 [] (.nd 11 [12, 13, 14] .stop (.nd 12 [11, 13, 14] .stop .stop)) (.nd 12 [10, 11, 13, 14] .stop .stop)) (.nd 10 [] (.nd 5 [] (.nd 11 [12, 13, 14] .stop (.nd 12 [11, 13, 14] .stop .stop)) (.nd 12 [5, 11, 13, 14] .stop .stop)) (.nd 12 [] (.nd 5 [10, 11, 13, 14] .stop (.nd 10 [5, 11, 13, 14] .stop .stop)) .stop))) (.nd 10 [] (.nd 3 [] (.nd 5 [] (.nd 11 [12, 13, 14] .stop (.nd 12 [11, 13, 14] .stop .stop)) (.nd 12 [5, 11, 13, 14] .stop .stop)) (.nd 12 [3, 5, 11, 13, 14] .stop .stop)) (.nd 12 [] (.nd 3 [] (.nd 5 [10, 11, 13, 14] .stop (.nd 10 [5, 11, 13, 14] .stop .stop)) (.nd 10 [3, 5, 11, 13, 14] .stop .stop)) .stop))) mixed rfl rfl (by decide +kernel) ?_
        repeat' (first | (with_reducible show AG _ _ _ _ _ _ _ _ _ _; first | exact zgn | refine zgs ?_ | refine znd ?_ ?_) | (show AMid _ _ _ _; first | refine zmf ?_ | refine zmg (by first | exact OSub.refl _ | exact .drop (OSub.refl _) | exact .drop (.drop (OSub.refl _))) ?_) | refine gY pk ?_ | (show AL _ _ _ _ _ _ _; first | refine jX tok xk ?_ | refine jO tok 1 ?_ | refine jO tok 2 ?_ | refine s_build tok (parts := []) rfl rfl rfl rfl rfl rfl rfl rfl (by decide) (by decide) (fun v => ?_) | refine s_frzNow 0 rfl rfl rfl (s_build tok rfl rfl rfl rfl rfl rfl rfl rfl (by decide) (by decide) (fun v => AL.nil ⟨v, rfl, rfl, rfl⟩)) ?_ | refine s_appendIm (es2 := l.map cOp) tok 0 rfl rfl rfl rfl rfl rfl (by decide) rfl rfl rfl rfl (cOp_cell _) (by simp only [ll, List.length_nil]; omega) (by simp only [ll, List.length_nil]; omega) (fun w1 => ?_) | refine s_appendImF (es2 := [[AI o.kind, AI o.el]]) tok 0 rfl rfl rfl rfl rfl rfl (by decide) rfl rfl rfl rfl rfl (by simp only [List.nil_append, ll, List.length_cons, List.length_nil]; omega) (by simp only [List.nil_append, ll, List.length_cons, List.length_nil]; omega) ?_ | refine jP s4 ?_ | refine jS tok 1 ?_) | fail)
        all_goals
          repeat (first | refine gA pk ?_)
          exact ⟨i + 1, ⟨b2l, b2c, b2o⟩, (), ⟨by omega, rfl⟩, by omega, .sub (by exact subQ) (OSub.refl _)⟩
      · obtain rfl : i = os.length := by omega
        rw [List.drop_length]
        obtain ⟨bl, bc, bo⟩ := b'
        repeat (first | refine gV pk ?_ | (show AL _ _ _ _ _ _ _; first | refine jO tok 1 ?_ | refine jS tok 0 ?_))
        refine zfb 0 10 rfl rfl ?_
        refine a_ret ?_
        exact ⟨.inr rfl, _, _, _, _, rfl, rfl, Turn.of (Sub.of_eq rfl) (OSub.none _), rfl, rfl⟩
theorem gbest_spec (t : Tys) (ht : Small t) (s : Sta) (hs : s.nodes.length ≤ 1000 ∧ s.edges.length ≤ 1000) (p : Gr) (hp : OkG p) :
    Pure Tryz.prog 28 [tysA t, staA s, grA p] (.tup [opsA (bestR t s p).1, AI (bestR t s p).2.1, AI (bestR t s p).2.2]) := by
  have s1 := ggivenS_spec t ht s hs p hp
  have ln : (rowI p.nodes).length = p.nodes.length := by simp
  have le : (p.edges.map cEd).length = p.edges.length := by simp
  unfold bestR
  by_cases h1 : pricE t s p = 0
  rotate_left
  · rw [if_pos h1]
    generalize pricE t s p = c at *
    obtain ⟨tn, te⟩ := t
    obtain ⟨sn, se⟩ := s
    obtain ⟨pn, pe⟩ := p
    refine zen Tryz.func28 (by kernel_rfl) rfl Tryz.ntmps28 rfl (by simp) ?_
    refine a_seq ?_
    refine a_reg ?_
    repeat (first | refine gZ pk ?_ | (show AL _ _ _ _ _ _ _; first | refine jB (fun u => ?_)))
    refine zfb 2 3 rfl rfl ?_
    refine zfb 1 4 rfl rfl ?_
    refine zfb 0 5 rfl rfl ?_
    repeat (first | refine gA pk ?_ | (show AL _ _ _ _ _ _ _; first | refine jP s1 ?_))
    refine fin (x := .tup [nilS, AI 0, AI c]) (.inr rfl) rfl (Sub.tup (m := [opsA [], AI 0, AI c]) ⟨Sub.nil 2, Sub.refl _, Sub.refl _, trivial⟩) ?_ (OSub.none _)
    exact ⟨rfl, rfl⟩
  rw [if_neg (Decidable.not_not.2 h1)]
  rw [h1] at s1
  have hP := pricE_zero.1 h1
  have hnl := hP.gr.nl
  have hel := hP.gr.el
  by_cases h2 : 6 < p.nodes.length + p.edges.length
  · rw [if_pos h2]
    clear h1 hP hp
    obtain ⟨tn, te⟩ := t
    obtain ⟨sn, se⟩ := s
    obtain ⟨pn, pe⟩ := p
    simp only at *
    change Pure _ _ [.agg [nodsA tn, edgsA te], .agg [cntsA sn, cntsA se], .agg [ints pn, edsA pe]] _
    refine zen Tryz.func28 (by kernel_rfl) rfl Tryz.ntmps28 rfl (by simp) ?_
    refine a_seq ?_
    refine a_reg ?_
    repeat (first | refine gZ pk ?_ | (show AL _ _ _ _ _ _ _; first | refine jB (fun u => ?_)))
    refine zfb 2 3 rfl rfl ?_
    refine zfb 1 4 rfl rfl ?_
    refine zfb 0 5 rfl rfl ?_
    repeat (first | refine gA pk ?_ | (show AL _ _ _ _ _ _ _; first | refine jP s1 ?_))
    refine fin (x := .tup [nilS, AI 0, AI 3]) (.inr rfl) rfl (Sub.tup (m := [opsA [], AI 0, AI 3]) ⟨Sub.nil 2, Sub.refl _, Sub.refl _, trivial⟩) ?_ (OSub.none _)
    exact ⟨rfl, rfl⟩
  · rw [if_neg h2]
    have sr := Pure.subA (better_rec t ht s hs p hP 7 [] ⟨[], 0, false⟩ trivial (by show unk (kn0 p) < 7; rw [unk_0]; omega) (by show 0 + unk (kn0 p) ≤ 200; rw [unk_0]; omega)) (args' := [tysA t, staA s, grA p, nilS, .agg [nilS, AI 0, AB false]]) ⟨Sub.refl _, Sub.refl _, Sub.refl _, Sub.nil 2, Sub.agg (m := [opsA [], AI 0, AB false]) ⟨Sub.nil 2, Sub.refl _, Sub.refl _, trivial⟩, trivial⟩
    change Pure _ _ _ (bsA (bestB t s p)) at sr
    generalize bestB t s p = B at *
    obtain ⟨Bl, Bc, Bo⟩ := B
    clear h1 hP hp
    obtain ⟨tn, te⟩ := t
    obtain ⟨sn, se⟩ := s
    obtain ⟨pn, pe⟩ := p
    simp only at *
    change Pure _ _ [.agg [nodsA tn, edgsA te], .agg [cntsA sn, cntsA se], .agg [ints pn, edsA pe]] _
    change Pure _ _ [.agg [nodsA tn, edgsA te], .agg [cntsA sn, cntsA se], .agg [ints pn, edsA pe], _, _] (.agg [opsA Bl, AI Bc, AB Bo]) at sr
    refine zen Tryz.func28 (by kernel_rfl) rfl Tryz.ntmps28 rfl (by simp) ?_
    refine a_seq ?_
    refine a_reg ?_
    repeat (first | refine gZ pk ?_ | (show AL _ _ _ _ _ _ _; first | refine jB (fun u => ?_)))
    refine zfb 2 3 rfl rfl ?_
    refine zfb 1 4 rfl rfl ?_
    refine zfb 0 5 rfl rfl ?_
    repeat (first | refine gN pk ?_ | (show AL _ _ _ _ _ _ _; first | refine jP s1 ?_ | refine jP sr ?_ | refine jL tok (fun ub => ?_) | refine jS tok 0 ?_))
    refine zrg ((List.range 7).map fun i => if inL [1, 3] i = true then .read else .pure) [] [0, 1, 2, 3, 4, 5, 6] .stop mixed rfl rfl (by decide +kernel) ?_
    repeat' (first | (with_reducible show AG _ _ _ _ _ _ _ _ _ _; first | exact zgn | refine zgs ?_ | refine znd ?_ ?_) | (show AMid _ _ _ _; first | refine zmf ?_ | refine zmg (by first | exact OSub.refl _ | exact .drop (OSub.refl _) | exact .drop (.drop (OSub.refl _))) ?_) | refine gY pk ?_ | (show AL _ _ _ _ _ _ _; first | refine jO tok 0 ?_) | fail)
    repeat (first | refine gA pk ?_)
    refine fin (x := .tup [opsA Bl, AI Bc, AI 0]) (.inr rfl) rfl (Sub.refl _) ?_ (OSub.none _)
    exact ⟨rfl, rfl⟩
end Go.Proofs.YtimfponihbfimaaGreat
end
section
namespace Go.Sj.Can
open Go.Sj Go.Sj.Sta Go.Sj.Typ
set_option maxRecDepth 8000
structure Dr5 where
  nodes : List Int
  edges : List (Int × Int × Int)
abbrev RDr5 := List Int × List (List Int) × Unit
def toDr5 (x : RDr5) : Dr5 := ⟨x.1, x.2.1.map toC3⟩
abbrev dr5L (d : Dr5) : List AV := [bytesA d.nodes, .im 3 (d.edges.map c83)]
abbrev dr5A (d : Dr5) : AV := .agg (dr5L d)
def gDr5 (x : RDr5) : List AV := [.im 1 (x.1.map fun n => [.lit (.int .u8 n)])] ++ ([.im 3 (x.2.1.map g8s)] ++ [])
structure OkD5 (d : Dr5) : Prop where
  nodes : ∀ n ∈ d.nodes, 0 ≤ n ∧ n ≤ 255
  edges : ∀ c ∈ d.edges, In3 c
  nl : d.nodes.length ≤ 140737488355328
  gl : d.edges.length ≤ 140737488355328
abbrev okRD5 (x : RDr5) : Prop := ((∀ m ∈ x.1, (Lit.int .u8 m).wf = true) ∧ x.1.length ≤ reachBytes) ∧ ((∀ a ∈ x.2.1, a.length = 3 ∧ ∀ m ∈ a, (Lit.int .u8 m).wf = true) ∧ x.2.1.length ≤ reachBytes) ∧ True
theorem dr5_vr {σ : Hp} {v : Value} {x : RDr5} (hx : okRD5 x) (h : VR σ (.agg (gDr5 x)) v) : VR σ (dr5A (toDr5 x)) v := by
  have e3 : x.2.1.map g8s = (x.2.1.map toC3).map c83 := by rw [List.map_map]; exact List.map_congr_left fun a ha => toC3_c (hx.2.1.1 a ha).1
  have e : gDr5 x = dr5L (toDr5 x) := by
    show [AV.im 1 (x.1.map fun n => [.lit (.int .u8 n)]), AV.im 3 (x.2.1.map g8s)] = _
    rw [e3]; rfl
  rw [e] at h
  exact h
theorem dr5_ok {x : RDr5} (hx : okRD5 x) : OkD5 (toDr5 x) := by
  have r3 := hx.1.2
  have r4 := hx.2.1.2
  unfold reachBytes at r3 r4
  refine ⟨fun n hn => wf_n8 (hx.1.1 n hn), fun c hc => ?_, ?_, ?_⟩
  · obtain ⟨a, ha, rfl⟩ := List.mem_map.1 hc
    exact toC3_ok (hx.2.1.1 a ha)
  · show x.1.length ≤ _
    omega
  · show (x.2.1.map toC3).length ≤ _
    rw [List.length_map]; omega
def made5N (l : List Int) : List Int := (l.take 8).map fun x => x % 3
def in5 (n : Nat) (c : Int × Int × Int) : Ed := ⟨c.1 % 2, c.2.1 % (n : Int), c.2.2 % (n : Int)⟩
def made5M (n : Nat) (es : List (Int × Int × Int)) : List (Int × Int × Int) := if n = 0 then [] else es.take 10
def made5 (d : Dr5) : Gr := ⟨made5N d.nodes, (made5M (made5N d.nodes).length d.edges).map (in5 (made5N d.nodes).length)⟩
theorem made5_len (d : Dr5) : (made5 d).nodes.length = min 8 d.nodes.length ∧ (made5 d).edges.length ≤ 10 := by
  refine ⟨by simp [made5, made5N], ?_⟩
  show ((made5M _ _).map _).length ≤ 10
  rw [List.length_map]
  unfold made5M
  split
  · simp
  · rw [List.length_take]; omega
theorem made5_n (d : Dr5) : ∀ x ∈ (made5 d).nodes, 0 ≤ x ∧ x < 3 := fun x hx => by
  obtain ⟨y, _, rfl⟩ := List.mem_map.1 (show x ∈ (d.nodes.take 8).map fun x => x % 3 from hx)
  omega
theorem made5_e (d : Dr5) : ∀ e ∈ (made5 d).edges, (0 ≤ e.ty ∧ e.ty < 2) ∧ (0 ≤ e.fr ∧ e.fr < (made5 d).nodes.length) ∧ (0 ≤ e.to ∧ e.to < (made5 d).nodes.length) := fun e he => by
  obtain ⟨c, hc, rfl⟩ := List.mem_map.1 (show e ∈ (made5M (made5N d.nodes).length d.edges).map (in5 (made5N d.nodes).length) from he)
  have h0 : (made5N d.nodes).length ≠ 0 := fun h => by
    unfold made5M at hc
    rw [if_pos h] at hc
    cases hc
  show (0 ≤ c.1 % 2 ∧ c.1 % 2 < 2) ∧ (0 ≤ c.2.1 % ((made5N d.nodes).length : Int) ∧ _ < ((made5N d.nodes).length : Int)) ∧ (0 ≤ c.2.2 % ((made5N d.nodes).length : Int) ∧ _ < ((made5N d.nodes).length : Int))
  have h1 : (0 : Int) < ((made5N d.nodes).length : Int) := by omega
  exact ⟨by omega, ⟨Int.emod_nonneg _ (by omega), Int.emod_lt_of_pos _ h1⟩, ⟨Int.emod_nonneg _ (by omega), Int.emod_lt_of_pos _ h1⟩⟩
theorem made5_gv (d : Dr5) : GV (made5 d) := by
  obtain ⟨l1, l2⟩ := made5_len d
  refine ⟨by omega, by omega, fun x hx => ?_, fun e he => ?_⟩
  · have := made5_n d x hx; omega
  · have := made5_e d e he; omega
section
variable {g : Gr} {p q : List Int} (h : GV g) (hp : Prm p g.nodes.length) (hq : Prm q g.edges.length)
include h hp hq
end
end Go.Sj.Can
end
section
namespace Go.Proofs.YtimfponihbfimaaGreat
open Go.Sj Go.Sj.Typ Go.Sj.Sta Go.Sj.Inc Go.Sj.Pln
set_option maxRecDepth 8000
set_option maxHeartbeats 16000000
def chF (codes : List Int) (i : Nat) : Int := if codes.length = 0 then 0 else codes.getD (i % codes.length) 0
theorem mkP_nil {p : Gr} {f : Nat → Int} {m i : Nat} {k : Kn} (h : poss p k = []) : mkP p f m i k = [] := by
  cases m with
  | zero => rfl
  | succ m => rw [mkP, if_pos h]
theorem gmade_spec (p : Gr) (hp : GV p) (codes : List Int) (hcl : codes.length ≤ 1000) (hc : ∀ x ∈ codes, 0 ≤ x ∧ x ≤ 255) : Pure Tryz.prog 19 [grA p, bytesA codes] (opsA (mkP p (chF codes) 200 0 (kn0 p))) := by
  have hnl := hp.nl
  have hel := hp.el
  have sP : ∀ (l : List Opn) (h1 : l.length ≤ 1000) (h2 : PreE p (kn0 p) l) (v : Value), ACalls Tryz.prog 57 [grA p, .lit v] [(v, .row 41 2 (l.map cOp))] (fun y M => ∃ w, y = .lit w ∧ M = [(w, .row 41 2 ((poss p (endK p (kn0 p) l)).map cOp)), (v, .row 41 2 (l.map cOp))]) := fun l h1 h2 v => (ACalls.lendZ (E := 41) (gPossible_spec p hp l h1 h2) (v := v) (sz := 2) (es := l.map cOp) (args' := [grA p, .lit v]) ⟨FZ.refl _, FZ.here, trivial⟩ (fun y M ⟨w, h1, h2⟩ => by
    subst h1; subst h2
    refine ⟨.lit _, fun q hq => ?_⟩
    rw [List.mem_singleton] at hq
    subst hq
    intro e he x hx
    obtain ⟨z, _, rfl⟩ := List.mem_map.1 he
    have hx : x ∈ [AI z.kind, AI z.el] := hx
    simp only [List.mem_cons, List.not_mem_nil, or_false] at hx
    rcases hx with rfl | rfl <;> exact .lit _)).mono fun y M ⟨M', ⟨w, h1, h2⟩, h3⟩ => ⟨w, h1, by rw [h3, h2]; rfl⟩
  have lc : (codes.map c8).length = codes.length := by simp
  generalize hf : chF codes = f
  refine zen Tryz.func19 (by kernel_rfl) rfl Tryz.ntmps19 rfl (by simp) ?_; refine a_seq ?_; refine a_reg ?_; (repeat (first | refine gZ pk ?_ | (show AL _ _ _ _ _ _ _; first | refine jB (fun u => ?_)))); refine zfb 0 2 rfl rfl ?_
  repeat (first | refine gA pk ?_)
  refine a_loopG3 (fun (i : Nat) (o : List Opn) (v : Value) => [(1, bytesA codes), (2, grP p), (5, .lit v), (6, AI i)]) (fun i o v => [(v, .row 41 2 (o.map cOp))]) (fun i o _ => i ≤ 200 ∧ o.length = i ∧ PreE p (kn0 p) o ∧ mkP p f 200 0 (kn0 p) = o ++ mkP p f (200 - i) i (endK p (kn0 p) o)) (fun i _ _ => 200 - i) 0 [] (.slice none 0 0) ⟨by omega, rfl, trivial, rfl⟩ (.sub (by exact subQ) (.free (OSub.none _))) ?_
  rintro i o v ⟨hi, ho, hpr, he⟩
  rw [he]
  have lo : (o.map cOp).length = i := by rw [List.length_map, ho]
  rcases Nat.lt_or_ge i 200 with h | h
  · have s1 := sP o (by omega) hpr v
    have hplen := poss_len p (endK p (kn0 p) o)
    have hpm := fun x => poss_mem (p := p) (s := endK p (kn0 p) o) (o := x)
    by_cases hn : poss p (endK p (kn0 p) o) = []
    · rw [mkP_nil hn, List.append_nil]
      rw [hn] at s1
      have l0 : (([] : List Opn).map cOp).length = 0 := rfl
      repeat (first | refine gZ pk ?_)
      refine a_reg ?_
      repeat (first | refine gZ pk ?_)
      refine a_reg ?_
      repeat (first | refine gZ pk ?_ | (show AL _ _ _ _ _ _ _; first | refine s_frzNowP (M := [(v, .row 41 2 (o.map cOp))]) 0 rfl rfl rfl (zsc (Lc := [(v, .row 41 2 (o.map cOp))]) (Lr := []) rfl rfl rfl rfl rfl s1 (SubL.of_eq rfl) (List.Perm.refl _) (by rintro _ _ ⟨w, rfl, rfl⟩; exact AL.nil ⟨w, rfl, rfl, List.Perm.refl _⟩)) ?_))
      refine a_frz 0 5 rfl rfl ?_
      repeat (first | refine gA pk ?_)
      refine finQ ?_
      exact ⟨rfl, rfl⟩
    · have hpos : 0 < (poss p (endK p (kn0 p) o)).length := List.length_pos_iff.2 hn
      have hstep : mkP p f (200 - i) i (endK p (kn0 p) o) = (poss p (endK p (kn0 p) o)).getD (f i % (poss p (endK p (kn0 p) o)).length).toNat ⟨0, 0⟩ :: mkP p f (200 - (i + 1)) (i + 1) (aftK p (endK p (kn0 p) o) ((poss p (endK p (kn0 p) o)).getD (f i % (poss p (endK p (kn0 p) o)).length).toNat ⟨0, 0⟩)) := by
        obtain ⟨d, hd⟩ : ∃ d, 200 - i = d + 1 := ⟨200 - i - 1, by omega⟩
        rw [hd, show 200 - (i + 1) = d by omega, mkP, if_neg hn]
      rw [hstep] at he ⊢
      have h0 := Int.emod_nonneg (f i) (b := ((poss p (endK p (kn0 p) o)).length : Int)) (by omega)
      have h1 := Int.emod_lt_of_pos (f i) (b := ((poss p (endK p (kn0 p) o)).length : Int)) (by omega)
      have hget := List.getElem?_eq_getElem (l := poss p (endK p (kn0 p) o)) (i := (f i % (poss p (endK p (kn0 p) o)).length).toNat) (by omega)
      have hmem := (hpm _).1 (List.mem_of_getElem? hget)
      have hgD : (poss p (endK p (kn0 p) o)).getD (f i % (poss p (endK p (kn0 p) o)).length).toNat ⟨0, 0⟩ = (poss p (endK p (kn0 p) o))[(f i % (poss p (endK p (kn0 p) o)).length).toNat]'(by omega) := by
        rw [List.getD_eq_getElem?_getD, hget]
        rfl
      rw [hgD] at he ⊢
      generalize (poss p (endK p (kn0 p) o))[(f i % (poss p (endK p (kn0 p) o)).length).toNat]'(by omega) = x at *
      have hpr2 := preE_snoc hpr hmem
      have hek := endK_snoc p (kn0 p) o x
      rw [← hek] at he ⊢
      have lL : ((poss p (endK p (kn0 p) o)).map cOp).length = (poss p (endK p (kn0 p) o)).length := by simp
      clear hgD hstep hpm hmem
      generalize poss p (endK p (kn0 p) o) = L at *
      have hrow : (o ++ [x]).map cOp = o.map cOp ++ [[AI x.kind, AI x.el]] := by rw [List.map_append]; rfl
      by_cases hz : codes.length = 0
      · have hfi : f i = 0 := by rw [← hf]; unfold chF; rw [if_pos hz]
        rw [hfi] at hget h0 h1
        have xk : (L.map cOp)[(0 : Int).toNat]? = some [AI x.kind, AI x.el] := zmp (f := cOp) (by rw [Int.zero_emod] at hget; exact hget)
        repeat (first | refine gA pk ?_ | (show AL _ _ _ _ _ _ _; first | refine s_frzNowP (M := [(v, .row 41 2 (o.map cOp))]) 0 rfl rfl rfl (zsc (Lc := [(v, .row 41 2 (o.map cOp))]) (Lr := []) rfl rfl rfl rfl rfl s1 (SubL.of_eq rfl) (List.Perm.refl _) (by rintro _ _ ⟨w, rfl, rfl⟩; exact AL.nil ⟨w, rfl, rfl, List.Perm.refl _⟩)) ?_ | refine jX tok xk ?_))
        (first | refine s_build1 tok rfl rfl rfl rfl rfl rfl rfl rfl (fun u => ?_) | refine s_build1M tok rfl rfl rfl rfl rfl rfl rfl (fun u => ?_) | refine zba tok rfl rfl rfl rfl rfl rfl rfl rfl (by decide) (fun u => ?_)); refine s_append1 tok 0 rfl rfl rfl rfl rfl rfl (by decide) rfl rfl rfl rfl (by omega) (by omega) (fun w => ?_)
        repeat (first | refine gA pk ?_)
        exact ⟨i + 1, o ++ [x], w, ⟨by omega, by simp; omega, hpr2, by simp⟩, by omega, .sub (by exact subQ) (by rw [hrow]; exact OSub.refl _)⟩
      · have hm : i % codes.length < codes.length := Nat.mod_lt _ (by omega)
        have hcg := List.getElem?_eq_getElem hm
        have hcr := hc _ (List.getElem_mem hm)
        have hfi : f i = codes[i % codes.length] := by
          rw [← hf]
          unfold chF
          rw [if_neg hz, List.getD_eq_getElem?_getD, hcg]
          rfl
        rw [hfi] at hget h0 h1
        generalize codes[i % codes.length] = y at *
        have hmi : ((i : Int) % ((codes.map c8).length : Int)) = ((i % codes.length : Nat) : Int) := by rw [lc]; omega
        have ck : (codes.map c8)[((i : Int) % ((codes.map c8).length : Int)).toNat]? = some [A8 y] := by rw [hmi, Int.toNat_natCast]; exact zmp (f := c8) hcg
        have hmn : 0 ≤ (i : Int) % ((codes.map c8).length : Int) := by rw [hmi]; omega
        have xk : (L.map cOp)[(y % ((L.map cOp).length : Int)).toNat]? = some [AI x.kind, AI x.el] := by rw [lL]; exact zmp (f := cOp) hget
        rw [← lL] at h0 h1
        repeat (first | refine gA pk ?_ | (show AL _ _ _ _ _ _ _; first | refine s_frzNowP (M := [(v, .row 41 2 (o.map cOp))]) 0 rfl rfl rfl (zsc (Lc := [(v, .row 41 2 (o.map cOp))]) (Lr := []) rfl rfl rfl rfl rfl s1 (SubL.of_eq rfl) (List.Perm.refl _) (by rintro _ _ ⟨w, rfl, rfl⟩; exact AL.nil ⟨w, rfl, rfl, List.Perm.refl _⟩)) ?_ | refine s_rem rfl rfl rfl rfl rfl rfl (by omega) (by omega) ?_ | refine s_index tok rfl rfl rfl rfl rfl rfl rfl rfl rfl hmn ck ?_ | refine zcv tok rfl rfl rfl rfl rfl rfl rfl (IntWalk.i64_in _ (by omega)) ?_ | refine s_index tok rfl rfl rfl rfl rfl rfl rfl rfl rfl h0 xk ?_))
        (first | refine s_build1 tok rfl rfl rfl rfl rfl rfl rfl rfl (fun u => ?_) | refine s_build1M tok rfl rfl rfl rfl rfl rfl rfl (fun u => ?_) | refine zba tok rfl rfl rfl rfl rfl rfl rfl rfl (by decide) (fun u => ?_)); refine s_append1 tok 0 rfl rfl rfl rfl rfl rfl (by decide) rfl rfl rfl rfl (by omega) (by omega) (fun w => ?_)
        repeat (first | refine gA pk ?_)
        exact ⟨i + 1, o ++ [x], w, ⟨by omega, by simp; omega, hpr2, by simp⟩, by omega, .sub (by exact subQ) (by rw [hrow]; exact OSub.refl _)⟩
  · obtain rfl : i = 200 := by omega
    rw [show mkP p f (200 - 200) 200 (endK p (kn0 p) o) = [] from rfl, List.append_nil]
    refine a_frz 0 5 rfl rfl ?_
    repeat (first | refine gA pk ?_)
    refine finQ ?_
    exact ⟨rfl, rfl⟩
end Go.Proofs.YtimfponihbfimaaGreat
end
section
namespace Go.Proofs.YtimfponihbfimaaGreat
open Go.Sj Go.Sj.Typ Go.Sj.Sta Go.Sj.Inc Go.Sj.Pln
set_option maxRecDepth 8000
set_option maxHeartbeats 16000000
theorem best_facts {t : Tys} {s : Sta} {p : Gr} (h : (bestR t s p).2.2 = 0) : Prc t s p ∧ p.nodes.length + p.edges.length ≤ 6 ∧ planE p (kn0 p) (bestR t s p).1 = 0 ∧ costL t s p (bestR t s p).1 = (bestR t s p).2.1 ∧ ∀ l', planE p (kn0 p) l' = 0 → (bestR t s p).2.1 ≤ costL t s p l' := by
  unfold bestR at h ⊢
  split at h
  · rename_i h1; exact absurd h h1
  · rename_i h1
    split at h
    · cases h
    · rename_i h2
      have hP := pricE_zero.1 (Decidable.not_not.1 h1)
      rw [if_neg h1, if_neg h2]
      have hu : unk (kn0 p) < 7 := by rw [unk_0]; omega
      have hb := fun l' hl => betL_best (t := t) (s := s) (p := p) 7 [] (kn0 p) 1 0 ⟨[], 0, false⟩ l' (kn0_ok p) hu hl
      have hm := hb _ (mkP_valid hP.gr (fun _ => 0) 7 0 (kn0 p) (kn0_ok p) (by omega))
      have hf := betL_fnd (t := t) (s := s) (p := p) 7 [] (kn0 p) 1 0 ⟨[], 0, false⟩
      refine ⟨hP, by omega, ?_⟩
      show planE p (kn0 p) (bestB t s p).l = 0 ∧ costL t s p (bestB t s p).l = (bestB t s p).c ∧ ∀ l', planE p (kn0 p) l' = 0 → (bestB t s p).c ≤ costL t s p l'
      rcases hf with hf | ⟨l', g1, g2, g3, g4⟩
      · rw [hf] at hm
        exact absurd hm.1 (by decide)
      · have e1 : (bestB t s p).l = l' := by
          unfold bestB
          rw [g1, List.nil_append]
        rw [e1]
        exact ⟨g2, g3.symm, fun l'' hl => (hb l'' hl).2⟩
theorem PlanBest_spec (t : Tys) (ht : OkT t) (s : Sta) (p : Gr) (hp : OkG p) (codes : List Int) (hc0 : (∀ x ∈ codes, 0 ≤ x ∧ x ≤ 255) ∧ codes.length ≤ 140737488355328) : Pure Tryz.prog 8 [prcA t s p, bytesA codes] (AB true) := by
  have hc := hc0.1
  have sa := awakeP_spec
  have s1 := calls_subA (small_spec t ht s p [] (by simp)) (args' := [tysA t, staA s, grA p, nilS]) ⟨Sub.refl _, Sub.refl _, Sub.refl _, Sub.nil 2, trivial⟩
  have lc : (codes.map c8).length = codes.length := by simp
  have s2 := fun (h : SmP t s p []) => gCopied_spec p h.2.2.1.1 h.2.2.1.2
  have s3 := fun (h : SmP t s p []) => best_spec t h.1 s h.2.1 p hp
  have s4 := fun (h : SmP t s p []) => gbest_spec t h.1 s h.2.1 p hp
  have s5 := fun (h : SmP t s p []) (l : List Opn) hl => cost_spec t h.1 s h.2.1 p hp l hl
  have hbf := best_facts (t := t) (s := s) (p := p)
  have hcR : ∀ l, Prc t s p → planE p (kn0 p) l = 0 → costR t s p l = (costL t s p l, 0) := fun l h1 h2 => by
    unfold costR
    rw [if_neg (Decidable.not_not.2 (pricE_zero.2 h1)), if_neg (Decidable.not_not.2 h2)]
  have hlen : Prc t s p → p.nodes.length + p.edges.length ≤ 6 → ∀ l, planE p (kn0 p) l = 0 → l.length ≤ 6 := fun _ h2 l hl => by
    have := plan_len l (kn0 p) (kn0_ok p) hl
    rw [unk_0] at this
    omega
  have sM := fun (h : Prc t s p) (h2 : codes.length ≤ 20) => gmade_spec p h.gr codes (by omega) hc
  have hMv : Prc t s p → p.nodes.length + p.edges.length ≤ 6 → planE p (kn0 p) (mkP p (chF codes) 200 0 (kn0 p)) = 0 := fun h h2 => mkP_valid h.gr _ 200 0 (kn0 p) (kn0_ok p) (by rw [unk_0]; omega)
  generalize mkP p (chF codes) 200 0 (kn0 p) = M at *
  have hsame : Prc t s p → True := fun _ => trivial
  have hl0 : (bestR t s p).2.2 ≠ 0 → (bestR t s p).1 = [] := fun h => by
    unfold bestR at h ⊢
    split at h
    · rename_i h1; rw [if_pos h1]
    · rename_i h1
      rw [if_neg h1]
      split at h
      · rename_i h2; rw [if_pos h2]
      · exact absurd rfl h
  generalize bestR t s p = r at *
  obtain ⟨L, c, e⟩ := r
  simp only at *
  have hLl : L.length ≤ 6 := by
    by_cases h : e = 0
    · obtain ⟨a, b, d, _⟩ := hbf h
      exact hlen a b L d
    · rw [hl0 h]; exact Nat.zero_le _
  have s6 := gSameOps_spec L L (by omega) (by omega)
  rw [decide_eq_true rfl] at s6
  have hmain : SmP t s p [] → codes.length ≤ 20 → e = 0 → ∃ o, Pure Tryz.prog 19 [grA p, bytesA codes] (opsA M) ∧ Pure Tryz.prog 24 [tysA t, staA s, grA p, opsA M] (.tup [AI o, AI 0]) ∧ Pure Tryz.prog 24 [tysA t, staA s, grA p, opsA L] (.tup [AI c, AI 0]) ∧ c ≤ o := fun h1 h2 h3 => by
    obtain ⟨a, b, d, f, g⟩ := hbf h3
    have m1 := hMv a b
    refine ⟨costL t s p M, sM a h2, ?_, ?_, g M m1⟩
    · have := s5 h1 M (by have := hlen a b M m1; omega)
      rw [hcR M a m1] at this
      exact this
    · have := s5 h1 L (by omega)
      rw [hcR L a d, f] at this
      exact this
  clear hbf hcR hlen sM hMv hsame hl0 s5
  generalize SmP t s p [] = Z at *
  obtain ⟨tn, te⟩ := t
  obtain ⟨sn, se⟩ := s
  obtain ⟨pn, pe⟩ := p
  change Go.Sj.ACalls _ _ [.agg [nodsA tn, edgsA te], .agg [cntsA sn, cntsA se], .agg [ints pn, edsA pe], nilS] _ _ at s1
  change Pure _ _ [.agg [nodsA tn, edgsA te, cntsA sn, cntsA se, ints pn, edsA pe], bytesA codes] _
  refine zen Tryz.func8 (by kernel_rfl) rfl Tryz.ntmps8 rfl (by simp) ?_; refine a_seq ?_; refine a_reg ?_; (repeat (first | refine gZ pk ?_ | (show AL _ _ _ _ _ _ _; first | refine jB (fun u => ?_)))); refine zfb 0 2 rfl rfl ?_
  repeat (first | refine gN pk ?_ | (show AL _ _ _ _ _ _ _; first | refine jP sa ?_ | refine zsc (Lc := []) (Lr := []) rfl rfl rfl rfl rfl s1 (SubL.of_eq rfl) (List.Perm.refl _) ?_; rintro _ _ ⟨⟨b1, rfl, hb1⟩, rfl⟩))
  cases b1 with
  | false =>
    repeat (first | refine gA pk ?_ | (show AL _ _ _ _ _ _ _; first | refine jP sa ?_))
    refine finQ ?_
    exact ⟨rfl, rfl⟩
  | true =>
    have hz := hb1 rfl
    by_cases hcl : codes.length ≤ 20
    rotate_left
    · repeat (first | refine gA pk ?_ | (show AL _ _ _ _ _ _ _; first | refine jP sa ?_))
      refine finQ ?_
      exact ⟨rfl, rfl⟩
    replace s2 := s2 hz
    replace s3 := s3 hz
    replace s4 := s4 hz
    change Pure _ _ [.agg [ints pn, edsA pe]] _ at s2
    change Pure _ _ [.agg [nodsA tn, edgsA te], .agg [cntsA sn, cntsA se], .agg [ints pn, edsA pe]] _ at s3
    change Pure _ _ [.agg [nodsA tn, edgsA te], .agg [cntsA sn, cntsA se], .agg [ints pn, edsA pe]] _ at s4
    by_cases he : e = 0
    rotate_left
    · repeat (first | refine gN pk ?_)
      refine zrg ((List.range 15).map fun i => if inL [6, 7] i = true then .eff else if inL [1, 3, 5] i = true then .read else .pure) [6] [0, 1, 2, 3, 4, 5] (.nd 6 [7, 8, 9, 10, 11, 12, 13, 14] .stop .stop) mixed rfl rfl (by decide +kernel) ?_
      repeat' (first | (with_reducible show AG _ _ _ _ _ _ _ _ _ _; first | exact zgn | refine zgs ?_ | refine znd ?_ ?_) | (show AMid _ _ _ _; first | refine zmf ?_ | refine zmg (by first | exact OSub.refl _ | exact .drop (OSub.refl _) | exact .drop (.drop (OSub.refl _))) ?_) | refine gY pk ?_ | (show AL _ _ _ _ _ _ _; first | refine jP s2 ?_ | refine jP s3 ?_) | fail)
      repeat (first | refine gA pk ?_ | (show AL _ _ _ _ _ _ _; first | refine jP s4 ?_ | refine jP s6 ?_))
      refine finQ ?_
      exact ⟨rfl, rfl⟩
    · obtain ⟨o, m1, m2, m3, m4⟩ := hmain hz hcl he
      subst he
      change Pure _ _ [.agg [ints pn, edsA pe], _] _ at m1
      change Pure _ _ [.agg [nodsA tn, edgsA te], .agg [cntsA sn, cntsA se], .agg [ints pn, edsA pe], _] _ at m2
      change Pure _ _ [.agg [nodsA tn, edgsA te], .agg [cntsA sn, cntsA se], .agg [ints pn, edsA pe], _] _ at m3
      repeat (first | refine gN pk ?_)
      refine zrg ((List.range 15).map fun i => if inL [6, 7] i = true then .eff else if inL [1, 3, 5] i = true then .read else .pure) [6] [0, 1, 2, 3, 4, 5] (.nd 6 [7, 8, 9, 10, 11, 12, 13, 14] .stop .stop) mixed rfl rfl (by decide +kernel) ?_
      repeat' (first | (with_reducible show AG _ _ _ _ _ _ _ _ _ _; first | exact zgn | refine zgs ?_ | refine znd ?_ ?_) | (show AMid _ _ _ _; first | refine zmf ?_ | refine zmg (by first | exact OSub.refl _ | exact .drop (OSub.refl _) | exact .drop (.drop (OSub.refl _))) ?_) | refine gY pk ?_ | (show AL _ _ _ _ _ _ _; first | refine jP s2 ?_ | refine jP s3 ?_) | fail)
      repeat (first | refine gN pk ?_ | (show AL _ _ _ _ _ _ _; first | refine jP s4 ?_ | refine jP s6 ?_))
      refine zrg ((List.range 16).map fun i => if inL [9, 10] i = true then .eff else if inL [1, 3, 5, 7] i = true then .read else .pure) [9] [0, 1, 2, 3, 4, 5, 6, 7, 8] (.nd 9 [10, 11, 12, 13, 14, 15] .stop .stop) mixed rfl rfl (by decide +kernel) ?_
      repeat' (first | (with_reducible show AG _ _ _ _ _ _ _ _ _ _; first | exact zgn | refine zgs ?_ | refine znd ?_ ?_) | (show AMid _ _ _ _; first | refine zmf ?_ | refine zmg (by first | exact OSub.refl _ | exact .drop (OSub.refl _) | exact .drop (.drop (OSub.refl _))) ?_) | refine gY pk ?_ | (show AL _ _ _ _ _ _ _; first | refine jP m1 ?_ | refine jP m2 ?_) | fail)
      repeat (first | refine gA pk ?_ | (show AL _ _ _ _ _ _ _; first | refine jP m3 ?_))
      refine finQ ?_
      exact ⟨rfl, rfl⟩
end Go.Proofs.YtimfponihbfimaaGreat
end
section
namespace Go.Proofs.YtimfponihbfimaaGreat
open Go.Sj Go.Sj.Typ Go.Sj.Sta Go.Sj.Can
set_option maxRecDepth 8000
set_option maxHeartbeats 16000000
theorem made5M_eq (n : Nat) (es : List (Int × Int × Int)) : ∃ M, (M ≤ 10 ∧ M ≤ es.length) ∧ (0 < M → 0 < n) ∧ made5M n es = es.take M ∧ (es.length ≤ M ∨ 10 ≤ M ∨ n = 0) := by
  unfold made5M
  by_cases h : n = 0
  · exact ⟨0, by omega, by omega, by rw [if_pos h]; rfl, by omega⟩
  · exact ⟨min 10 es.length, by omega, by omega, by rw [if_neg h]; exact (List.take_eq_take_iff).2 (by omega), by omega⟩
theorem gMade_spec (d : Dr5) (hd : OkD5 d) : Pure Tryz.prog 21 [dr5A d] (grA (made5 d)) := by
  obtain ⟨l, es⟩ := d
  obtain ⟨hl, he, hll, hel⟩ := hd
  simp only at hl he hll hel
  have l1 : (l.map c8).length = l.length := by simp
  have l2 : (es.map c83).length = es.length := by simp
  obtain ⟨ns, hns⟩ : ∃ ns, made5N l = ns := ⟨_, rfl⟩
  have hns' : ns = (l.take (min 8 l.length)).map fun x => x % 3 := by
    rw [← hns, made5N]
    congr 1
    exact (List.take_eq_take_iff).2 (by omega)
  have hnl : ns.length ≤ 8 := by rw [hns', List.length_map, List.length_take]; omega
  have lns : (rowI ns).length = ns.length := by simp
  obtain ⟨M, hM1, hM2, hM3, hM4⟩ := made5M_eq ns.length es
  have hgoal : made5 ⟨l, es⟩ = ⟨ns, (es.take M).map (in5 ns.length)⟩ := by rw [made5]; simp only; rw [hns, hM3]
  rw [hgoal]
  refine a_enterC Tryz.func21 (by kernel_rfl) rfl Tryz.ntmps21 rfl (tok _ _ rfl) (by simp) ?_
  refine a_seq ?_
  refine a_reg ?_
  repeat (first | refine gZ pk ?_ | (show AL _ _ _ _ _ _ _; first | refine jB (fun u => ?_) | refine jL tok (fun u2 => ?_)))
  refine zfb 1 1 rfl rfl ?_
  repeat (first | refine gN pk ?_ | (show AL _ _ _ _ _ _ _; first | refine jL tok (fun u3 => ?_)))
  refine a_loop2 (fun (i : Nat) (v : Value) => [(1, .ip [bytesA l, .im 3 (es.map c83)]), (2, .pt u2 0 0 0), (3, .pt u3 0 0 0), (4, AI i)]) (fun i v => [(v, .row 3 1 (rowI ((l.take i).map fun x => x % 3))), (u3, .box [.lit v, .lit (.slice none 0 0)]), (u2, .box [.lit (.slice none 0 0), .lit (.slice none 0 0)])]) (fun i v => i ≤ min 8 l.length) (fun i v => min 8 l.length - i) 0 (.slice none 0 0) (Nat.zero_le _) ?_ (.free (OSub.refl _)) ?_
  · exact subQ
  · intro i v hi
    by_cases hlt : i < min 8 l.length
    · have hx := List.getElem?_eq_getElem (l := l) (i := i) (by omega)
      have hr := hl _ (List.getElem_mem (l := l) (n := i) (by omega))
      have hsn : rowI ((l.take (i + 1)).map fun x => x % 3) = rowI ((l.take i).map fun x => x % 3) ++ [[AI (l[i] % 3)]] := by
        rw [List.take_succ_eq_append_getElem (by omega), List.map_append]
        show ((_ ++ [_]).map cI) = _
        rw [List.map_append]; rfl
      generalize l[i] = x at *
      have xk : (l.map c8)[(i : Int).toNat]? = some [A8 x] := zmp (f := c8) hx
      have lr : (rowI ((l.take i).map fun x => x % 3)).length = i := by simp only [List.length_map, List.length_take]; omega
      repeat (first | refine gN pk ?_)
      refine zrg ((List.range 13).map fun i => if inL [9, 10, 12] i = true then .eff else if inL [1, 3, 5, 6] i = true then .read else .pure) [9] [0, 1, 2, 3, 4, 5, 6, 7, 8] (.nd 9 [10, 11, 12] .stop .stop) mixed rfl rfl (by decide +kernel) ?_
      repeat' (first | (with_reducible show AG _ _ _ _ _ _ _ _ _ _; first | exact zgn | refine zgs ?_ | refine znd ?_ ?_) | (show AMid _ _ _ _; first | refine zmf ?_ | refine zmg (by first | exact OSub.refl _ | exact .drop (OSub.refl _) | exact .drop (.drop (OSub.refl _))) ?_) | refine gY pk ?_ | (show AL _ _ _ _ _ _ _; first | refine jO tok 1 ?_ | refine jX tok xk ?_ | refine zcv tok rfl rfl rfl rfl rfl rfl rfl (IntWalk.i64_in _ (by omega)) ?_ | refine s_rem rfl rfl rfl rfl rfl rfl (by omega) (by omega) ?_ | refine s_build1 tok rfl rfl rfl rfl rfl rfl rfl rfl (fun w => ?_) | refine zak tok 0 rfl rfl rfl rfl rfl rfl (by decide) rfl rfl rfl rfl (by omega) (by omega) (fun v' hv => ?_) | refine s_store (a := .lit v') tok 1 rfl rfl rfl rfl rfl rfl hv rfl (by decide) rfl rfl rfl (Nat.le_of_ble_eq_true rfl) ?_) | fail)
      repeat (first | refine gA pk ?_)
      refine ⟨i + 1, v', by omega, by omega, by exact subQ, ?_⟩
      rw [hsn]
      exact OSub.refl _
    · obtain rfl : i = min 8 l.length := by omega
      rw [← hns']
      refine AWp.mono (Q := fun e st L => e = .exit 0 ∧ GoTo 81 st L (lk [(1, .ip [bytesA l, .im 3 (es.map c83)]), (2, .pt u2 0 0 0), (3, .pt u3 0 0 0)]) [(v, .row 3 1 (rowI ns)), (u3, .box [.lit v, .lit (.slice none 0 0)]), (u2, .box [.lit (.slice none 0 0), .lit (.slice none 0 0)])]) ?_ (fun e st L h => ?_)
      · by_cases hA : min 8 l.length < l.length
        all_goals
          repeat (first | refine gA pk ?_)
          exact ⟨rfl, GoTo.sub (by exact subQ) (OSub.refl _)⟩
      · obtain ⟨rfl, h⟩ := h
        refine zgt h ?_
        repeat (first | refine gN pk ?_ | (show AL _ _ _ _ _ _ _; first | refine jO tok 1 ?_ | refine zol tok 0 rfl rfl rfl rfl (by decide) rfl rfl rfl ?_))
        refine a_loop2 (fun (i : Nat) (w : Value) => [(1, .ip [bytesA l, .im 3 (es.map c83)]), (2, .pt u2 0 0 0), (3, .pt u3 0 0 0), (5, AI ns.length), (6, AI i)]) (fun i w => [(w, .row 112 3 (((es.take i).map (in5 ns.length)).map cEd)), (v, .row 3 1 (rowI ns)), (u3, .box [.lit v, .lit w]), (u2, .box [.lit (.slice none 0 0), .lit (.slice none 0 0)])]) (fun i w => i ≤ M) (fun i w => M - i) 0 (.slice none 0 0) (Nat.zero_le _) ?_ (.free (OSub.refl _)) ?_
        · rw [← lns]; exact subQ
        · intro i w hi
          by_cases hlt : i < M
          · have hx := List.getElem?_eq_getElem (l := es) (i := i) (by omega)
            have hr := he _ (List.getElem_mem (l := es) (n := i) (by omega))
            have hp := hM2 (by omega)
            have lr : (((es.take i).map (in5 ns.length)).map cEd).length = i := by simp only [List.length_map, List.length_take]; omega
            have hsn : ((es.take (i + 1)).map (in5 ns.length)).map cEd = ((es.take i).map (in5 ns.length)).map cEd ++ [cEd (in5 ns.length es[i])] := by
              rw [List.take_succ_eq_append_getElem (by omega), List.map_append, List.map_append]; rfl
            generalize es[i] = c at *
            obtain ⟨x, y, z⟩ := c
            unfold In3 at hr
            simp only at hr
            have xk : (es.map c83)[(i : Int).toNat]? = some [A8 x, A8 y, A8 z] := zmp (f := c83) hx
            have hin : cEd (in5 ns.length (x, y, z)) = [AI (x % 2), AI (y % (ns.length : Int)), AI (z % (ns.length : Int))] := rfl
            rw [hin] at hsn
            repeat (first | refine gN pk ?_)
            refine zrg ((List.range 33).map fun i => if inL [29, 30, 32] i = true then .eff else if inL [1, 3, 5, 6, 7, 11, 13, 14, 15, 20, 22, 23, 24] i = true then .read else .pure) [29] [0, 1, 2, 3, 4, 5, 6, 7, 8, 9, 10, 11, 12, 13, 14, 15, 16, 17, 18, 19, 20, 21, 22, 23, 24, 25, 26, 27, 28] (.nd 29 [30, 31, 32] .stop .stop) mixed rfl rfl (by decide +kernel) ?_
            repeat' (first | (with_reducible show AG _ _ _ _ _ _ _ _ _ _; first | exact zgn | refine zgs ?_ | refine znd ?_ ?_) | (show AMid _ _ _ _; first | refine zmf ?_ | refine zmg (by first | exact OSub.refl _ | exact .drop (OSub.refl _) | exact .drop (.drop (OSub.refl _))) ?_) | refine gY pk ?_ | (show AL _ _ _ _ _ _ _; first | refine jO tok 2 ?_ | refine jX tok xk ?_ | refine s_arrIp tok rfl rfl rfl rfl rfl rfl rfl rfl (by decide) (by decide) ?_ | refine zcv tok rfl rfl rfl rfl rfl rfl rfl (IntWalk.i64_in _ (by omega)) ?_ | refine s_rem rfl rfl rfl rfl rfl rfl (by omega) (by omega) ?_ | refine zba tok rfl rfl rfl rfl rfl rfl rfl rfl (by decide) (fun u => ?_) | refine zak tok 0 rfl rfl rfl rfl rfl rfl (by decide) rfl rfl rfl rfl (by omega) (by omega) (fun v' hv => ?_) | refine s_store (a := .lit v') tok 2 rfl rfl rfl rfl rfl rfl hv rfl (by decide) rfl rfl rfl (Nat.le_of_ble_eq_true rfl) ?_) | fail)
            repeat (first | refine gA pk ?_)
            refine ⟨i + 1, v', by omega, by omega, by exact subQ, ?_⟩
            rw [hsn]
            exact OSub.refl _
          · obtain rfl : i = M := by omega
            refine AWp.mono (Q := fun e st L => e = .exit 2 ∧ GoTo 81 st L (lk [(2, .pt u2 0 0 0), (3, .pt u3 0 0 0)]) [(w, .row 112 3 (((es.take i).map (in5 ns.length)).map cEd)), (v, .row 3 1 (rowI ns)), (u3, .box [.lit v, .lit w]), (u2, .box [.lit (.slice none 0 0), .lit (.slice none 0 0)])]) ?_ (fun e st L h => ?_)
            · have hc : (¬ i < es.length) ∨ (i < es.length ∧ ¬ i < 10) ∨ (i < es.length ∧ i < 10 ∧ ns.length = 0) := by omega
              rcases hc with hc | hc | hc
              all_goals
                repeat (first | refine gA pk ?_)
                exact ⟨rfl, GoTo.sub (by exact subQ) (OSub.refl _)⟩
            · obtain ⟨rfl, h⟩ := h
              refine zgt h ?_
              refine a_know 0 rfl (fun hw => ?_)
              refine a_know 1 rfl (fun hv => ?_)
              generalize ((es.take i).map (in5 ns.length)) = fs
              repeat (first | refine gV pk ?_ | (show AL _ _ _ _ _ _ _; first | refine jO tok 2 ?_ | refine s_store (a := .agg [.lit v, .lit w]) tok 3 rfl rfl rfl rfl rfl rfl (by simp [AV.storable, AV.cell, hv, hw]) rfl (by decide) rfl rfl rfl (Nat.le_of_ble_eq_true rfl) ?_))
              refine a_ownSub [(w, .row 112 3 (fs.map cEd)), (v, .row 3 1 (rowI ns)), (u2, .box [.lit v, .lit w])] (.keep (.keep (.drop (.keep .nil)))) ?_
              refine a_freeze 0 rfl _ (FZS.refl _) [(v, .row 3 1 (rowI ns)), (u2, .box [.lit v, .im 3 (fs.map cEd)])] ⟨rfl, rfl, rfl, rfl, by simp; exact fun a _ => rfl, FZL.refl _, rfl, ⟨FZ.refl _, FZ.here, trivial⟩, trivial⟩ ?_
              refine a_freeze 0 rfl _ (FZS.refl _) [(u2, .box [.im 1 (rowI ns), .im 3 (fs.map cEd)])] ⟨rfl, ⟨FZ.here, FZ.refl _, trivial⟩, trivial⟩ ?_
              refine zfb 0 2 rfl rfl ?_
              refine a_ret ?_
              exact ⟨.inr rfl, _, .agg [.im 1 (rowI ns), .im 3 (fs.map cEd)], grA ⟨ns, fs⟩, [], rfl, rfl, Turn.of (Sub.refl _) (OSub.refl _), rfl, rfl⟩
end Go.Proofs.YtimfponihbfimaaGreat
end
section
namespace Go.Proofs.YtimfponihbfimaaGreat
open Go.Sj Go.Sj.Typ Go.Sj.Sta Go.Sj.Inc Go.Sj.Can Go.Sj.Pln
set_option maxRecDepth 8000
set_option maxHeartbeats 16000000
theorem PlanMade_spec (d : Dr5) (hd : OkD5 d) (codes : List Int) (hc0 : (∀ x ∈ codes, 0 ≤ x ∧ x ≤ 255) ∧ codes.length ≤ 140737488355328) : Pure Tryz.prog 6 [dr5A d, bytesA codes] (AB true) := by
  have hc := hc0.1
  have sa := awakeP_spec
  have s1 := gMade_spec d hd
  have hG := made5_gv d
  have lc : (codes.map c8).length = codes.length := by simp
  have hlen := made5_len d
  have hn8 : (made5 d).nodes.length ≤ 8 := by omega
  have hO : OkG (made5 d) := ⟨by omega, by omega⟩
  have sM := fun (h2 : codes.length ≤ 20) => gmade_spec (made5 d) hG codes (by omega) hc
  have hu : unk (kn0 (made5 d)) ≤ 18 := by rw [unk_0]; omega
  have hv := mkP_valid hG (chF codes) 200 0 (kn0 (made5 d)) (kn0_ok _) (by omega)
  generalize mkP (made5 d) (chF codes) 200 0 (kn0 (made5 d)) = M at *
  have hMl : M.length ≤ 18 := by
    have := plan_len M (kn0 (made5 d)) (kn0_ok _) hv
    omega
  have s2 := pvalid_spec (made5 d) hO M (by omega)
  have s3 := pvalid_spec (made5 d) hO (M.take (M.length - 1)) (by rw [List.length_take]; omega)
  have e2 : pvalE (made5 d) M = 0 := by
    unfold pvalE
    rw [if_neg (Decidable.not_not.2 (gvalid_zero.2 hG))]
    exact hv
  have e3 : M ≠ [] → pvalE (made5 d) (M.take (M.length - 1)) = 20 := fun h => by
    unfold pvalE
    rw [if_neg (Decidable.not_not.2 (gvalid_zero.2 hG))]
    exact plan_cut M (kn0 (made5 d)) (kn0_ok _) hv h
  rw [e2] at s2
  have lM : (M.map cOp).length = M.length := by simp
  clear hG hO hu hv e2
  generalize made5 d = g at *
  obtain ⟨gn, ge⟩ := g
  obtain ⟨dn, de⟩ := d
  have ldn : (dn.map c8).length = dn.length := by simp
  have lde : (de.map c83).length = de.length := by simp
  change Pure _ _ [.agg [bytesA dn, .im 3 (de.map c83)]] (.agg [ints gn, edsA ge]) at s1
  change Pure _ _ [.agg [ints gn, edsA ge], _] _ at s2
  change Pure _ _ [.agg [ints gn, edsA ge], _] _ at s3
  change ∀ _, Pure _ _ [.agg [ints gn, edsA ge], _] _ at sM
  change Pure _ _ [.agg [bytesA dn, .im 3 (de.map c83)], bytesA codes] _
  by_cases h1 : dn.length ≤ 8
  rotate_left
  · refine zen Tryz.func6 (by kernel_rfl) rfl Tryz.ntmps6 rfl (by simp) ?_; refine a_seq ?_; refine a_reg ?_; (repeat (first | refine gZ pk ?_ | (show AL _ _ _ _ _ _ _; first | refine jB (fun u => ?_)))); refine zfb 0 2 rfl rfl ?_
    repeat (first | refine gA pk ?_ | (show AL _ _ _ _ _ _ _; first | refine jP sa ?_))
    refine finQ ?_
    exact ⟨rfl, rfl⟩
  by_cases h2 : de.length ≤ 10
  rotate_left
  · refine zen Tryz.func6 (by kernel_rfl) rfl Tryz.ntmps6 rfl (by simp) ?_; refine a_seq ?_; refine a_reg ?_; (repeat (first | refine gZ pk ?_ | (show AL _ _ _ _ _ _ _; first | refine jB (fun u => ?_)))); refine zfb 0 2 rfl rfl ?_
    repeat (first | refine gA pk ?_ | (show AL _ _ _ _ _ _ _; first | refine jP sa ?_))
    refine finQ ?_
    exact ⟨rfl, rfl⟩
  by_cases h3 : codes.length ≤ 20
  rotate_left
  · refine zen Tryz.func6 (by kernel_rfl) rfl Tryz.ntmps6 rfl (by simp) ?_; refine a_seq ?_; refine a_reg ?_; (repeat (first | refine gZ pk ?_ | (show AL _ _ _ _ _ _ _; first | refine jB (fun u => ?_)))); refine zfb 0 2 rfl rfl ?_
    repeat (first | refine gA pk ?_ | (show AL _ _ _ _ _ _ _; first | refine jP sa ?_))
    refine finQ ?_
    exact ⟨rfl, rfl⟩
  replace sM := sM h3
  refine zen Tryz.func6 (by kernel_rfl) rfl Tryz.ntmps6 rfl (by simp) ?_; refine a_seq ?_; refine a_reg ?_; (repeat (first | refine gZ pk ?_ | (show AL _ _ _ _ _ _ _; first | refine jB (fun u => ?_)))); refine zfb 0 2 rfl rfl ?_
  repeat (first | refine gN pk ?_ | (show AL _ _ _ _ _ _ _; first | refine jP sa ?_ | refine jP s1 ?_ | refine jP sM ?_ | refine jL tok (fun up => ?_) | refine jS tok 0 ?_ | refine jO tok 0 ?_))
  refine zfb 0 5 rfl rfl ?_
  by_cases h4 : M = []
  · subst h4
    have l0 : (([] : List Opn).map cOp).length = 0 := rfl
    refine zrg ((List.range 20).map fun i => if inL [2, 15] i = true then .eff else if inL [0, 6, 9, 12, 14] i = true then .read else .pure) [] [0, 1, 2, 3, 4, 5, 6, 7, 8, 9, 10, 11, 12, 13, 14, 15, 16, 17, 18, 19] .stop mixed rfl rfl (by decide +kernel) ?_
    repeat' (first | (with_reducible show AG _ _ _ _ _ _ _ _ _ _; first | exact zgn | refine zgs ?_ | refine znd ?_ ?_) | (show AMid _ _ _ _; first | refine zmf ?_ | refine zmg (by first | exact OSub.refl _ | exact .drop (OSub.refl _) | exact .drop (.drop (OSub.refl _))) ?_) | refine gY pk ?_ | (show AL _ _ _ _ _ _ _; first | refine jP s2 ?_) | fail)
    repeat (first | refine gA pk ?_)
    refine finQ ?_
    exact ⟨rfl, rfl⟩
  · have hpos : 0 < M.length := List.length_pos_iff.2 h4
    rw [e3 h4] at s3
    have hp : ((M.map cOp).take (M.length - 1)).drop 0 = (M.take (M.length - 1)).map cOp := by rw [List.drop_zero, ← List.map_take]
    refine zrg ((List.range 20).map fun i => if inL [2, 15] i = true then .eff else if inL [0, 6, 9, 12, 14] i = true then .read else .pure) [] [0, 1, 2, 3, 4, 5, 6, 7, 8, 9, 10, 11, 12, 13, 14, 15, 16, 17, 18, 19] .stop mixed rfl rfl (by decide +kernel) ?_
    repeat' (first | (with_reducible show AG _ _ _ _ _ _ _ _ _ _; first | exact zgn | refine zgs ?_ | refine znd ?_ ?_) | (show AMid _ _ _ _; first | refine zmf ?_ | refine zmg (by first | exact OSub.refl _ | exact .drop (OSub.refl _) | exact .drop (.drop (OSub.refl _))) ?_) | refine gY pk ?_ | (show AL _ _ _ _ _ _ _; first | refine jP s2 ?_ | (refine s_slice tok (a := 0) (b := M.length - 1) rfl rfl rfl rfl rfl rfl rfl rfl rfl (by exact ⟨_, congrArg (fun z => AV.lit (Value.int .i64 z)) (by omega)⟩) (Nat.zero_le _) (by omega) ?_; rw [hp]) | refine jP s3 ?_) | fail)
    repeat (first | refine gA pk ?_)
    refine finQ ?_
    exact ⟨rfl, rfl⟩
end Go.Proofs.YtimfponihbfimaaGreat
end
