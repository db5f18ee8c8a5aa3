/- Parts of a proof. -/
import Derived.Test.YtimfponihbfimaaGreatP01
set_option linter.unusedVariables false
set_option linter.unusedSimpArgs false
section
namespace Go.Sj
section steps
variable {P : Program} {N : Nat} {ops : List Oper} {Q : St → Own → Prop} {L : Own} {rest : List (Oper × Kd)} {l : List (Nat × AV)} {k : Kd} {q : Nat}
theorem dst_spec {o : Oper} (h : o.dst = some q) (hd : Nat.blt q N = true) : ∀ d, o.dst = some d → d < N := by
  intro d he
  rw [h] at he
  cases he
  simpa using hd
theorem upd_dst {o : Oper} (h : o.dst = some q) (x : AV) : updO (lk l) o.dst x = lk ((q, x) :: l) := by rw [h]; rfl
theorem s_pe {tt : List (TypeId × TD)} (ok : TOK P tt) {o : Oper} {x : AV} (hdst : o.dst = some q) (hd : Nat.blt q N = true) (hg : guardA ops o (lk l) = some true) (h : pe tt (lk l) o.op = some x)
    (n : AL P N ops Q rest (lk ((q, x) :: l)) L) : AL P N ops Q ((o, k) :: rest) (lk l) L :=
  .pure (dst_spec hdst hd) hg (pe_sound ok h) (by rw [upd_dst hdst]; exact n)
theorem s_skip {o : Oper} (hdst : o.dst = some q) (hd : Nat.blt q N = true) (hg : guardA ops o (lk l) = some false) (n : AL P N ops Q rest (lk ((q, .lit (.tuple #[])) :: l)) L) : AL P N ops Q ((o, k) :: rest) (lk l) L :=
  .skip (dst_spec hdst hd) hg (by rw [upd_dst hdst]; exact n)
theorem s_pure {o : Oper} {x : AV} (hdst : o.dst = some q) (hd : Nat.blt q N = true) (hg : guardA ops o (lk l) = some true) (h : AQ P o (lk l) [] x) (n : AL P N ops Q rest (lk ((q, x) :: l)) L) : AL P N ops Q ((o, k) :: rest) (lk l) L :=
  .pure (dst_spec hdst hd) hg h (by rw [upd_dst hdst]; exact n)
theorem s_read {o : Oper} {x : AV} (hdst : o.dst = some q) (hd : Nat.blt q N = true) (hg : guardA ops o (lk l) = some true) (hk : k ≠ .pure) (h : AQ P o (lk l) L x) (n : AL P N ops Q rest (lk ((q, x) :: l)) L) : AL P N ops Q ((o, k) :: rest) (lk l) L :=
  .read (dst_spec hdst hd) hg hk h (by rw [upd_dst hdst]; exact n)
theorem s_eff {o : Oper} (K : AV → Own → Prop) (hdst : o.dst = some q) (hd : Nat.blt q N = true) (hg : guardA ops o (lk l) = some true) (h : AOp P o K (lk l) L) (n : ∀ x L', K x L' → AL P N ops Q rest (lk ((q, x) :: l)) L') : AL P N ops Q ((o, .eff) :: rest) (lk l) L :=
  .eff (dst_spec hdst hd) hg h (fun x L' hx => by rw [upd_dst hdst]; exact n x L' hx)
theorem s_eff0 {o : Oper} (K : AV → Own → Prop) (hdst : o.dst = none) (hg : guardA ops o (lk l) = some true) (h : AOp P o K (lk l) L) (n : ∀ x L', K x L' → AL P N ops Q rest (lk l) L') : AL P N ops Q ((o, .eff) :: rest) (lk l) L :=
  .eff (fun d h => by rw [hdst] at h; cases h) hg h (fun x L' hx => by rw [hdst]; exact n x L' hx)
section heads
variable {tt : List (TypeId × TD)} (ok : TOK P tt) {o : Oper} (hdst : o.dst = some q) (hd : Nat.blt q N = true) (hg : guardA ops o (lk l) = some true)
include ok hdst hd hg
end heads
def cmpP : BinOp → Int → Int → Prop
  | .eql, a, b => a = b
  | .neq, a, b => a ≠ b
  | .lss, a, b => a < b
  | .leq, a, b => a ≤ b
  | .gtr, a, b => b < a
  | .geq, a, b => b ≤ a
  | _, _, _ => False
def isCmp : BinOp → Bool
  | .eql | .neq | .lss | .leq | .gtr | .geq => true
  | _ => false
theorem q_cmp {op : BinOp} {T T' : TypeId} {x y : Operand} {dst : Option Tmp} {ty : TypeId} {pos : String} {after : Array Edge} {g : Option (Nat × Bool)} {st : St} {kk : IntKind} {a b : Int} {r : Bool}
    (hx : ev st x = .lit (.int kk a)) (hy : ev st y = .lit (.int kk b)) (hc : isCmp op = true) (hr : cmpP op a b ↔ r = true) : AQ P ⟨dst, .binOp op T x y T', ty, pos, after, g⟩ st L (.lit (.bool r)) := by
  refine ⟨fun σ F w ρ hR hρ => ?_⟩
  have h1 := hρ x (by simp [Op.operands])
  have h2 := hρ y (by simp [Op.operands])
  rw [hx] at h1
  rw [hy] at h2
  refine ⟨.bool r, ?_, .lit _⟩
  cases op <;> simp [isCmp] at hc <;> simp only [cmpP] at hr <;>
    (simp [execOp, h1.lit_inv, h2.lit_inv, eqGuard, binOp, Op.intCmp]
     cases r <;> simp_all)
theorem s_cmpT {o : Oper} {op : BinOp} {T T' : TypeId} {x y : Operand} {kk : IntKind} {a b : Int} (ho : o.op = .binOp op T x y T') (hdst : o.dst = some q) (hd : Nat.blt q N = true) (hg : guardA ops o (lk l) = some true)
    (hx : ev (lk l) x = .lit (.int kk a)) (hy : ev (lk l) y = .lit (.int kk b)) (hc : isCmp op = true) (h : cmpP op a b)
    (n : AL P N ops Q rest (lk ((q, .lit (.bool true)) :: l)) L) : AL P N ops Q ((o, k) :: rest) (lk l) L := by
  obtain ⟨dst, op', ty, pos, after, g⟩ := o
  simp only at ho
  subst ho
  exact s_pure hdst hd hg (q_cmp hx hy hc (by simp [h])) n
theorem s_cmpF {o : Oper} {op : BinOp} {T T' : TypeId} {x y : Operand} {kk : IntKind} {a b : Int} (ho : o.op = .binOp op T x y T') (hdst : o.dst = some q) (hd : Nat.blt q N = true) (hg : guardA ops o (lk l) = some true)
    (hx : ev (lk l) x = .lit (.int kk a)) (hy : ev (lk l) y = .lit (.int kk b)) (hc : isCmp op = true) (h : ¬ cmpP op a b)
    (n : AL P N ops Q rest (lk ((q, .lit (.bool false)) :: l)) L) : AL P N ops Q ((o, k) :: rest) (lk l) L := by
  obtain ⟨dst, op', ty, pos, after, g⟩ := o
  simp only at ho
  subst ho
  exact s_pure hdst hd hg (q_cmp hx hy hc (by simp [h])) n
theorem s_cmp {o : Oper} {op : BinOp} {T T' : TypeId} {x y : Operand} {kk : IntKind} {a b : Int} (ho : o.op = .binOp op T x y T') (hdst : o.dst = some q) (hd : Nat.blt q N = true) (hg : guardA ops o (lk l) = some true)
    (hx : ev (lk l) x = .lit (.int kk a)) (hy : ev (lk l) y = .lit (.int kk b)) (hc : isCmp op = true)
    (n : cmpP op a b → AL P N ops Q rest (lk ((q, .lit (.bool true)) :: l)) L) (m : ¬ cmpP op a b → AL P N ops Q rest (lk ((q, .lit (.bool false)) :: l)) L) : AL P N ops Q ((o, k) :: rest) (lk l) L := by
  by_cases h : cmpP op a b
  · exact s_cmpT ho hdst hd hg hx hy hc h (n h)
  · exact s_cmpF ho hdst hd hg hx hy hc h (m h)
def arI : BinOp → Int → Int → Option Int
  | .add, a, b => some (a + b)
  | .sub, a, b => some (a - b)
  | .mul, a, b => some (a * b)
  | _, _, _ => none
theorem q_arith {op : BinOp} {T T' : TypeId} {x y : Operand} {dst : Option Tmp} {ty : TypeId} {pos : String} {after : Array Edge} {g : Option (Nat × Bool)} {st : St} {kk : IntKind} {a b r : Int}
    (hx : ev st x = .lit (.int kk a)) (hy : ev st y = .lit (.int kk b)) (hc : arI op a b = some r) : AQ P ⟨dst, .binOp op T x y T', ty, pos, after, g⟩ st L (.lit (.int kk (kk.wrap r))) := by
  refine ⟨fun σ F w ρ hR hρ => ?_⟩
  have h1 := hρ x (by simp [Op.operands])
  have h2 := hρ y (by simp [Op.operands])
  rw [hx] at h1
  rw [hy] at h2
  refine ⟨.int kk (kk.wrap r), ?_, .lit _⟩
  cases op <;> simp [arI] at hc <;> subst hc <;> simp [execOp, h1.lit_inv, h2.lit_inv, eqGuard, binOp, Op.intArith]
theorem s_arith {o : Oper} {op : BinOp} {T T' : TypeId} {x y : Operand} {kk : IntKind} {a b r : Int} (ho : o.op = .binOp op T x y T') (hdst : o.dst = some q) (hd : Nat.blt q N = true) (hg : guardA ops o (lk l) = some true)
    (hx : ev (lk l) x = .lit (.int kk a)) (hy : ev (lk l) y = .lit (.int kk b)) (hc : arI op a b = some r) (h : kk.wrap r = r)
    (n : AL P N ops Q rest (lk ((q, .lit (.int kk r)) :: l)) L) : AL P N ops Q ((o, k) :: rest) (lk l) L := by
  obtain ⟨dst, op', ty, pos, after, g⟩ := o
  simp only at ho
  subst ho
  have := q_arith (P := P) (L := []) (dst := dst) (T := T) (T' := T') (ty := ty) (pos := pos) (after := after) (g := g) hx hy hc
  rw [h] at this
  exact s_pure hdst hd hg this n
theorem s_quo {o : Oper} {T T' : TypeId} {x y : Operand} {kk : IntKind} {a b : Int} (ho : o.op = .binOp .quo T x y T') (hdst : o.dst = some q) (hd : Nat.blt q N = true) (hg : guardA ops o (lk l) = some true)
    (hx : ev (lk l) x = .lit (.int kk a)) (hy : ev (lk l) y = .lit (.int kk b)) (ha : 0 ≤ a) (hb : 0 < b) (hw : kk.wrap (a / b) = a / b)
    (n : AL P N ops Q rest (lk ((q, .lit (.int kk (a / b))) :: l)) L) : AL P N ops Q ((o, k) :: rest) (lk l) L := by
  obtain ⟨dst, op', ty, pos, after, g⟩ := o
  simp only at ho
  subst ho
  refine s_pure hdst hd hg ⟨fun σ F w ρ hR hρ => ⟨.int kk (a / b), ?_, .lit _⟩⟩ n
  have h1 := hρ x (by simp [Op.operands])
  have h2 := hρ y (by simp [Op.operands])
  rw [hx] at h1
  rw [hy] at h2
  have hb0 : b ≠ 0 := by omega
  simp [execOp, h1.lit_inv, h2.lit_inv, eqGuard, binOp, Op.intDiv, hb0, Int.tdiv_eq_ediv_of_nonneg ha, hw]
theorem zcv {tt : List (TypeId × TD)} (ok : TOK P tt) {o : Oper} {S D : TypeId} {x : Operand} {k1 k2 : IntKind} {a : Int} {s1 b1 s2 b2 : Nat} {z1 z2 : List Value} (ho : o.op = .convert S D x) (hdst : o.dst = some q) (hd : Nat.blt q N = true) (hg : guardA ops o (lk l) = some true)
    (hS : lkT tt S = some ⟨.int k1, s1, b1, z1⟩) (hD : lkT tt D = some ⟨.int k2, s2, b2, z2⟩) (hx : ev (lk l) x = .lit (.int k1 a)) (hw : k2.wrap a = a)
    (n : AL P N ops Q rest (lk ((q, .lit (.int k2 a)) :: l)) L) : AL P N ops Q ((o, k) :: rest) (lk l) L := by
  obtain ⟨dst, op', ty, pos, after, g⟩ := o
  simp only at ho
  subst ho
  refine s_pure hdst hd hg ⟨fun σ F w ρ hR hρ => ⟨.int k2 a, ?_, .lit _⟩⟩ n
  have h1 := hρ x (by simp [Op.operands])
  rw [hx] at h1
  have e1 := (ok _ _ hS).int rfl
  have e2 := (ok _ _ hD).int rfl
  simp [execOp, h1.lit_inv, convert, run_underlying e1, run_underlying e2, Conv.intToInt, hw]
theorem s_strEq {o : Oper} {T T' : TypeId} {x y : Operand} {a b : ByteArray} (ho : o.op = .binOp .eql T x y T') (hdst : o.dst = some q) (hd : Nat.blt q N = true) (hg : guardA ops o (lk l) = some true)
    (hx : ev (lk l) x = .lit (.string a)) (hy : ev (lk l) y = .lit (.string b))
    (n : AL P N ops Q rest (lk ((q, .lit (.bool (a == b))) :: l)) L) : AL P N ops Q ((o, k) :: rest) (lk l) L := by
  obtain ⟨dst, op', ty, pos, after, g⟩ := o
  simp only at ho
  subst ho
  refine s_pure hdst hd hg ⟨fun σ F w ρ hR hρ => ⟨.bool (a == b), ?_, .lit _⟩⟩ n
  have h1 := hρ x (by simp [Op.operands])
  have h2 := hρ y (by simp [Op.operands])
  rw [hx] at h1
  rw [hy] at h2
  simp [execOp, h1.lit_inv, h2.lit_inv, eqGuard, binOp, Op.stringOp, beq_toListBytes]
theorem q_index {tt : List (TypeId × TD)} (ok : TOK P tt) {dst : Option Tmp} {T : TypeId} {x y : Operand} {ty : TypeId} {pos : String} {after : Array Edge} {g : Option (Nat × Bool)} {st : St} {E : TypeId} {s1 b1 : Nat} {z1 : List Value} {d : TD}
    {es : List (List AV)} {e : List AV} {kk : IntKind} {i : Int} (hT : lkT tt T = some ⟨.slice E, s1, b1, z1⟩) (hE : lkT tt E = some d) (hx : ev st x = .im d.size es) (hy : ev st y = .lit (.int kk i)) (h0 : 0 ≤ i) (he : es[i.toNat]? = some e) :
    AQ P ⟨dst, .indexAddr T x y, ty, pos, after, g⟩ st L (.ip e) := by
  refine ⟨fun σ F w ρ hR hρ => ?_⟩
  have h1 := hρ x (by simp [Op.operands])
  have h2 := hρ y (by simp [Op.operands])
  rw [hx] at h1
  rw [hy] at h2
  have hu := (ok _ _ hT).slice rfl
  have hs := (ok _ _ hE).sizeOf_run
  have hlt : i.toNat < es.length := (List.getElem?_eq_some_iff.1 he).1
  generalize hv : ρ x = u at h1
  cases h1 with
  | imNil _ a cap => simp at he
  | im _ _ b off cap c E' fr f h1 h2' h3 h4 h5 h6 =>
    refine ⟨.pointer (some ⟨b, off + i.toNat * d.size, none⟩), ?_, .ip e b (off + i.toNat * d.size) c E' fr (f i.toNat) h1 (fun j y hy => by rw [Nat.add_assoc]; exact h5 _ _ j y he hy) (fun j y hy => h6 _ _ j y he hy)⟩
    have hadd : (⟨b, off, none⟩ : Addr).add (i.toNat * d.size) = ⟨b, off + i.toNat * d.size, none⟩ := by unfold Addr.add; split <;> simp_all
    have hin : 0 ≤ i ∧ i < (es.length : Int) := ⟨h0, by omega⟩
    simp [execOp, hv, h2.lit_inv, Instr.indexAt, asIntOf, run_underlying hu, hin.1, hin.2, hs, hadd]
theorem s_index {tt : List (TypeId × TD)} (ok : TOK P tt) {o : Oper} {T : TypeId} {x y : Operand} {E : TypeId} {s1 b1 : Nat} {z1 : List Value} {d : TD} {sz : Nat}
    {es : List (List AV)} {e : List AV} {kk : IntKind} {i : Int} (ho : o.op = .indexAddr T x y) (hdst : o.dst = some q) (hd : Nat.blt q N = true) (hg : guardA ops o (lk l) = some true)
    (hT : lkT tt T = some ⟨.slice E, s1, b1, z1⟩) (hE : lkT tt E = some d) (hx : ev (lk l) x = .im sz es) (hs : sz = d.size) (hy : ev (lk l) y = .lit (.int kk i)) (h0 : 0 ≤ i) (he : es[i.toNat]? = some e)
    (n : AL P N ops Q rest (lk ((q, .ip e) :: l)) L) : AL P N ops Q ((o, k) :: rest) (lk l) L := by
  obtain ⟨dst, op', ty, pos, after, g⟩ := o
  simp only at ho
  subst ho
  subst hs
  exact s_pure hdst hd hg (q_index ok hT hE hx hy h0 he) n
theorem VR.im_len {σ : Hp} {sz : Nat} {es : List (List AV)} {v : Value} (h : VR σ (.im sz es) v) : ∃ a cap, v = .slice a es.length cap ∧ es.length ≤ cap := by
  cases h with
  | imNil _ a cap => exact ⟨a, cap, rfl, Nat.zero_le _⟩
  | im _ _ b off cap c E fr f h1 h2 h3 h4 h5 h6 => exact ⟨_, cap, rfl, h3⟩
theorem VR.im_sub {σ : Hp} {sz : Nat} {es : List (List AV)} {a : Option Addr} {n cap : Nat} (h : VR σ (.im sz es) (.slice a n cap)) {lo hi : Nat} (h1 : lo ≤ hi) (h2 : hi ≤ es.length) (m : Nat) (hm : hi ≤ m) (hmc : m ≤ cap) :
    VR σ (.im sz ((es.take hi).drop lo)) (.slice (if m = lo then a else a.map (·.add (lo * sz))) (hi - lo) (m - lo)) := by
  by_cases he : lo = hi
  · subst he
    have : (es.take lo).drop lo = [] := by simp
    rw [this, Nat.sub_self]
    exact .imNil _ _ _
  · cases h with
    | imNil _ a cap => simp at h2; omega
    | im _ _ b off cap c E fr f g1 g2 g3 g4 g5 g6 =>
      have hml : m ≠ lo := by omega
      rw [if_neg hml]
      have hadd : (⟨b, off, none⟩ : Addr).add (lo * sz) = ⟨b, off + lo * sz, none⟩ := by unfold Addr.add; split <;> simp_all
      have hlen : hi - lo = ((es.take hi).drop lo).length := by simp; omega
      simp only [Option.map_some, hadd]
      rw [hlen]
      have hget : ∀ (i : Nat) (e : List AV), ((es.take hi).drop lo)[i]? = some e → es[lo + i]? = some e := by
        intro i e h
        rw [List.getElem?_drop, List.getElem?_take] at h
        split at h
        · exact h
        · cases h
      refine .im sz _ b (off + lo * sz) (m - lo) c E fr (fun i j => f (lo + i) j) g1 (by intro h; rw [h] at hlen; simp at hlen; omega) (by rw [← hlen]; omega) (fun i e h => g4 _ e (hget i e h)) (fun i e j x h hx => ?_) (fun i e j x h hx => g6 _ e j x (hget i e h) hx)
      have := g5 (lo + i) e j x (hget i e h) hx
      rw [Nat.add_mul] at this
      rw [← this]
      congr 1
      omega
theorem s_slice {tt : List (TypeId × TD)} (ok : TOK P tt) {o : Oper} {T : TypeId} {x : Operand} {lo hi : Option Operand} {E : TypeId} {s1 b1 : Nat} {z1 : List Value} {d : TD} {sz : Nat} {es : List (List AV)} {a b : Nat}
    (ho : o.op = .slice T x lo hi none) (hdst : o.dst = some q) (hd : Nat.blt q N = true) (hg : guardA ops o (lk l) = some true)
    (hT : lkT tt T = some ⟨.slice E, s1, b1, z1⟩) (hE : lkT tt E = some d) (hx : ev (lk l) x = .im sz es) (hs : sz = d.size)
    (hlo : match lo with | none => a = 0 | some y => ∃ kk, ev (lk l) y = .lit (.int kk a)) (hhi : match hi with | none => b = es.length | some y => ∃ kk, ev (lk l) y = .lit (.int kk b)) (hab : a ≤ b) (hb : b ≤ es.length)
    (n : AL P N ops Q rest (lk ((q, .im sz ((es.take b).drop a)) :: l)) L) : AL P N ops Q ((o, k) :: rest) (lk l) L := by
  obtain ⟨dst, op', ty, pos, after, g⟩ := o
  simp only at ho
  subst ho
  subst hs
  refine s_pure hdst hd hg ⟨fun σ F w ρ hR hρ => ?_⟩ n
  have h1 := hρ x (by simp [Op.operands])
  rw [hx] at h1
  obtain ⟨ad, cap, hv, hc⟩ := VR.im_len h1
  rw [hv] at h1
  have hu := (ok _ _ hT).slice rfl
  have hsz := (ok _ _ hE).sizeOf_run
  refine ⟨_, ?_, h1.im_sub hab hb cap (by omega) (Nat.le_refl _)⟩
  have hbnd : (Instr.sliceBounds true es.length cap (lo.map ρ) (hi.map ρ) none).run P w = .ok (a, b, cap) w := by
    have e2 : ∀ y, hi = some y → ∃ kk, ρ y = .int kk b := fun y hy => by
      subst hy
      obtain ⟨kk, hk⟩ := hhi
      have := hρ y (by simp [Op.operands])
      rw [hk] at this
      exact ⟨kk, this.lit_inv⟩
    have e1 : ∀ y, lo = some y → ∃ kk, ρ y = .int kk a := fun y hy => by
      subst hy
      obtain ⟨kk, hk⟩ := hlo
      have := hρ y (by simp [Op.operands])
      rw [hk] at this
      exact ⟨kk, this.lit_inv⟩
    have i1 : b ≤ cap := by omega
    cases lo with
    | none =>
      cases hi with
      | none => simp only at hlo hhi; subst hlo; subst hhi; simp [Instr.sliceBounds]
      | some y =>
        obtain ⟨kk, hk⟩ := e2 y rfl
        simp only at hlo; subst hlo
        simp [Instr.sliceBounds, hk, Instr.sliceBound, asIntOf, Int.ofNat_le, i1]
    | some z =>
      obtain ⟨kz, hz⟩ := e1 z rfl
      cases hi with
      | none => simp only at hhi; subst hhi; simp [Instr.sliceBounds, hz, Instr.sliceBound, asIntOf, hab]
      | some y =>
        obtain ⟨kk, hk⟩ := e2 y rfl
        simp [Instr.sliceBounds, hk, hz, Instr.sliceBound, asIntOf, i1, hab]
  simp only [execOp, hv, Option.map_none, Instr.sliceAt, Sem.run_bind, run_underlying hu, Result.andThen_ok, Instr.slice, hbnd, hsz, Sem.run_pure]
end steps
end Go.Sj
namespace Go.Sj
theorem flatten_len {α : Type} {sz : Nat} : ∀ {es : List (List α)}, (∀ e ∈ es, e.length = sz) → es.flatten.length = es.length * sz
  | [], _ => by simp
  | e :: es, h => by
    have h1 := h e (by simp)
    have h2 := flatten_len (es := es) (fun x hx => h x (by simp [hx]))
    simp only [List.flatten_cons, List.length_append, h1, h2, List.length_cons, Nat.add_mul, Nat.one_mul]
    omega
theorem flatten_split {α : Type} {es : List (List α)} {j : Nat} {e : List α} (h : es[j]? = some e) : es.flatten = (es.take j).flatten ++ e ++ (es.drop (j + 1)).flatten := by
  obtain ⟨hj, rfl⟩ := List.getElem?_eq_some_iff.1 h
  have : es = es.take j ++ es[j] :: es.drop (j + 1) := by rw [← List.drop_eq_getElem_cons hj, List.take_append_drop]
  conv => lhs; rw [this]
  rw [List.flatten_append, List.flatten_cons, List.append_assoc]
theorem flatten_set {α : Type} {es : List (List α)} {j : Nat} {e : List α} (h : es[j]? = some e) (e' : List α) : (es.set j e').flatten = (es.take j).flatten ++ e' ++ (es.drop (j + 1)).flatten := by
  obtain ⟨hj, rfl⟩ := List.getElem?_eq_some_iff.1 h
  have := flatten_split (es := es.set j e') (j := j) (e := e') (by simp [hj])
  rw [this, List.take_set_of_le (Nat.le_refl j), List.drop_set_of_lt (by omega)]
theorem flatten_take_len {α : Type} {sz : Nat} {es : List (List α)} (h : ∀ e ∈ es, e.length = sz) {j : Nat} (hj : j ≤ es.length) : (es.take j).flatten.length = j * sz := by
  rw [flatten_len (fun e he => h e (List.mem_of_mem_take he)), List.length_take, Nat.min_eq_left hj]
theorem flatten_take {α : Type} {sz : Nat} {es : List (List α)} (h : ∀ e ∈ es, e.length = sz) {j : Nat} (hj : j ≤ es.length) : es.flatten.take (j * sz) = (es.take j).flatten := by
  have : es.flatten = (es.take j).flatten ++ (es.drop j).flatten := by rw [← List.flatten_append, List.take_append_drop]
  rw [this, ← flatten_take_len h hj, List.take_left]
theorem flatten_get {α : Type} {sz : Nat} {es : List (List α)} (h : ∀ e ∈ es, e.length = sz) {j : Nat} {e : List α} (hj : es[j]? = some e) {k : Nat} (hk : k < e.length) : es.flatten[j * sz + k]? = e[k]? := by
  have hlt : j < es.length := (List.getElem?_eq_some_iff.1 hj).1
  have hl := flatten_take_len h (Nat.le_of_lt hlt)
  rw [flatten_split hj, List.append_assoc, List.getElem?_append_right (by omega), hl, Nat.add_sub_cancel_left, List.getElem?_append_left hk]
theorem setAll_eq : ∀ (ys l : List AV) (k : Nat), k + ys.length ≤ l.length → setAll l k ys = l.take k ++ ys ++ l.drop (k + ys.length)
  | [], l, k, h => by simp [setAll]
  | y :: ys, l, k, h => by
    have hk : k < l.length := by simp at h; omega
    have ih := setAll_eq ys (l.set k y) (k + 1) (by simp at h ⊢; omega)
    simp only [setAll, ih, List.length_cons]
    rw [List.take_succ_eq_append_getElem (by simpa using hk), List.take_set_of_le (Nat.le_refl k), List.drop_set_of_lt (by omega)]
    simp only [List.getElem_set_self, List.append_assoc, List.cons_append, List.nil_append]
    congr 4
    omega
theorem own_perm {α : Type} {L : List α} {i : Nat} {p : α} (h : L[i]? = some p) : (p :: L.eraseIdx i).Perm L := by
  obtain ⟨hi, rfl⟩ := List.getElem?_eq_some_iff.1 h
  have e : L = L.take i ++ L[i] :: L.drop (i + 1) := by rw [← List.drop_eq_getElem_cons hi, List.take_append_drop]
  rw [List.eraseIdx_eq_take_drop_succ]
  conv => rhs; rw [e]
  exact List.perm_middle.symm
theorem own_set_perm {α : Type} {L : List α} {i : Nat} {p : α} (h : L[i]? = some p) (q : α) : (q :: L.eraseIdx i).Perm (L.set i q) := by
  have hi := (List.getElem?_eq_some_iff.1 h).1
  have := own_perm (L := L.set i q) (i := i) (p := q) (by simp [hi])
  rwa [List.eraseIdx_set_eq] at this
theorem splice_take {α : Type} (A vs : List α) (p n : Nat) (h : p + vs.length ≤ n) (h2 : n ≤ A.length) : (A.take p ++ vs ++ A.drop (p + vs.length)).take n = (A.take n).take p ++ vs ++ (A.take n).drop (p + vs.length) := by
  have h1 : (A.take p).length = p := by rw [List.length_take]; omega
  have h3 : (A.take p ++ vs).length = p + vs.length := by rw [List.length_append, h1]
  rw [List.take_append, h3, List.take_of_length_le (by omega), List.take_take, Nat.min_eq_left (by omega), List.drop_take]
theorem HRel.at {σ : Hp} {L : Own} {F : Fr} {w : World} (h : HRel σ L F w) {i : Nat} {p : Value × OB} (hp : L[i]? = some p) : HRel σ (p :: L.eraseIdx i) F w := h.perm (own_perm hp).symm
theorem HRel.own1 {σ : Hp} {L : Own} {F : Fr} {w : World} (h : HRel σ L F w) {i : Nat} {p : Value × OB} (hp : L[i]? = some p) : Own1 σ w p := h.own p (List.mem_of_getElem? hp)
theorem HRel.writeAt {σ : Hp} {L : Own} {F : Fr} {w w' : World} {i : Nat} {v v' : Value} {ob ob' : OB} (h : HRel σ L F w) (hp : L[i]? = some (v, ob))
    (hsz : w.heap.size ≤ w'.heap.size) (hk : ∀ i, i < w.heap.size → some i ≠ blk v → w'.heap[i]? = w.heap[i]?) (ho : w'.os = w.os) (hout : w'.output = w.output)
    (hv : ∀ b, blk v' = some b → blk v = some b ∨ w.heap.size ≤ b) (hown : Own1 σ w' (v', ob')) : HRel σ (L.set i (v', ob')) F w' :=
  ((h.at hp).write hsz hk ho hout hv hown).perm (own_set_perm hp _)
def AV.storable : AV → Bool
  | .agg l => l.all AV.cell
  | x => x.cell
theorem AV.storable_whole {x : AV} (h : x.storable = true) : x.cell = true ∨ ∃ l, x = .agg l := by
  cases x <;> first | exact .inr ⟨_, rfl⟩ | exact .inl h
theorem VRs.oneCell {σ : Hp} {ys : List AV} {vs : List Value} (h : VRs σ ys vs) (hc : ys.all AV.cell = true) : ∀ u ∈ vs, u.oneCell' = true := by
  intro u hu
  obtain ⟨j, hj⟩ := List.getElem?_of_mem hu
  have hlt : j < ys.length := by rw [← h.1]; exact (List.getElem?_eq_some_iff.1 hj).1
  exact (h.2 j _ u (List.getElem?_eq_getElem hlt) hj).cell (List.all_eq_true.1 hc _ (List.getElem_mem hlt))
theorem AV.storable_cells {x : AV} (h : x.storable = true) : x.cells.all AV.cell = true := by
  cases x <;> first | exact h | (simp only [AV.cells, List.all_cons, List.all_nil, Bool.and_true]; exact h)
theorem own_row_val {σ : Hp} {w : World} {v : Value} {E sz : Nat} {es : List (List AV)} (h : Own1 σ w (v, .row E sz es)) : ∃ a cap, v = .slice a es.length cap ∧ es.length ≤ cap := by
  obtain ⟨xs, h1, _⟩ := h
  rcases h1 with ⟨h0, a, rfl⟩ | ⟨g, cap, cur, rfl, h0, hg, hn, _⟩
  · exact ⟨a, 0, by rw [h0], by omega⟩
  · exact ⟨_, cap, rfl, hn⟩
theorem own_row_cells {σ : Hp} {w : World} {v : Value} {E sz : Nat} {es : List (List AV)} (h : Own1 σ w (v, .row E sz es)) (hne : es ≠ []) :
    ∃ g cap cur, v = .slice (some ⟨g, 0, none⟩) es.length cap ∧ 0 < cap ∧ w.heap[g]? = some (.cells cur E (0, 0)) ∧ es.length ≤ cap ∧ cap ≤ maxLen ∧ cur.size = cap * sz ∧ (∀ e ∈ es, e.length = sz) ∧ VRs σ es.flatten (cur.toList.take (es.length * sz)) := by
  obtain ⟨xs, h1, h2, h3⟩ := h
  rcases h1 with ⟨h0, a, rfl⟩ | ⟨g, cap, cur, rfl, h0, hg, hn, hm, hc, ht⟩
  · exact absurd (List.eq_nil_of_length_eq_zero h0) hne
  · exact ⟨g, cap, cur, rfl, h0, hg, hn, hm, hc, h2, by rw [ht]; exact h3⟩
section
variable {P : Program} {N : Nat} {ops : List Oper} {Q : St → Own → Prop} {L : Own} {rest : List (Oper × Kd)} {l : List (Nat × AV)} {k : Kd} {q : Nat}
theorem q_ownLen {tt : List (TypeId × TD)} (ok : TOK P tt) {dst : Option Tmp} {T : TypeId} {x : Operand} {ty : TypeId} {pos : String} {after : Array Edge} {g : Option (Nat × Bool)} {st : St} {E0 : TypeId} {s1 b1 : Nat} {z1 : List Value}
    {i E sz : Nat} {v : Value} {es : List (List AV)} (hT : lkT tt T = some ⟨.slice E0, s1, b1, z1⟩) (hx : ev st x = .lit v) (hL : L[i]? = some (v, .row E sz es)) :
    AQ P ⟨dst, .call ⟨.builtin .len, #[x], #[T]⟩, ty, pos, after, g⟩ st L (.lit (.int .i64 es.length)) := by
  refine ⟨fun σ F w ρ hR hρ => ⟨_, ?_, .lit _⟩⟩
  have h1 := hρ x (by simp [Op.operands, Call.operands])
  rw [hx] at h1
  obtain ⟨a, cap, hv, _⟩ := own_row_val (hR.own1 hL)
  have hu := (ok _ _ hT).slice rfl
  simp [execOp, resolve, invoke, builtin, h1.lit_inv, hv, Builtin.len_, run_underlying hu, goInt]
theorem zol {tt : List (TypeId × TD)} (ok : TOK P tt) (i : Nat) {o : Oper} {T : TypeId} {x : Operand} {E0 : TypeId} {s1 b1 : Nat} {z1 : List Value} {E sz : Nat} {v : Value} {es : List (List AV)}
    (ho : o.op = .call ⟨.builtin .len, #[x], #[T]⟩) (hdst : o.dst = some q) (hd : Nat.blt q N = true) (hg : guardA ops o (lk l) = some true) (hk : k ≠ .pure) (hT : lkT tt T = some ⟨.slice E0, s1, b1, z1⟩) (hx : ev (lk l) x = .lit v) (hL : L[i]? = some (v, .row E sz es))
    (n : AL P N ops Q rest (lk ((q, .lit (.int .i64 es.length)) :: l)) L) : AL P N ops Q ((o, k) :: rest) (lk l) L := by
  obtain ⟨dst, op', ty, pos, after, g⟩ := o
  simp only at ho
  subst ho
  exact s_read hdst hd hg hk (q_ownLen ok hT hx hL) n
theorem zoi {tt : List (TypeId × TD)} (ok : TOK P tt) (i : Nat) {o : Oper} {T : TypeId} {x y : Operand} {E0 : TypeId} {s1 b1 : Nat} {z1 : List Value} {d : TD} {E sz : Nat} {v : Value} {es : List (List AV)} {kk : IntKind} {j : Int}
    (ho : o.op = .indexAddr T x y) (hdst : o.dst = some q) (hd : Nat.blt q N = true) (hg : guardA ops o (lk l) = some true) (hk : k ≠ .pure) (hT : lkT tt T = some ⟨.slice E0, s1, b1, z1⟩) (hE : lkT tt E0 = some d) (hx : ev (lk l) x = .lit v) (hL : L[i]? = some (v, .row E sz es)) (hs : sz = d.size)
    (hy : ev (lk l) y = .lit (.int kk j)) (h0 : 0 ≤ j) (h1 : j < es.length)
    (n : AL P N ops Q rest (lk ((q, .pt v sz j.toNat 0) :: l)) L) : AL P N ops Q ((o, k) :: rest) (lk l) L := by
  obtain ⟨dst, op', ty, pos, after, g⟩ := o
  simp only at ho
  subst ho
  subst hs
  refine s_read hdst hd hg hk ⟨fun σ F w ρ hR hρ => ?_⟩ n
  have e1 := hρ x (by simp [Op.operands])
  have e2 := hρ y (by simp [Op.operands])
  rw [hx] at e1
  rw [hy] at e2
  have hu := (ok _ _ hT).slice rfl
  have hsz := (ok _ _ hE).sizeOf_run
  obtain ⟨g, cap, cur, hv, hc0, _⟩ := own_row_cells (hR.own1 hL) (by intro h; subst h; simp at h1; omega)
  refine ⟨.pointer (some ⟨g, j.toNat * d.size + 0, none⟩), ?_, .pt v d.size j.toNat 0 g (by rw [hv]; simp [blk]; omega)⟩
  have hadd : (⟨g, 0, none⟩ : Addr).add (j.toNat * d.size) = ⟨g, j.toNat * d.size, none⟩ := by unfold Addr.add; split <;> simp_all
  simp [execOp, e1.lit_inv, hv, e2.lit_inv, Instr.indexAt, asIntOf, run_underlying hu, h0, h1, hsz, hadd]
def obAt : OB → Nat → Nat → Option (List AV)
  | .row _ _ es, j, off => match es[j]? with
    | some e => some (e.drop off)
    | none => none
  | .box cells, _, off => some (cells.drop off)
  | .mp _, _, _ => none
def obFit : OB → Nat → Nat → Bool
  | .row _ s _, sz, _ => Nat.beq s sz
  | .box _, _, j => Nat.beq j 0
  | .mp _, _, _ => false
theorem own_at {σ : Hp} {w : World} {v : Value} {ob : OB} (h : Own1 σ w (v, ob)) {sz j off : Nat} {cells : List AV} (hf : obFit ob sz j = true) (hc : obAt ob j off = some cells) (hne : cells ≠ []) :
    ∃ g E cur, blk v = some g ∧ w.heap[g]? = some (.cells cur E (0, 0)) ∧ ∀ k x, cells[k]? = some x → ∃ y, cur[j * sz + off + k]? = some y ∧ VR σ x y := by
  cases ob with
  | row E s es =>
    simp only [obFit] at hf
    obtain rfl := Nat.eq_of_beq_eq_true hf
    simp only [obAt] at hc
    cases he : es[j]? with
    | none => rw [he] at hc; cases hc
    | some e =>
      rw [he] at hc
      cases hc
      have hes : es ≠ [] := by intro hh; subst hh; simp at he
      obtain ⟨g, cap, cur, hv, h0, hg, hn, hm, hcs, hl, hvr⟩ := own_row_cells h hes
      refine ⟨g, E, cur, by rw [hv]; simp [blk]; omega, hg, fun k x hx => ?_⟩
      rw [List.getElem?_drop] at hx
      have hk : off + k < e.length := (List.getElem?_eq_some_iff.1 hx).1
      have hfl := flatten_get hl he hk
      rw [hx] at hfl
      obtain ⟨y, hy, hxy⟩ := hvr.get hfl
      refine ⟨y, ?_, hxy⟩
      rw [List.getElem?_take] at hy
      split at hy
      · rw [Nat.add_assoc]; simpa using hy
      · cases hy
  | box cs =>
    simp only [obFit] at hf
    obtain rfl := Nat.eq_of_beq_eq_true hf
    simp only [obAt] at hc
    cases hc
    obtain ⟨b, c, E, hv, hg, hvr⟩ := h
    refine ⟨b, E, c, by rw [hv]; rfl, hg, fun k x hx => ?_⟩
    rw [List.getElem?_drop] at hx
    obtain ⟨y, hy, hxy⟩ := hvr.get hx
    exact ⟨y, by simpa using hy, hxy⟩
  | mp m => simp [obFit] at hf
theorem s_ownLoad {tt : List (TypeId × TD)} (ok : TOK P tt) (i : Nat) {o : Oper} {T : TypeId} {x : Operand} {d : TD} {v : Value} {ob : OB} {sz j off : Nat} {cells : List AV} {a : AV}
    (ho : o.op = .load T x) (hdst : o.dst = some q) (hd : Nat.blt q N = true) (hg : guardA ops o (lk l) = some true) (hk : k ≠ .pure) (hT : lkT tt T = some d) (hx : ev (lk l) x = .pt v sz j off) (hL : L[i]? = some (v, ob)) (hf : obFit ob sz j = true) (hc : obAt ob j off = some cells) (hp : partA d cells 0 = some a) (hne : cells ≠ [])
    (n : AL P N ops Q rest (lk ((q, a) :: l)) L) : AL P N ops Q ((o, k) :: rest) (lk l) L := by
  obtain ⟨dst, op', ty, pos, after, g⟩ := o
  simp only at ho
  subst ho
  refine s_read hdst hd hg hk ⟨fun σ F w ρ hR hρ => ?_⟩ n
  have e1 := hρ x (by simp [Op.operands])
  rw [hx] at e1
  obtain ⟨b, E, cur, hb, hg, hcell⟩ := own_at (hR.own1 hL) hf hc hne
  generalize hu : ρ x = u at e1
  cases e1 with
  | pt _ _ _ _ b' hb' =>
    rw [hb] at hb'
    cases hb'
    have key : ∀ k y, cells[k]? = some y → cur[j * sz + off + k]? = some (cur.getD (j * sz + off + k) undef) ∧ VR σ y (cur.getD (j * sz + off + k) undef) := by
      intro k y hy
      obtain ⟨u, hu, hyu⟩ := hcell k y hy
      simp only [Array.getD_eq_getD_getElem?, hu, Option.getD_some]
      exact ⟨trivial, hyu⟩
    obtain ⟨r, hr, hxr⟩ := load_run (P := P) (ok _ _ hT) (σ := σ) (l := cells) (w := w) (b := b) (off := j * sz + off) (f := fun k => cur.getD (j * sz + off + k) undef)
      (fun k y hy => by rw [cell_at hg]; exact (key k y hy).1) (fun k y hy => (key k y hy).2) hp
    exact ⟨r, by simp [execOp, hu, hr], hxr⟩
def obSet : OB → Nat → Nat → List AV → OB
  | .row E sz es, j, off, ys => .row E sz (es.set j (setAll (es.getD j []) off ys))
  | .box cells, _, off, ys => .box (setAll cells off ys)
  | .mp m, _, _, _ => .mp m
theorem own_set {σ : Hp} {w : World} {v : Value} {ob : OB} (h : Own1 σ w (v, ob)) {sz j off : Nat} {cells : List AV} (hf : obFit ob sz j = true) (hc : obAt ob j off = some cells) {ys : List AV} {vs : List Value} (hvs : VRs σ ys vs) (hne : ys ≠ []) (hlen : ys.length ≤ cells.length) :
    ∃ g E cur, blk v = some g ∧ w.heap[g]? = some (.cells cur E (0, 0)) ∧ j * sz + off + vs.length ≤ cur.size ∧
      ∀ w' : World, w'.heap[g]? = some (.cells (cur.toList.take (j * sz + off) ++ vs ++ cur.toList.drop (j * sz + off + vs.length)).toArray E (0, 0)) → Own1 σ w' (v, obSet ob j off ys) := by
  have hpos : 0 < ys.length := List.length_pos_iff.2 hne
  cases ob with
  | row E s es =>
    simp only [obFit] at hf
    obtain rfl := Nat.eq_of_beq_eq_true hf
    simp only [obAt] at hc
    cases he : es[j]? with
    | none => rw [he] at hc; cases hc
    | some e =>
      rw [he] at hc
      cases hc
      have hes : es ≠ [] := by intro hh; subst hh; simp at he
      have hj : j < es.length := (List.getElem?_eq_some_iff.1 he).1
      obtain ⟨g, cap, cur, hv, h0, hg, hn, hm, hcs, hl, hvr⟩ := own_row_cells h hes
      have hel := hl e (List.mem_of_getElem? he)
      simp only [List.length_drop] at hlen
      have hfit : j * s + off + vs.length ≤ es.length * s := by
        have h1 : (j + 1) * s ≤ es.length * s := Nat.mul_le_mul_right _ hj
        rw [Nat.add_mul, Nat.one_mul] at h1
        rw [hvs.1]
        omega
      have hfit2 : es.length * s ≤ cur.size := by rw [hcs]; exact Nat.mul_le_mul_right _ hn
      refine ⟨g, E, cur, by rw [hv]; simp [blk]; omega, hg, by omega, fun w' hw' => ?_⟩
      have hflat : es.flatten.length = es.length * s := flatten_len hl
      have htl := flatten_take_len hl (Nat.le_of_lt hj)
      have hnew : (es.set j (setAll (es.getD j []) off ys)).flatten = es.flatten.take (j * s + off) ++ ys ++ es.flatten.drop (j * s + off + ys.length) := by
        rw [flatten_set he, List.getD_eq_getElem?_getD, he, Option.getD_some, setAll_eq ys e off (by omega)]
        have hsp := flatten_split he
        have e1 : es.flatten.take (j * s + off) = (es.take j).flatten ++ e.take off := by
          rw [hsp, List.append_assoc, List.take_append, htl, List.take_of_length_le (by omega), Nat.add_sub_cancel_left, List.take_append_of_le_length (by omega)]
        have e2 : es.flatten.drop (j * s + off + ys.length) = e.drop (off + ys.length) ++ (es.drop (j + 1)).flatten := by
          rw [hsp, List.append_assoc, List.drop_append, htl, List.drop_of_length_le (by omega), List.nil_append, show j * s + off + ys.length - j * s = off + ys.length by omega, List.drop_append_of_le_length (by omega)]
        rw [e1, e2]
        simp [List.append_assoc]
      refine ⟨_, .inr ⟨g, cap, _, by simpa using hv, h0, hw', by simpa using hn, hm, ?_, rfl⟩, fun e' he' => ?_, ?_⟩
      · simp only [List.size_toArray, List.length_append, List.length_take, List.length_drop, Array.length_toList]
        omega
      · rcases List.mem_or_eq_of_mem_set he' with h1 | h1
        · exact hl e' h1
        · rw [h1, length_setAll, List.getD_eq_getElem?_getD, he]; exact hel
      · rw [hnew]
        have hlen' : (es.set j (setAll (es.getD j []) off ys)).length * s = es.length * s := by simp
        rw [hlen']
        have e3 := splice_take cur.toList vs (j * s + off) (es.length * s) hfit (by simpa using hfit2)
        simp only [List.toList_toArray]
        rw [e3, hvs.1]
        exact ((hvr.take _).append hvs).append (hvr.drop _)
  | box cs =>
    simp only [obFit] at hf
    obtain rfl := Nat.eq_of_beq_eq_true hf
    simp only [obAt] at hc
    cases hc
    obtain ⟨b, c, E, hv, hg, hvr⟩ := h
    simp only [List.length_drop] at hlen
    have hsz : c.size = cs.length := by have := hvr.1; simpa using this
    refine ⟨b, E, c, by rw [hv]; rfl, hg, by rw [hvs.1]; omega, fun w' hw' => ?_⟩
    refine ⟨b, _, E, hv, hw', ?_⟩
    rw [setAll_eq ys cs off (by omega)]
    simp only [Nat.zero_mul, Nat.zero_add, List.toList_toArray]
    rw [hvs.1]
    exact ((hvr.take _).append hvs).append (hvr.drop _)
  | mp m => simp [obFit] at hf
theorem s_store {tt : List (TypeId × TD)} (ok : TOK P tt) (i : Nat) {o : Oper} {T : TypeId} {x y : Operand} {d : TD} {v : Value} {ob : OB} {sz j off : Nat} {cells : List AV} {a : AV}
    (ho : o.op = .store T x y) (hdst : o.dst = none) (hg : guardA ops o (lk l) = some true) (hT : lkT tt T = some d) (hx : ev (lk l) x = .pt v sz j off) (hy : ev (lk l) y = a) (ha : a.storable = true) (hal : a.cells.length = d.size) (hd0 : 0 < d.size)
    (hL : L[i]? = some (v, ob)) (hf : obFit ob sz j = true) (hc : obAt ob j off = some cells) (hle : a.cells.length ≤ cells.length)
    (n : AL P N ops Q rest (lk l) (L.set i (v, obSet ob j off a.cells))) : AL P N ops Q ((o, .eff) :: rest) (lk l) L := by
  obtain ⟨dst, op', ty, pos, after, g⟩ := o
  simp only at ho
  subst ho
  refine s_eff0 (fun x M => x = .lit undef ∧ M = L.set i (v, obSet ob j off a.cells)) hdst hg ⟨fun σ F w ρ hR hρ => ?_⟩ (fun x M ⟨e1, e2⟩ => by rw [e2]; exact n)
  have e1 := hρ x (by simp [Op.operands])
  have e2 := hρ y (by simp [Op.operands])
  rw [hx] at e1
  rw [hy] at e2
  have hcells := e2.cells (AV.storable_whole ha)
  have hone := hcells.oneCell (AV.storable_cells ha)
  have hvlen : (ρ y).cells.size = d.size := by have := hcells.1; simp at this; omega
  obtain ⟨gb, E, cur, hb, hgb, hfit, hnew⟩ := own_set (hR.own1 hL) hf hc hcells (by intro h; rw [h] at hal; simp at hal; omega) hle
  generalize hu : ρ x = u at e1
  cases e1 with
  | pt _ _ _ _ b' hb' =>
    rw [hb] at hb'
    cases hb'
    have hst := run_storeCells_at P gb (j * sz + off) E (ρ y).cells.toList 0 cur w hgb (by simpa using hfit) hone
    simp only [Nat.add_zero] at hst
    have hrun : (execOp ρ ⟨dst, .store T x y, ty, pos, after, g⟩).run P w = .ok .skip (w.setRow gb (cur.toList.take (j * sz + off) ++ (ρ y).cells.toList ++ cur.toList.drop (j * sz + off + (ρ y).cells.toList.length)).toArray) := by
      simp only [execOp, hu, Instr.storeAt, Instr.sureAddr, pure_bind, storeVar, Sem.run_bind, (ok _ _ hT).sizeOf_run, Result.andThen_ok, hvlen, ne_eq, not_true_eq_false, if_false, hst, Sem.run_pure]
    rw [hrun]
    refine ⟨σ, _, _, σ.le_refl, hR.writeAt hL (by simp) (fun q hq hne => setRow_other w gb q _ (fun e => hne (by rw [hb, e]))) rfl rfl (fun b hb => .inl hb) (hnew _ (setRow_heap w gb cur _ E _ hgb)), .lit _, rfl, rfl⟩
end
end Go.Sj
namespace Go.Sj
theorem VR.im_cells {σ : Hp} {sz : Nat} {es : List (List AV)} {v : Value} (h : VR σ (.im sz es) v) (hne : es ≠ []) :
    ∃ b off cap c E fr, v = .slice (some ⟨b, off, none⟩) es.length cap ∧ es.length ≤ cap ∧ σ b = some (.cells c E fr) ∧ (∀ e ∈ es, e.length = sz) ∧ VRs σ es.flatten ((c.toList.drop off).take (es.length * sz)) := by
  cases h with
  | imNil _ a cap => exact absurd rfl hne
  | im _ _ b off cap c E fr f h1 h2 h3 h4 h5 h6 =>
    have hl : ∀ e ∈ es, e.length = sz := fun e he => by obtain ⟨i, hi⟩ := List.getElem?_of_mem he; exact h4 i e hi
    have hfl : es.flatten.length = es.length * sz := flatten_len hl
    have key : ∀ i x, es.flatten[i]? = some x → ∃ y, c[off + i]? = some y ∧ VR σ x y := by
      intro i x hx
      have hi : i < es.length * sz := by rw [← hfl]; exact (List.getElem?_eq_some_iff.1 hx).1
      have hsz : 0 < sz := by
        rcases Nat.eq_zero_or_pos sz with h0 | h0
        · rw [h0] at hi; simp at hi
        · exact h0
      have hq : i / sz < es.length := Nat.div_lt_of_lt_mul (by rw [Nat.mul_comm]; exact hi)
      have he : es[i / sz]? = some es[i / sz] := List.getElem?_eq_getElem hq
      have hr : i % sz < (es[i / sz]).length := by rw [h4 _ _ he]; exact Nat.mod_lt _ hsz
      have hii : i / sz * sz + i % sz = i := by rw [Nat.mul_comm]; exact Nat.div_add_mod i sz
      have hg := flatten_get hl he hr
      rw [hii, hx] at hg
      have h7 := h5 _ _ (i % sz) x he hg.symm
      rw [hii] at h7
      exact ⟨_, h7, h6 _ _ _ x he hg.symm⟩
    refine ⟨b, off, cap, c, E, fr, rfl, h3, h1, hl, ?_, fun j x y hx hy => ?_⟩
    · rw [List.length_take, List.length_drop, Array.length_toList (xs := c), hfl]
      rcases Nat.eq_zero_or_pos (es.length * sz) with h0 | h0
      · omega
      · have hlast : es.length * sz - 1 < es.flatten.length := by omega
        obtain ⟨y, hy, _⟩ := key _ _ (List.getElem?_eq_getElem hlast)
        have := (Array.getElem?_eq_some_iff.1 hy).1
        omega
    · obtain ⟨u, hu, hxu⟩ := key j x hx
      rw [List.getElem?_take] at hy
      split at hy
      · rw [List.getElem?_drop, Array.getElem?_toList, hu] at hy
        cases hy
        exact hxu
      · cases hy
theorem VR.im_of {σ : Hp} {sz : Nat} {es : List (List AV)} {b off cap : Nat} {c : Array Value} {E : TypeId} {fr : Nat × Nat} (hb : σ b = some (.cells c E fr)) (hne : es ≠ []) (hcap : es.length ≤ cap) (hl : ∀ e ∈ es, e.length = sz)
    (h : VRs σ es.flatten ((c.toList.drop off).take (es.length * sz))) : VR σ (.im sz es) (.slice (some ⟨b, off, none⟩) es.length cap) := by
  have key : ∀ i e j x, es[i]? = some e → e[j]? = some x → c[off + (i * sz + j)]? = some (c.getD (off + (i * sz + j)) undef) ∧ VR σ x (c.getD (off + (i * sz + j)) undef) := by
    intro i e j x he hx
    have hg := flatten_get hl he (List.getElem?_eq_some_iff.1 hx).1
    rw [hx] at hg
    obtain ⟨y, hy, hxy⟩ := h.get hg
    rw [List.getElem?_take] at hy
    split at hy
    · rw [List.getElem?_drop, Array.getElem?_toList] at hy
      simp only [Array.getD_eq_getD_getElem?, hy, Option.getD_some]
      exact ⟨trivial, hxy⟩
    · cases hy
  exact .im sz es b off cap c E fr (fun i j => c.getD (off + (i * sz + j)) undef) hb hne hcap (fun i e he => hl e (List.mem_of_getElem? he)) (fun i e j x he hx => (key i e j x he hx).1) (fun i e j x he hx => (key i e j x he hx).2)
def SrcA (σ : Hp) (w : World) (v : Value) (sz : Nat) (es : List (List AV)) : Prop :=
  ∃ a cap, v = .slice a es.length cap ∧ (es ≠ [] → ∃ ad news, a = some ad ∧ news.length = es.length * sz ∧ (∀ j u, news[j]? = some u → w.cell? (ad.add j) = some u) ∧ VRs σ es.flatten news ∧ ∀ e ∈ es, e.length = sz)
theorem SrcA.im {σ : Hp} {w : World} {v : Value} {sz : Nat} {es : List (List AV)} (hw : Agree σ w) (h : VR σ (.im sz es) v) : SrcA σ w v sz es := by
  obtain ⟨a, cap, hv, _⟩ := VR.im_len h
  refine ⟨a, cap, hv, fun hne => ?_⟩
  obtain ⟨b, off, cap', c, E, fr, hv', _, hb, hl, hr⟩ := h.im_cells hne
  rw [hv] at hv'
  cases hv'
  refine ⟨_, _, rfl, by rw [hr.1, flatten_len hl], fun j u hu => ?_, hr, hl⟩
  rw [cell_at (hw b _ hb)]
  rw [List.getElem?_take] at hu
  split at hu
  · rw [List.getElem?_drop, Array.getElem?_toList] at hu; exact hu
  · cases hu
theorem SrcA.own {σ : Hp} {w : World} {v : Value} {E sz : Nat} {es : List (List AV)} (h : Own1 σ w (v, .row E sz es)) : SrcA σ w v sz es := by
  obtain ⟨a, cap, hv, _⟩ := own_row_val h
  refine ⟨a, cap, hv, fun hne => ?_⟩
  obtain ⟨g, cap', cur, hv', h0, hg, hn, hm, hc, hl, hr⟩ := own_row_cells h hne
  rw [hv] at hv'
  cases hv'
  refine ⟨_, _, rfl, by rw [hr.1, flatten_len hl], fun j u hu => ?_, hr, hl⟩
  rw [cell_at hg]
  rw [List.getElem?_take] at hu
  split at hu
  · simpa using hu
  · cases hu
theorem run_append_zero {P : Program} (w : World) (t ty e : TypeId) (i : TypeInfo) (ht : P.underlying t = some (.slice e)) (hi : P.info? e = some i) (base : Option Addr) (n cap : Nat) (hn : n ≤ cap) (a : Option Addr) (c : Nat) :
    (Builtin.append_ #[t, t] ty #[.slice base n cap, .slice a 0 c]).run P w = .ok (.slice base n cap) w := by
  cases base <;> cases a <;> simp [Builtin.append_, run_underlying ht, sizeOf, typeInfo, hi, Builtin.lenOf, Builtin.firstCells, loadCells, loadCellsFrom, storeCells, hn]
theorem own_append {P : Program} {σ : Hp} {w : World} {v u : Value} {E sz : Nat} {es es2 : List (List AV)} {t ty : TypeId} {d : TD} (h : Own1 σ w (v, .row E sz es)) (hs : SrcA σ w u sz es2) (ht : P.underlying t = some (.slice E)) (hd : TI P E d) (hsz : sz = d.size) (hpos : 0 < d.size)
    (hcell : es2.all (fun e => e.all AV.cell) = true) (h63 : es.length + es2.length ≤ maxLen) (hby : (es.length + es2.length) * d.bytes ≤ 140737488355328) :
    ∃ v' w', (Builtin.append_ #[t, t] ty #[v, u]).run P w = .ok v' w' ∧ Own1 σ w' (v', .row E sz (es ++ es2)) ∧ w.heap.size ≤ w'.heap.size ∧ (∀ i, i < w.heap.size → some i ≠ blk v → w'.heap[i]? = w.heap[i]?) ∧ w'.os = w.os ∧ w'.output = w.output ∧
      (∀ b, blk v' = some b → blk v = some b ∨ w.heap.size ≤ b) := by
  subst hsz
  obtain ⟨i, z, hi, his, hib, hz, hzz⟩ := hd.get
  obtain ⟨a, c, hu, hsrc⟩ := hs
  by_cases hne : es2 = []
  · subst hne
    obtain ⟨a0, cap, hv, hcap⟩ := own_row_val h
    refine ⟨v, w, ?_, by simpa using h, Nat.le_refl _, fun _ _ _ => rfl, rfl, rfl, fun b hb => .inl hb⟩
    rw [hu, hv]
    exact run_append_zero w t ty E i ht hi a0 es.length cap hcap a c
  · obtain ⟨ad, news, rfl, hnl, hnews, hnr, hl2⟩ := hsrc hne
    have hm : 0 < es2.length := List.length_pos_iff.2 hne
    have hone : ∀ u ∈ news, u.oneCell' = true := hnr.oneCell (by
      rw [List.all_eq_true]
      intro x hx
      obtain ⟨e, he, hxe⟩ := List.mem_flatten.1 hx
      exact List.all_eq_true.1 (List.all_eq_true.1 hcell e he) x hxe)
    have hsmall : es.length + es2.length ≤ 9223372036854775807 := by simp only [maxLen] at h63; omega
    obtain ⟨xs, hrow, hlen, hvr⟩ := h
    have hxl : xs.length = es.length * d.size := by rw [hvr.1, flatten_len hlen]
    have hlen' : ∀ e ∈ es ++ es2, e.length = d.size := fun e he => by
      rcases List.mem_append.1 he with h1 | h1
      · exact hlen e h1
      · exact hl2 e h1
    have grown : ∀ (old : Nat), old < es.length + es2.length →
        Own1 σ (w.drew.alloc (.cells (xs.toArray ++ news.toArray ++ Builtin.zeroCells z.cells (grownCap w (es.length + es2.length) old E - (es.length + es2.length))) E))
          (.slice (some ⟨w.heap.size, 0, none⟩) (es.length + es2.length) (grownCap w (es.length + es2.length) old E), .row E d.size (es ++ es2)) := by
      intro old ho
      have hge := grownCap_ge w (es.length + es2.length) old E
      have hcm := grownCap_le_maxLen w (es.length + es2.length) old E h63
      refine ⟨xs ++ news, .inr ⟨w.heap.size, _, _, by simp, by omega, heap_alloc_new w.drew _, by simpa using hge, hcm, ?_, ?_⟩, hlen', ?_⟩
      · have hzs : z.cells.size = d.size := by have := congrArg List.length hzz; rw [hd.zlen] at this; simpa using this
        simp only [Array.size_append, List.size_toArray, size_zeroCells, hzs, hxl, hnl, ← Nat.add_mul]
        congr 1
        omega
      · simp only [Array.toList_append, List.append_assoc, List.length_append]
        rw [← List.append_assoc, show (es.length + es2.length) * d.size = (xs ++ news).length by rw [List.length_append, hxl, hnl, Nat.add_mul]]
        exact List.take_left
      · rw [List.flatten_append]
        exact hvr.append hnr
    have hkeep : ∀ (o : Obj) (j : Nat), j < w.heap.size → (w.drew.alloc o).heap[j]? = w.heap[j]? := fun o j hj => heap_alloc_old w.drew o hj
    rcases hrow with ⟨h0, a0, rfl⟩ | ⟨g, cap, cur, rfl, h0, hg, hn, hcm, hcs, htake⟩
    · obtain rfl := List.eq_nil_of_length_eq_zero h0
      have hx : xs = [] := List.eq_nil_of_length_eq_zero (by simpa using hxl)
      subst hx
      have hgr := grown 0 (by simpa using hm)
      simp only [List.length_nil, Nat.zero_add, List.nil_append] at hgr h63 hby hsmall ⊢
      cases a0 with
      | none =>
        have hr := run_append_nil (P := P) w t ty E i z ht hi hz ad es2.length c news (by rw [hnl, his]) hnews hm (by omega) (by rw [hib]; omega)
        rw [hu]
        simp only [Array.empty_append] at hgr
        exact ⟨_, _, hr, hgr, by simp, fun j hj _ => hkeep _ j hj, rfl, rfl, fun b hb => .inr (by simp [blk] at hb; omega)⟩
      | some b0 =>
        have hr := run_append_grow (P := P) w t ty E i z ht hi hz b0 0 0 [] (by simp) (by simp) ad es2.length c news (by rw [hnl, his]) hnews (by omega) (by omega) (growslice_fits (by omega) (by rw [hib, Nat.zero_add]; omega))
        rw [hu]
        simp only [Nat.zero_add] at hr
        exact ⟨_, _, hr, hgr, by simp, fun j hj _ => hkeep _ j hj, rfl, rfl, fun b hb => .inr (by simp [blk] at hb; omega)⟩
    · have hblk : blk (.slice (some ⟨g, 0, none⟩) es.length cap) = some g := by simp [blk]; omega
      by_cases hroom : es.length + es2.length ≤ cap
      · have hfit : es.length * i.size + news.length ≤ cur.size := by rw [hnl, hcs, his, ← Nat.add_mul]; exact Nat.mul_le_mul_right _ hroom
        have hr := run_append_room (P := P) w t ty E i ht hi g es.length cap cur hg ad es2.length c news (by rw [hnl, his]) hnews hone hroom hfit
        rw [hu]
        refine ⟨_, _, hr, ⟨xs ++ news, .inr ⟨g, cap, _, by simp, h0, setRow_heap w g cur _ E _ hg, by simpa using hroom, hcm, ?_, ?_⟩, hlen', ?_⟩, by simp, fun j _ hk => setRow_other w g j _ (fun e => hk (by rw [hblk, e])), rfl, rfl, fun b hb => .inl (by simp [blk] at hb ⊢; exact hb)⟩
        · simp only [List.size_toArray, List.length_append, List.length_take, List.length_drop, Array.length_toList]
          omega
        · simp only [List.toList_toArray, List.length_append]
          rw [his, htake, show (es.length + es2.length) * d.size = (xs ++ news).length by rw [List.length_append, hxl, hnl, Nat.add_mul]]
          exact List.take_left
        · rw [List.flatten_append]
          exact hvr.append hnr
      · have holds : ∀ j u, xs[j]? = some u → w.cell? ((⟨g, 0, none⟩ : Addr).add j) = some u := by
          intro j u hj
          rw [cell_at hg]
          rw [← htake, List.getElem?_take] at hj
          split at hj
          · simpa using hj
          · cases hj
        have hr := run_append_grow (P := P) w t ty E i z ht hi hz ⟨g, 0, none⟩ es.length cap xs (by rw [hxl, his]) holds ad es2.length c news (by rw [hnl, his]) hnews (by omega) (by omega) (growslice_fits (by omega) (by rw [hib]; omega))
        rw [hu]
        exact ⟨_, _, hr, grown cap (by omega), by simp, fun j hj _ => hkeep _ j hj, rfl, rfl, fun b hb => .inr (by simp [blk] at hb; omega)⟩
end Go.Sj
namespace Go.Sj
section
variable {P : Program} {N : Nat} {ops : List Oper} {Q : St → Own → Prop} {L : Own} {rest : List (Oper × Kd)} {l : List (Nat × AV)} {k : Kd} {q : Nat}
theorem alloc_keep (w : World) (o : Obj) : ∀ i, i < w.heap.size → (w.alloc o).heap[i]? = w.heap[i]? := fun i hi => heap_alloc_old w o hi
theorem s_alloc {tt : List (TypeId × TD)} (ok : TOK P tt) {o : Oper} {T : TypeId} {d : TD} (ho : o.op = .alloc T) (hdst : o.dst = some q) (hd : Nat.blt q N = true) (hg : guardA ops o (lk l) = some true) (hT : lkT tt T = some d)
    (n : ∀ p, AL P N ops Q rest (lk ((q, .pt p 0 0 0) :: l)) ((p, .box (d.zero.map .lit)) :: L)) : AL P N ops Q ((o, .eff) :: rest) (lk l) L := by
  obtain ⟨dst, op', ty, pos, after, g⟩ := o
  simp only at ho
  subst ho
  refine s_eff (fun x M => ∃ p, x = .pt p 0 0 0 ∧ M = (p, .box (d.zero.map .lit)) :: L) hdst hd hg ⟨fun σ F w ρ hR hρ => ?_⟩ (fun x M ⟨p, e1, e2⟩ => by rw [e1, e2]; exact n p)
  obtain ⟨z, hz, hzz⟩ := (ok _ _ hT).zero_run w
  have hrun : (execOp ρ ⟨dst, .alloc T, ty, pos, after, g⟩).run P w = .ok (.value (.pointer (some ⟨w.heap.size, 0, none⟩))) (w.alloc (.cells z.cells T)) := by
    simp [execOp, Instr.alloc, hz, newVar, newRow]
  rw [hrun]
  refine ⟨σ, _, _, σ.le_refl, hR.new (v := .pointer (some ⟨w.heap.size, 0, none⟩)) (ob := .box (d.zero.map .lit)) (b := w.heap.size) rfl (Nat.le_refl _) (alloc_keep w _) rfl rfl
    ⟨w.heap.size, z.cells, T, rfl, heap_alloc_new w _, by rw [hzz]; exact VRs.lits _⟩, ?_, ⟨_, rfl, rfl⟩⟩
  have := VR.pt (σ := σ) (.pointer (some ⟨w.heap.size, 0, none⟩)) 0 0 0 w.heap.size rfl
  simpa using this
theorem s_box {o : Oper} {T : TypeId} {x : Operand} {a : AV} (ho : o.op = .box T x) (hdst : o.dst = some q) (hd : Nat.blt q N = true) (hg : guardA ops o (lk l) = some true) (hx : ev (lk l) x = a) (ha : a.whole = true)
    (n : ∀ p, AL P N ops Q rest (lk ((q, .pt p 0 0 0) :: l)) ((p, .box a.cells) :: L)) : AL P N ops Q ((o, .eff) :: rest) (lk l) L := by
  obtain ⟨dst, op', ty, pos, after, g⟩ := o
  simp only at ho
  subst ho
  refine s_eff (fun x M => ∃ p, x = .pt p 0 0 0 ∧ M = (p, .box a.cells) :: L) hdst hd hg ⟨fun σ F w ρ hR hρ => ?_⟩ (fun x M ⟨p, e1, e2⟩ => by rw [e1, e2]; exact n p)
  have e1 := hρ x (by simp [Op.operands])
  rw [hx] at e1
  have hrun : (execOp ρ ⟨dst, .box T x, ty, pos, after, g⟩).run P w = .ok (.value (.pointer (some ⟨w.heap.size, 0, none⟩))) (w.alloc (.cells (ρ x).cells T)) := by
    simp [execOp, Instr.box, newVar, newRow]
  rw [hrun]
  refine ⟨σ, _, _, σ.le_refl, hR.new (v := .pointer (some ⟨w.heap.size, 0, none⟩)) (ob := .box a.cells) (b := w.heap.size) rfl (Nat.le_refl _) (alloc_keep w _) rfl rfl
    ⟨w.heap.size, _, T, rfl, heap_alloc_new w _, e1.cells (AV.whole_spec ha)⟩, ?_, ⟨_, rfl, rfl⟩⟩
  have := VR.pt (σ := σ) (.pointer (some ⟨w.heap.size, 0, none⟩)) 0 0 0 w.heap.size rfl
  simpa using this
theorem own_new {σ : Hp} {w : World} {E sz n c : Nat} {cur : Array Value} {es : List (List AV)} (hn : es.length = n) (hnc : n ≤ c) (hm : c ≤ maxLen) (hc : cur.size = c * sz) (hl : ∀ e ∈ es, e.length = sz) (h : VRs σ es.flatten (cur.toList.take (n * sz))) :
    Own1 σ (w.alloc (.cells cur E)) (.slice (some ⟨w.heap.size, 0, none⟩) n c, .row E sz es) := by
  subst hn
  refine ⟨_, ?_, hl, h⟩
  rcases Nat.eq_zero_or_pos c with h0 | h0
  · subst h0
    exact .inl ⟨by omega, _, by rw [show es.length = 0 by omega]⟩
  · exact .inr ⟨w.heap.size, c, cur, rfl, h0, heap_alloc_new w _, hnc, hm, hc, rfl⟩
theorem HRel.newRow {σ : Hp} {L : Own} {F : Fr} {w : World} (h : HRel σ L F w) {E sz n c : Nat} {cur : Array Value} {es : List (List AV)} (hown : Own1 σ (w.alloc (.cells cur E)) (.slice (some ⟨w.heap.size, 0, none⟩) n c, .row E sz es)) :
    HRel σ ((.slice (some ⟨w.heap.size, 0, none⟩) n c, .row E sz es) :: L) F (w.alloc (.cells cur E)) := by
  by_cases hc : c = 0
  · have hg : HRel σ L F (w.alloc (.cells cur E)) := h.grow (alloc_keep w _) rfl rfl
    have hb : blk (.slice (some ⟨w.heap.size, 0, none⟩) n c) = none := by simp [blk, hc]
    refine ⟨hg.agree, hg.frame, hg.os, hg.out, fun p hp => ?_, hg.sep, ?_, ?_⟩
    · rcases List.mem_cons.1 hp with rfl | hp
      · exact hown
      · exact hg.own p hp
    · simpa [hb] using hg.nodup
    · simpa [hb] using hg.apart
  · exact h.new (b := w.heap.size) (by simp [blk, hc]) (Nat.le_refl _) (alloc_keep w _) rfl rfl hown
theorem VRs.of_lits {σ : Hp} {xs : List AV} {vs : List Value} (hl : xs.length = vs.length) (h : ∀ (i : Nat) (x : AV), xs[i]? = some x → ∃ v, x = .lit v ∧ vs[i]? = some v) : VRs σ xs vs :=
  ⟨hl.symm, fun j x y hx hy => by
    obtain ⟨v, rfl, hv⟩ := h j x hx
    rw [hv] at hy
    cases hy
    exact .lit _⟩
theorem made_rep {σ : Hp} {z : Array Value} {zs : List Value} {sz n c : Nat} (hz : z.toList = zs) (hlen : zs.length = sz) (hnc : n ≤ c) : VRs σ (List.replicate n (zs.map AV.lit)).flatten ((madeCells z (c * sz)).toList.take (n * sz)) := by
  have hzs : z.size = sz := by rw [← hlen, ← hz]; simp
  have hl : ∀ e ∈ List.replicate n (zs.map AV.lit), e.length = sz := fun e he => by rw [(List.mem_replicate.1 he).2]; simpa using hlen
  have hfl := flatten_len hl
  rw [List.length_replicate] at hfl
  have hcs : n * sz ≤ c * sz := Nat.mul_le_mul_right _ hnc
  refine VRs.of_lits (by rw [hfl, List.length_take, Array.length_toList, size_madeCells]; omega) (fun i x hx => ?_)
  have hi : i < n * sz := by rw [← hfl]; exact (List.getElem?_eq_some_iff.1 hx).1
  have hpos : 0 < sz := by
    rcases Nat.eq_zero_or_pos sz with h0 | h0
    · rw [h0] at hi; simp at hi
    · exact h0
  have hq : i / sz < n := Nat.div_lt_of_lt_mul (by rw [Nat.mul_comm]; exact hi)
  have he : (List.replicate n (zs.map AV.lit))[i / sz]? = some (zs.map AV.lit) := by simp [List.getElem?_replicate, hq]
  have hr : i % sz < (zs.map AV.lit).length := by simp [hlen]; exact Nat.mod_lt _ hpos
  have hii : i / sz * sz + i % sz = i := by rw [Nat.mul_comm]; exact Nat.div_add_mod i sz
  have hg := flatten_get hl he hr
  rw [hii, hx, List.getElem?_map] at hg
  have hlt : i % sz < zs.length := by rw [hlen]; exact Nat.mod_lt _ hpos
  rw [List.getElem?_eq_getElem hlt] at hg
  simp only [Option.map_some, Option.some.injEq] at hg
  refine ⟨_, hg, ?_⟩
  rw [List.getElem?_take, if_pos hi, Array.getElem?_toList]
  have hic : i < c * sz := by omega
  simp only [madeCells, Array.getElem?_map, Array.getElem?_range, if_pos hic, Option.map_some]
  congr 1
  subst hz
  have hlt' : i % z.size < z.size := by rw [hzs]; exact Nat.mod_lt _ hpos
  rw [getElem!_pos z (i % z.size) hlt']
  simp [hzs]
theorem s_make {tt : List (TypeId × TD)} (ok : TOK P tt) {o : Oper} {T : TypeId} {x y : Operand} {E s1 b1 : Nat} {z1 : List Value} {d : TD} {k1 k2 : IntKind} {n c : Int} (ho : o.op = .makeSlice T x y) (hdst : o.dst = some q) (hd : Nat.blt q N = true) (hg : guardA ops o (lk l) = some true)
    (hT : lkT tt T = some ⟨.slice E, s1, b1, z1⟩) (hE : lkT tt E = some d) (hx : ev (lk l) x = .lit (.int k1 n)) (hy : ev (lk l) y = .lit (.int k2 c)) (h0 : 0 ≤ n) (hnc : n ≤ c) (hb : (d.bytes : Int) * c ≤ 140737488355328) (h63 : c ≤ 140737488355328)
    (nx : ∀ v, AL P N ops Q rest (lk ((q, .lit v) :: l)) ((v, .row E d.size (List.replicate n.toNat (d.zero.map .lit))) :: L)) : AL P N ops Q ((o, .eff) :: rest) (lk l) L := by
  obtain ⟨dst, op', ty, pos, after, g⟩ := o
  simp only at ho
  subst ho
  refine s_eff (fun x M => ∃ v, x = .lit v ∧ M = (v, .row E d.size (List.replicate n.toNat (d.zero.map .lit))) :: L) hdst hd hg ⟨fun σ F w ρ hR hρ => ?_⟩ (fun x M ⟨p, e1, e2⟩ => by rw [e1, e2]; exact nx p)
  have e1 := hρ x (by simp [Op.operands])
  have e2 := hρ y (by simp [Op.operands])
  rw [hx] at e1
  rw [hy] at e2
  obtain ⟨i, z, hi, his, hib, hz, hzz⟩ := (ok _ _ hE).get
  have hu := (ok _ _ hT).slice rfl
  have hr := run_make (P := P) w T E i z hu hi hz k1 k2 n c h0 hnc (by rw [hib]; omega) (by omega)
  have hrun : (execOp ρ ⟨dst, .makeSlice T x y, ty, pos, after, g⟩).run P w = .ok (.value (.slice (some ⟨w.heap.size, 0, none⟩) n.toNat c.toNat)) (w.alloc (.cells (madeCells z.cells (c.toNat * i.size)) E)) := by
    simp only [execOp, e1.lit_inv, e2.lit_inv, Sem.run_bind, hr, Result.andThen_ok, Sem.run_pure]
  rw [hrun, his]
  have hown := own_new (σ := σ) (w := w) (E := E) (sz := d.size) (n := n.toNat) (c := c.toNat) (cur := madeCells z.cells (c.toNat * d.size)) (es := List.replicate n.toNat (d.zero.map .lit)) (by simp) (by omega) (by simp only [maxLen]; omega) (size_madeCells _ _)
    (fun e he => by rw [(List.mem_replicate.1 he).2]; simpa using (ok _ _ hE).zlen) (made_rep hzz (ok _ _ hE).zlen (by omega))
  exact ⟨σ, _, _, σ.le_refl, hR.newRow hown, .lit _, _, rfl, rfl⟩
def bsEs (sz : Nat) : Nat → List (Nat × AV) → Option (List (List AV))
  | _, [] => some []
  | i, (j, x) :: r => bif Nat.beq j i && Nat.beq x.cells.length sz && x.whole then
      match bsEs sz (i + 1) r with
      | some l => some (x.cells :: l)
      | none => none
    else none
theorem bs_fill {sz : Nat} : ∀ (ps : List (Nat × AV)) (i : Nat) (cs : List AV) (es : List (List AV)), bsEs sz i ps = some es → (i + ps.length) * sz ≤ cs.length →
    fillA (fun i => some (i * sz, sz)) cs ps = some (cs.take (i * sz) ++ es.flatten ++ cs.drop ((i + ps.length) * sz)) ∧ es.length = ps.length ∧ ∀ e ∈ es, e.length = sz
  | [], i, cs, es, h, hl => by
    simp [bsEs] at h
    subst h
    simp [fillA]
  | (j, x) :: ps, i, cs, es, h, hl => by
    simp only [bsEs] at h
    cases hb : (Nat.beq j i && Nat.beq x.cells.length sz && x.whole) with
    | false => rw [hb] at h; cases h
    | true =>
      rw [hb] at h
      simp only [cond_true] at h
      simp only [Bool.and_eq_true] at hb
      obtain ⟨⟨h1, h2⟩, h3⟩ := hb
      obtain rfl := Nat.eq_of_beq_eq_true h1
      have h2 := Nat.eq_of_beq_eq_true h2
      cases hr : bsEs sz (j + 1) ps with
      | none => rw [hr] at h; cases h
      | some es' =>
        rw [hr] at h
        cases h
        have hlen : (j + 1 + ps.length) * sz ≤ cs.length := by simpa [Nat.add_assoc, Nat.add_comm 1] using hl
        have hj1 : (j + 1) * sz ≤ (j + 1 + ps.length) * sz := Nat.mul_le_mul_right _ (by omega)
        have hj2 : (j + 1) * sz = j * sz + sz := by rw [Nat.add_mul, Nat.one_mul]
        have ih := bs_fill ps (j + 1) (setAll cs (j * sz) x.cells) es' hr (by rw [length_setAll]; exact hlen)
        refine ⟨?_, by simp [ih.2.1], fun e he => ?_⟩
        · have hok : (x.cells.length == sz && Nat.ble (j * sz + sz) cs.length && x.whole) = true := by
            simp only [Bool.and_eq_true, beq_iff_eq, Nat.ble_eq]
            exact ⟨⟨h2, by omega⟩, h3⟩
          simp only [fillA, hok, cond_true, ih.1]
          rw [setAll_eq _ _ _ (by rw [h2]; omega), h2]
          have ht : (cs.take (j * sz) ++ x.cells).length = (j + 1) * sz := by rw [List.length_append, List.length_take, h2]; omega
          congr 1
          rw [List.take_append, ht, List.take_of_length_le (by omega), Nat.sub_self, List.take_zero, List.append_nil, List.drop_append, ht, List.drop_of_length_le (by omega), List.nil_append, List.drop_drop, List.flatten_cons]
          have e1 : j * sz + sz + ((j + 1 + ps.length) * sz - (j + 1) * sz) = (j + (ps.length + 1)) * sz := by
            have : (j + (ps.length + 1)) * sz = (j + 1 + ps.length) * sz := by congr 1; omega
            omega
          rw [e1]
          simp [List.append_assoc]
        · rcases List.mem_cons.1 he with rfl | he
          · exact h2
          · exact ih.2.2 e he
theorem s_build {tt : List (TypeId × TD)} (ok : TOK P tt) {o : Oper} {T : TypeId} {len : Nat} {parts : List (Nat × Operand)} {E s1 b1 : Nat} {z1 : List Value} {d : TD} {es : List (List AV)} (ho : o.op = .buildSlice T len parts.toArray) (hdst : o.dst = some q) (hd : Nat.blt q N = true) (hg : guardA ops o (lk l) = some true)
    (hT : lkT tt T = some ⟨.slice E, s1, b1, z1⟩) (hE : lkT tt E = some d) (hes : bsEs d.size 0 (parts.map fun p => (p.1, ev (lk l) p.2)) = some es) (hlen : len = parts.length) (hsmall : len * d.size ≤ 65536) (hl : len ≤ 65536)
    (nx : ∀ v, AL P N ops Q rest (lk ((q, .lit v) :: l)) ((v, .row E d.size es) :: L)) : AL P N ops Q ((o, .eff) :: rest) (lk l) L := by
  obtain ⟨dst, op', ty, pos, after, g⟩ := o
  simp only at ho
  subst ho
  refine s_eff (fun x M => ∃ v, x = .lit v ∧ M = (v, .row E d.size es) :: L) hdst hd hg ⟨fun σ F w ρ hR hρ => ?_⟩ (fun x M ⟨p, e1, e2⟩ => by rw [e1, e2]; exact nx p)
  have hu := (ok _ _ hT).slice rfl
  have hsz := (ok _ _ hE).sizeOf_run
  obtain ⟨z, hz, hzz⟩ := (ok _ _ hE).zero_run w
  have hz0 : ∃ zc : Array Value, ∀ rs, Instr.fill (fun i => some (i * d.size, d.size)) (madeCells zc (len * d.size)) (parts.map fun p => (p.1, ρ p.2)) = some rs →
      (execOp ρ ⟨dst, .buildSlice T len parts.toArray, ty, pos, after, g⟩).run P w = .ok (.value (.slice (some ⟨w.heap.size, 0, none⟩) len len)) (w.alloc (.cells rs E)) := by
    have hbig : ¬ (len * d.size > 16777216) := by omega
    by_cases h0 : len * d.size = 0
    · refine ⟨#[], fun rs hrs => ?_⟩
      rw [h0] at hrs
      have hm : madeCells #[] 0 = #[] := by simp [madeCells]
      rw [hm] at hrs
      simp [execOp, Instr.buildSlice, run_underlying hu, hsz, h0, hrs, newRow, Array.range_zero']
    · refine ⟨z.cells, fun rs hrs => ?_⟩
      simp only [madeCells] at hrs
      simp [execOp, Instr.buildSlice, run_underlying hu, hsz, h0, hrs, newRow, hz, hbig]
  obtain ⟨zc, hrun0⟩ := hz0
  have hcs : (madeCells zc (len * d.size)).size = len * d.size := size_madeCells _ _
  obtain ⟨hfill, heslen, hesl⟩ := bs_fill (sz := d.size) (parts.map fun p => (p.1, ev (lk l) p.2)) 0 ((madeCells zc (len * d.size)).toList.map .lit) es hes (by rw [List.length_map, List.length_map, ← hlen, Nat.zero_add]; have := hcs; rw [← Array.length_toList] at this; omega)
  obtain ⟨rs, hrs, hrr⟩ := fillA_sound (σ := σ) (place := fun i => some (i * d.size, d.size)) (parts.map fun p => (p.1, ev (lk l) p.2)) (parts.map fun p => (p.1, ρ p.2)) _ (madeCells zc (len * d.size)) _ hfill (by simp)
    (fun j p q a b => by
      simp only [List.getElem?_map, Option.map_eq_some_iff] at a b
      obtain ⟨p', hp', rfl⟩ := a
      obtain ⟨q', hq', rfl⟩ := b
      rw [hp'] at hq'
      cases hq'
      exact ⟨rfl, hρ _ (by
        simp only [Op.operands, List.mem_toArray, List.mem_map]
        exact ⟨p', List.mem_of_getElem? hp', rfl⟩)⟩) (VRs.lits _)
  have hres : ((madeCells zc (len * d.size)).toList.map AV.lit).take (0 * d.size) ++ es.flatten ++ ((madeCells zc (len * d.size)).toList.map AV.lit).drop ((0 + (parts.map fun p => (p.1, ev (lk l) p.2)).length) * d.size) = es.flatten := by
    rw [Nat.zero_mul, List.take_zero, List.nil_append, Nat.zero_add, List.length_map, ← hlen, List.drop_of_length_le (by simp [hcs]), List.append_nil]
  rw [hres] at hrr
  have hfl : es.flatten.length = len * d.size := by rw [flatten_len hesl, heslen, List.length_map, ← hlen]
  have hrsz : rs.size = len * d.size := by have := hrr.1; rw [hfl] at this; simpa using this
  have hrun := hrun0 rs hrs
  rw [hrun]
  have hown := own_new (σ := σ) (w := w) (E := E) (sz := d.size) (n := len) (c := len) (cur := rs) (es := es) (by rw [heslen, List.length_map, hlen]) (Nat.le_refl _) (by simp only [maxLen]; omega) hrsz hesl (by rw [List.take_of_length_le (by simp [hrsz])]; exact hrr)
  exact ⟨σ, _, _, σ.le_refl, hR.newRow hown, .lit _, _, rfl, rfl⟩
theorem s_appendIm {tt : List (TypeId × TD)} (ok : TOK P tt) (i : Nat) {o : Oper} {T : TypeId} {x y : Operand} {E s1 b1 : Nat} {z1 : List Value} {d : TD} {sz : Nat} {v : Value} {es es2 : List (List AV)} (ho : o.op = .call ⟨.builtin .append, #[x, y], #[T, T]⟩) (hdst : o.dst = some q) (hd : Nat.blt q N = true) (hg : guardA ops o (lk l) = some true)
    (hT : lkT tt T = some ⟨.slice E, s1, b1, z1⟩) (hE : lkT tt E = some d) (hpos : 0 < d.size) (hx : ev (lk l) x = .lit v) (hL : L[i]? = some (v, .row E sz es)) (hs : sz = d.size) (hy : ev (lk l) y = .im sz es2)
    (hcell : es2.all (fun e => e.all AV.cell) = true) (hlen : es.length + es2.length ≤ 140737488355328) (hby : (es.length + es2.length) * d.bytes ≤ 140737488355328)
    (nx : ∀ v', AL P N ops Q rest (lk ((q, .lit v') :: l)) (L.set i (v', .row E sz (es ++ es2)))) : AL P N ops Q ((o, .eff) :: rest) (lk l) L := by
  obtain ⟨dst, op', ty, pos, after, g⟩ := o
  simp only at ho
  subst ho
  refine s_eff (fun x M => ∃ v', x = .lit v' ∧ M = L.set i (v', .row E sz (es ++ es2))) hdst hd hg ⟨fun σ F w ρ hR hρ => ?_⟩ (fun x M ⟨p, e1, e2⟩ => by rw [e1, e2]; exact nx p)
  have e1 := hρ x (by simp [Op.operands, Call.operands])
  have e2 := hρ y (by simp [Op.operands, Call.operands])
  rw [hx] at e1
  rw [hy] at e2
  have hu := (ok _ _ hT).slice rfl
  obtain ⟨v', w', hr, hown, h1, h2, h3, h4, h5⟩ := own_append (P := P) (ty := ty) (hR.own1 hL) (SrcA.im hR.agree e2) hu (ok _ _ hE) hs hpos hcell (by simp only [maxLen]; omega) hby
  have hrun : (execOp ρ ⟨dst, .call ⟨.builtin .append, #[x, y], #[T, T]⟩, ty, pos, after, g⟩).run P w = .ok (.value v') w' := by
    simp [execOp, resolve, invoke, builtin, e1.lit_inv, hr]
  rw [hrun]
  exact ⟨σ, _, _, σ.le_refl, hR.writeAt hL h1 h2 h3 h4 h5 hown, .lit _, _, rfl, rfl⟩
theorem s_appendOwn {tt : List (TypeId × TD)} (ok : TOK P tt) (i j : Nat) {o : Oper} {T : TypeId} {x y : Operand} {E s1 b1 : Nat} {z1 : List Value} {d : TD} {sz : Nat} {v u : Value} {es es2 : List (List AV)} (ho : o.op = .call ⟨.builtin .append, #[x, y], #[T, T]⟩) (hdst : o.dst = some q) (hd : Nat.blt q N = true) (hg : guardA ops o (lk l) = some true)
    (hT : lkT tt T = some ⟨.slice E, s1, b1, z1⟩) (hE : lkT tt E = some d) (hpos : 0 < d.size) (hx : ev (lk l) x = .lit v) (hL : L[i]? = some (v, .row E sz es)) (hs : sz = d.size) (hy : ev (lk l) y = .lit u) (hL2 : L[j]? = some (u, .row E sz es2))
    (hcell : es2.all (fun e => e.all AV.cell) = true) (hlen : es.length + es2.length ≤ 140737488355328) (hby : (es.length + es2.length) * d.bytes ≤ 140737488355328)
    (nx : ∀ v', AL P N ops Q rest (lk ((q, .lit v') :: l)) (L.set i (v', .row E sz (es ++ es2)))) : AL P N ops Q ((o, .eff) :: rest) (lk l) L := by
  obtain ⟨dst, op', ty, pos, after, g⟩ := o
  simp only at ho
  subst ho
  refine s_eff (fun x M => ∃ v', x = .lit v' ∧ M = L.set i (v', .row E sz (es ++ es2))) hdst hd hg ⟨fun σ F w ρ hR hρ => ?_⟩ (fun x M ⟨p, e1, e2⟩ => by rw [e1, e2]; exact nx p)
  have e1 := hρ x (by simp [Op.operands, Call.operands])
  have e2 := hρ y (by simp [Op.operands, Call.operands])
  rw [hx] at e1
  rw [hy] at e2
  have hu := (ok _ _ hT).slice rfl
  obtain ⟨v', w', hr, hown, h1, h2, h3, h4, h5⟩ := own_append (P := P) (ty := ty) (hR.own1 hL) (SrcA.own (hR.own1 hL2)) hu (ok _ _ hE) hs hpos hcell (by simp only [maxLen]; omega) hby
  have hrun : (execOp ρ ⟨dst, .call ⟨.builtin .append, #[x, y], #[T, T]⟩, ty, pos, after, g⟩).run P w = .ok (.value v') w' := by
    simp [execOp, resolve, invoke, builtin, e1.lit_inv, e2.lit_inv, hr]
  rw [hrun]
  exact ⟨σ, _, _, σ.le_refl, hR.writeAt hL h1 h2 h3 h4 h5 hown, .lit _, _, rfl, rfl⟩
theorem callFunc_run {f : FuncId} (h : FOK P f) (args : Array Value) (w : World) : (callFunc f args).run P w = .ok (.enter f args) w := by
  obtain ⟨fn, hf, hn, hb⟩ := h
  simp only [callFunc, Sem.run_bind, run_program, Result.andThen_ok, hf, hn, hb, Bool.false_eq_true, if_false, Sem.run_pure]
def lend (F : Fr) (L : Own) (w : World) : Fr :=
  { F with h := fun b => match F.h b with
    | some o => some o
    | none => if b ∈ L.filterMap (blk ∘ Prod.fst) then w.heap[b]? else none }
theorem lend_none {F : Fr} {L : Own} {w : World} {b : Nat} (h1 : F.h b = none) (h2 : b ∉ L.filterMap (blk ∘ Prod.fst)) : (lend F L w).h b = none := by
  simp only [lend, h1, if_neg h2]
theorem HRel.lend {σ : Hp} {Lc Lr : Own} {F : Fr} {w : World} (h : HRel σ (Lc ++ Lr) F w) : HRel σ Lc (lend F Lr w) w := by
  have hn := h.nodup
  rw [List.filterMap_append, List.nodup_append] at hn
  refine ⟨h.agree, fun b o hb => ?_, h.os, h.out, fun p hp => h.own p (List.mem_append_left _ hp), fun b o hb => ?_, hn.1, fun b hb => ?_⟩
  · simp only [Sj.lend] at hb
    split at hb
    · rename_i o' ho
      cases hb
      exact h.frame b o ho
    · split at hb
      · exact hb
      · cases hb
  · refine lend_none (h.sep b o hb) (fun hm => ?_)
    have := (h.apart b (by rw [List.filterMap_append]; exact List.mem_append_right _ hm)).1
    rw [this] at hb; cases hb
  · have h1 := h.apart b (by rw [List.filterMap_append]; exact List.mem_append_left _ hb)
    exact ⟨h1.1, lend_none h1.2 (fun hm => hn.2.2 b hb b hm rfl)⟩
theorem HRel.back {σ τ : Hp} {Lc Lr M : Own} {F : Fr} {w w' : World} (h : HRel σ (Lc ++ Lr) F w) (hle : σ.le τ) (k : HRel τ M (Sj.lend F Lr w) w') : HRel τ (M ++ Lr) F w' := by
  have hF : ∀ b o, F.h b = some o → (Sj.lend F Lr w).h b = some o := fun b o hb => by simp only [Sj.lend, hb]
  have hmem : ∀ p ∈ Lr, ∀ b, blk p.1 = some b → b ∈ Lr.filterMap (blk ∘ Prod.fst) := fun p hp b hb => List.mem_filterMap.2 ⟨p, hp, hb⟩
  have hFn : ∀ b, (Sj.lend F Lr w).h b = none → F.h b = none := fun b hb => by
    cases e : F.h b with
    | none => rfl
    | some o => rw [hF b o e] at hb; cases hb
  have hlook : ∀ p ∈ Lr, ∀ b, blk p.1 = some b → (Sj.lend F Lr w).h b = w.heap[b]? := fun p hp b hb => by
    have h1 := h.apart b (by rw [List.filterMap_append]; exact List.mem_append_right _ (hmem p hp b hb))
    simp only [Sj.lend, h1.2, if_pos (hmem p hp b hb)]
  have hsome : ∀ p ∈ Lr, ∀ b, blk p.1 = some b → ∃ o, w.heap[b]? = some o := fun p hp b hb => by
    have := (h.own p (List.mem_append_right _ hp)).lt (v := p.1) (ob := p.2) hb
    exact ⟨_, Array.getElem?_eq_getElem this⟩
  have hn := h.nodup
  rw [List.filterMap_append, List.nodup_append] at hn
  refine ⟨k.agree, fun b o hb => k.frame b o (hF b o hb), k.os, k.out, fun p hp => ?_, fun b o hb => hFn b (k.sep b o hb), ?_, fun b hb => ?_⟩
  · rcases List.mem_append.1 hp with hp | hp
    · exact k.own p hp
    · refine ((h.own p (List.mem_append_right _ hp)).mono hle).kept (v := p.1) (ob := p.2) fun b hb => ?_
      obtain ⟨o, ho⟩ := hsome p hp b hb
      rw [ho]
      exact k.frame b o (by rw [hlook p hp b hb]; exact ho)
  · rw [List.filterMap_append, List.nodup_append]
    refine ⟨k.nodup, hn.2.1, fun a ha b hb e => ?_⟩
    subst e
    obtain ⟨p, hp, hpb⟩ := List.mem_filterMap.1 hb
    obtain ⟨o, ho⟩ := hsome p hp a hpb
    have h1 := (k.apart a ha).2
    rw [hlook p hp a hpb, ho] at h1
    cases h1
  · rw [List.filterMap_append] at hb
    rcases List.mem_append.1 hb with hb | hb
    · exact ⟨(k.apart b hb).1, hFn b (k.apart b hb).2⟩
    · obtain ⟨p, hp, hpb⟩ := List.mem_filterMap.1 hb
      obtain ⟨o, ho⟩ := hsome p hp b hpb
      refine ⟨?_, (h.apart b (by rw [List.filterMap_append]; exact List.mem_append_right _ hb)).2⟩
      cases e : τ b with
      | none => rfl
      | some o' =>
        have h1 := k.sep b o' e
        rw [hlook p hp b hpb, ho] at h1
        cases h1
theorem zsc {o : Oper} {x : Operand} {args : List Operand} {tys : Array TypeId} {f : FuncId} {first caps as : List AV} {Lc Lr : Own} {R : AV → Own → Prop} (ho : o.op = .call ⟨.value x, args.toArray, tys⟩) (hdst : o.dst = some q) (hd : Nat.blt q N = true) (hg : guardA ops o (lk l) = some true)
    (hx : ev (lk l) x = .fn (.func f) first caps) (hc : ACalls P f as Lc R) (has : SubL (first ++ args.map (ev (lk l)) ++ caps) as) (hL : L.Perm (Lc ++ Lr))
    (n : ∀ y M, R y M → AL P N ops Q rest (lk ((q, y) :: l)) (M ++ Lr)) : AL P N ops Q ((o, .eff) :: rest) (lk l) L := by
  obtain ⟨dst, op', ty, pos, after, g⟩ := o
  simp only at ho
  subst ho
  refine s_eff (fun y M => ∃ M', R y M' ∧ M = M' ++ Lr) hdst hd hg ⟨fun σ F w ρ hR hρ => ?_⟩ (fun y M ⟨M', h1, h2⟩ => by rw [h2]; exact n y M' h1)
  have e1 := hρ x (by simp [Op.operands, Call.operands])
  rw [hx] at e1
  obtain ⟨vs, us, hv, hvs, hus⟩ := e1.fn_inv
  have hargs : VRs σ (args.map (ev (lk l))) (args.map ρ) := ⟨by simp, fun j a b ha hb => by
    simp only [List.getElem?_map, Option.map_eq_some_iff] at ha hb
    obtain ⟨p, hp, rfl⟩ := ha
    obtain ⟨q, hq, rfl⟩ := hb
    rw [hp] at hq; cases hq
    exact hρ _ (by simp only [Op.operands, Call.operands, Array.mem_append, List.mem_toArray]; exact .inr (List.mem_of_getElem? hp))⟩
  have hall := has.vrs ((hvs.append hargs).append hus)
  have hR' := hR.perm hL
  have hcall := hc.out σ (Sj.lend F Lr w) w _ hR'.lend hall
  have hrun : (execOp ρ ⟨dst, .call ⟨.value x, args.toArray, tys⟩, ty, pos, after, g⟩).run P w = .ok (.enter f (vs ++ args.map ρ ++ us).toArray) w := by
    have : vs.toArray ++ (args.map ρ).toArray ++ us.toArray = (vs ++ args.map ρ ++ us).toArray := by simp
    simp only [execOp, resolve, hv, Deferred.ofValue, Sem.run_bind, Sem.run_pure, Result.andThen_ok, invoke, List.map_toArray, this, callFunc_run hc.ok]
  rw [hrun]
  exact hcall.mono fun e w' ⟨v, he, τ, y, M, h1, h2, h3, h4⟩ => ⟨v, he, τ, y, M ++ Lr, h1, hR'.back h1 h2, h3, M, h4, rfl⟩
end
end Go.Sj
end
