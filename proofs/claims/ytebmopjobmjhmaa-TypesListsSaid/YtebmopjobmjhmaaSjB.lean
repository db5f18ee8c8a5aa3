/-
  Part B: machine states as trees; the rules of control; regions, in the order of the text and in every order.
  No condition; nothing here names a program.
-/
import Derived.Test.YtebmopjobmjhmaaSjA
import Derived.Orders
import Derived.Still
namespace Go.Sj
set_option linter.unusedVariables false

abbrev St := Nat → AV
def lk : List (Nat × AV) → St
  | [], _ => .any
  | (i, x) :: r, j => bif Nat.beq i j then x else lk r j
def upd (st : St) (d : Nat) (x : AV) : St := fun j => bif Nat.beq d j then x else st j
theorem upd_lk (l : List (Nat × AV)) (d : Nat) (x : AV) : upd (lk l) d x = lk ((d, x) :: l) := rfl
def updO (st : St) : Option Nat → AV → St
  | some d, x => upd st d x
  | none, _ => st

def ev (st : St) : Operand → AV
  | .tmp t => st t
  | .const v => ofV v
  | .global g => .lit (.pointer (some ⟨g, 0, none⟩))
  | .func f => .fn (.func f) [] []

structure TR (σ : Hp) (N : Nat) (st : St) (a : Act) : Prop where
  defers : a.defers = []
  size : a.tmps.size = N
  vals : ∀ i, VR σ (st i) (a.tmps.getD i undef)

theorem TR.mono {σ τ : Hp} {N : Nat} {st : St} {a : Act} (h : TR σ N st a) (k : σ.le τ) : TR τ N st a := ⟨h.defers, h.size, fun i => (h.vals i).mono k⟩
theorem TR.eval {σ : Hp} {N : Nat} {st : St} {a : Act} (h : TR σ N st a) (x : Operand) : VR σ (ev st x) (a.eval x) := by
  cases x with
  | tmp t => exact h.vals t
  | const v => exact .ofV v
  | global g => exact .lit _
  | func f => exact VR.fn_of (vs := []) (us := []) .nil .nil

theorem beq_false {d j : Nat} (h : d ≠ j) : Nat.beq d j = false := by
  cases e : Nat.beq d j with
  | false => rfl
  | true => exact absurd (Nat.eq_of_beq_eq_true e) h
theorem upd_same (st : St) (d : Nat) (x : AV) : upd st d x d = x := by simp [upd]
theorem upd_ne (st : St) {d j : Nat} (x : AV) (h : d ≠ j) : upd st d x j = st j := by simp [upd, beq_false h]

theorem TR.put {σ : Hp} {N : Nat} {st : St} {a : Act} (h : TR σ N st a) (d : Option Nat) (hd : ∀ i, d = some i → i < N) {x : AV} {v : Value} (hv : VR σ x v) : TR σ N (updO st d x) (a.put d v) := by
  cases d with
  | none => exact h
  | some d =>
    refine ⟨h.defers, by simp [Act.put, h.size], fun i => ?_⟩
    by_cases e : d = i
    · subst e
      rw [show updO st (some d) x d = x from upd_same _ _ _]
      have hlt : d < a.tmps.size := by rw [h.size]; exact hd d rfl
      simp only [Act.put, Array.getD_eq_getD_getElem?, Array.getElem?_setIfInBounds, if_pos hlt, if_true]
      exact hv
    · rw [show updO st (some d) x i = st i from upd_ne _ _ e]
      simp only [Act.put, Array.getD_eq_getD_getElem?, Array.getElem?_setIfInBounds, if_neg e]
      have := h.vals i
      simpa only [Array.getD_eq_getD_getElem?] using this

/-! ### Operations -/

/-- What a run of an operation leaves. -/
def ARes (P : Program) (σ : Hp) (F : Fr) (K : AV → Own → Prop) : Result Next → Prop
  | .ok (.value v) w' => ∃ τ x L, σ.le τ ∧ HRel τ L F w' ∧ VR τ x v ∧ K x L
  | .ok .skip w' => ∃ τ x L, σ.le τ ∧ HRel τ L F w' ∧ VR τ x undef ∧ K x L
  | .ok (.enter f args) w' => Calls P f args w' fun e w'' => ∃ v, e = .returned v ∧ ∃ τ x L, σ.le τ ∧ HRel τ L F w'' ∧ VR τ x v ∧ K x L
  | _ => False

theorem ARes.mono {P : Program} {σ : Hp} {F : Fr} {K K' : AV → Own → Prop} (hk : ∀ x L, K x L → K' x L) {r : Result Next} (h : ARes P σ F K r) : ARes P σ F K' r := by
  cases r with
  | ok n w =>
    cases n <;> simp only [ARes] at h ⊢
    case value v => obtain ⟨τ, x, L, a, b, c, d⟩ := h; exact ⟨τ, x, L, a, b, c, hk _ _ d⟩
    case skip => obtain ⟨τ, x, L, a, b, c, d⟩ := h; exact ⟨τ, x, L, a, b, c, hk _ _ d⟩
    case enter f args => exact h.mono fun e w' ⟨v, hv, τ, x, L, a, b, c, d⟩ => ⟨v, hv, τ, x, L, a, b, c, hk _ _ d⟩
  | halt x w => exact h.elim

structure AOp (P : Program) (o : Oper) (K : AV → Own → Prop) (st : St) (L : Own) : Prop where
  out : ∀ (σ : Hp) (F : Fr) (w : World) (ρ : Operand → Value), HRel σ L F w → (∀ x ∈ o.op.operands, VR σ (ev st x) (ρ x)) → ARes P σ F K ((execOp ρ o).run P w)

theorem AOp.mono {P : Program} {o : Oper} {K K' : AV → Own → Prop} {st : St} {L : Own} (hk : ∀ x L, K x L → K' x L) (h : AOp P o K st L) : AOp P o K' st L :=
  ⟨fun σ F w ρ a b => (h.out σ F w ρ a b).mono hk⟩

/-- An operation that only looks: one tree, whatever the world. -/
structure AQ (P : Program) (o : Oper) (st : St) (L : Own) (x : AV) : Prop where
  out : ∀ (σ : Hp) (F : Fr) (w : World) (ρ : Operand → Value), HRel σ L F w → (∀ y ∈ o.op.operands, VR σ (ev st y) (ρ y)) → ∃ v, (execOp ρ o).run P w = .ok (.value v) w ∧ VR σ x v

theorem AQ.any {P : Program} {o : Oper} {st : St} {x : AV} (h : AQ P o st [] x) (L : Own) : AQ P o st L x :=
  ⟨fun σ F w ρ a b => h.out σ F w ρ (a.sub (List.nil_sublist _)) b⟩
theorem AQ.op {P : Program} {o : Oper} {st : St} {L : Own} {x : AV} (h : AQ P o st L x) {K : AV → Own → Prop} (hk : K x L) : AOp P o K st L :=
  ⟨fun σ F w ρ a b => by
    obtain ⟨v, hv, hx⟩ := h.out σ F w ρ a b
    rw [hv]
    exact ⟨σ, x, L, σ.le_refl, a, hx, hk⟩⟩

inductive Kd where
  | pure | read | eff
  deriving DecidableEq

def guardA (l : List Oper) (o : Oper) (st : St) : Option Bool :=
  match o.guard with
  | none => some true
  | some (j, want) =>
    match (l[j]?).bind (·.dst) with
    | none => some false
    | some d =>
      match st d with
      | .lit (.bool b) => some (b == want)
      | .lit (.tuple _) => some false
      | _ => none

theorem guardA_sound {l : List Oper} {o : Oper} {st : St} {σ : Hp} {N : Nat} {a : Act} {b : Bool} (h : guardA l o st = some b) (ht : TR σ N st a) : Region.wanted o (yielded l.toArray a.tmps) = b := by
  unfold guardA at h
  unfold Region.wanted
  cases hg : o.guard with
  | none => simp only [hg] at h ⊢; cases h; rfl
  | some gw =>
    obtain ⟨j, want⟩ := gw
    simp only [hg] at h ⊢
    unfold yielded
    rw [List.getElem?_toArray]
    cases hd : (l[j]?).bind (·.dst) with
    | none => simp only [hd] at h; cases h; simp
    | some d =>
      simp only [hd] at h
      simp only [Option.bind_some]
      have hv := ht.vals d
      rw [Array.getD_eq_getD_getElem?] at hv
      split at h
      · rename_i b' hb
        cases h
        rw [hb] at hv
        have := hv.lit_inv
        cases ht' : a.tmps[d]? with
        | none => rw [ht'] at this; simp [undef] at this
        | some u => rw [ht'] at this; simp at this; subst this; simp
      · rename_i c hb
        cases h
        rw [hb] at hv
        have := hv.lit_inv
        cases ht' : a.tmps[d]? with
        | none => simp
        | some u => rw [ht'] at this; simp at this; subst this; simp
      · cases h

/-- The operations of a region, one by one. -/
inductive AL (P : Program) (N : Nat) (ops : List Oper) (Q : St → Own → Prop) : List (Oper × Kd) → St → Own → Prop
  | nil {st : St} {L : Own} : Q st L → AL P N ops Q [] st L
  | skip {o : Oper} {k : Kd} {rest : List (Oper × Kd)} {st : St} {L : Own} : (∀ d, o.dst = some d → d < N) → guardA ops o st = some false →
      AL P N ops Q rest (updO st o.dst (.lit undef)) L → AL P N ops Q ((o, k) :: rest) st L
  | pure {o : Oper} {k : Kd} {rest : List (Oper × Kd)} {st : St} {L : Own} {x : AV} : (∀ d, o.dst = some d → d < N) → guardA ops o st = some true →
      AQ P o st [] x → AL P N ops Q rest (updO st o.dst x) L → AL P N ops Q ((o, k) :: rest) st L
  | read {o : Oper} {k : Kd} {rest : List (Oper × Kd)} {st : St} {L : Own} {x : AV} : (∀ d, o.dst = some d → d < N) → guardA ops o st = some true → k ≠ .pure →
      AQ P o st L x → AL P N ops Q rest (updO st o.dst x) L → AL P N ops Q ((o, k) :: rest) st L
  | eff {o : Oper} {rest : List (Oper × Kd)} {st : St} {L : Own} {K : AV → Own → Prop} : (∀ d, o.dst = some d → d < N) → guardA ops o st = some true →
      AOp P o K st L → (∀ x L', K x L' → AL P N ops Q rest (updO st o.dst x) L') → AL P N ops Q ((o, .eff) :: rest) st L

/-- What stands behind: some tree of the state, memory as before. -/
def Post (σ : Hp) (N : Nat) (F : Fr) (Q : Exit → St → Own → Prop) (e : Exit) (a : Act) (w : World) : Prop :=
  ∃ τ st L, σ.le τ ∧ HRel τ L F w ∧ TR τ N st a ∧ Q e st L

theorem Post.le {σ τ : Hp} {N : Nat} {F : Fr} {Q : Exit → St → Own → Prop} {e : Exit} {a : Act} {w : World} (h : σ.le τ) (k : Post τ N F Q e a w) : Post σ N F Q e a w := by
  obtain ⟨υ, st, L, a1, a2, a3, a4⟩ := k
  exact ⟨υ, st, L, Hp.le_trans h a1, a2, a3, a4⟩

/-- An operation's run, met by the frame. -/
theorem ARes.upon {P : Program} {σ : Hp} {N : Nat} {F : Fr} {K : AV → Own → Prop} {o : Oper} {a : Act} {st : St} {next : Act → World → Prop} {Q : Exit → Act → World → Prop}
    (hd : ∀ d, o.dst = some d → d < N) (ht : TR σ N st a)
    (hn : ∀ τ x L a' w', σ.le τ → HRel τ L F w' → TR τ N (updO st o.dst x) a' → K x L → next a' w') {r : Result Next} (h : ARes P σ F K r) : o.upon P a next Q r := by
  cases r with
  | ok n w =>
    cases n <;> simp only [ARes] at h <;> simp only [Oper.upon]
    case value v => obtain ⟨τ, x, L, a1, a2, a3, a4⟩ := h; exact hn τ x L _ _ a1 a2 ((ht.mono a1).put _ hd a3) a4
    case skip => obtain ⟨τ, x, L, a1, a2, a3, a4⟩ := h; exact hn τ x L _ _ a1 a2 ((ht.mono a1).put _ hd a3) a4
    case enter f args =>
      refine h.mono fun e w' ⟨v, hv, τ, x, L, a1, a2, a3, a4⟩ => ?_
      subst hv
      exact hn τ x L _ _ a1 a2 ((ht.mono a1).put _ hd a3) a4
  | halt x w => exact h.elim

theorem AOp.wp {P : Program} {σ : Hp} {N : Nat} {F : Fr} {K : AV → Own → Prop} {o : Oper} {a : Act} {st : St} {L : Own} {w : World} {next : Act → World → Prop} {Q : Exit → Act → World → Prop}
    (h : AOp P o K st L) (hd : ∀ d, o.dst = some d → d < N) (hr : HRel σ L F w) (ht : TR σ N st a)
    (hn : ∀ τ x L a' w', σ.le τ → HRel τ L F w' → TR τ N (updO st o.dst x) a' → K x L → next a' w') : o.wp P a w next Q :=
  (h.out σ F w a.eval hr (fun x _ => ht.eval x)).upon hd ht hn

/-! ### A region in the order of its text -/

theorem al_wpOps {P : Program} {N : Nat} {ops : List Oper} {Q : St → Own → Prop} {F : Fr} {Q' : Exit → Act → World → Prop} {l : List (Oper × Kd)} {st : St} {L : Own} (h : AL P N ops Q l st L) :
    ∀ (k : Nat) (σ : Hp) (a : Act) (w : World), (∀ j, (l.map Prod.fst)[j]? = ops[k + j]?) → HRel σ L F w → TR σ N st a →
      (∀ τ st' L' a' w', σ.le τ → HRel τ L' F w' → TR τ N st' a' → Q st' L' → Q' .normal a' w') → wpOps P ops.toArray Q' (List.range' k l.length) a w := by
  induction h with
  | nil hq => intro k σ a w _ hr ht hn; exact hn σ _ _ _ _ σ.le_refl hr ht hq
  | @skip o kd rest st L hd hg _ ih =>
    intro k σ a w hl hr ht hn
    have h0 : ops[k]? = some o := by have := hl 0; simpa using this.symm
    simp only [List.length_cons, List.range'_succ, wpOps_cons]
    unfold wpOp
    rw [List.getElem?_toArray, h0]
    simp only
    rw [guardA_sound hg ht]
    simp only [Bool.false_eq_true, if_false]
    exact ih (k + 1) σ _ w (fun j => by have := hl (j + 1); simpa [Nat.add_assoc, Nat.add_comm 1 j] using this) hr (ht.put _ hd (.lit _)) hn
  | @pure o kd rest st L x hd hg hq _ ih =>
    intro k σ a w hl hr ht hn
    have h0 : ops[k]? = some o := by have := hl 0; simpa using this.symm
    simp only [List.length_cons, List.range'_succ, wpOps_cons]
    unfold wpOp
    rw [List.getElem?_toArray, h0]
    simp only
    rw [guardA_sound hg ht]
    simp only [if_true]
    refine .inl (((hq.any L).op (K := fun y M => y = x ∧ M = L) ⟨rfl, rfl⟩).wp hd hr ht ?_)
    rintro τ y M a' w' h1 h2 h3 ⟨rfl, rfl⟩
    exact ih (k + 1) τ _ w' (fun j => by have := hl (j + 1); simpa [Nat.add_assoc, Nat.add_comm 1 j] using this) h2 h3 (fun υ st' L' a' w' q => hn υ st' L' a' w' (Hp.le_trans h1 q))
  | @read o kd rest st L x hd hg _ hq _ ih =>
    intro k σ a w hl hr ht hn
    have h0 : ops[k]? = some o := by have := hl 0; simpa using this.symm
    simp only [List.length_cons, List.range'_succ, wpOps_cons]
    unfold wpOp
    rw [List.getElem?_toArray, h0]
    simp only
    rw [guardA_sound hg ht]
    simp only [if_true]
    refine .inl ((hq.op (K := fun y M => y = x ∧ M = L) ⟨rfl, rfl⟩).wp hd hr ht ?_)
    rintro τ y M a' w' h1 h2 h3 ⟨rfl, rfl⟩
    exact ih (k + 1) τ _ w' (fun j => by have := hl (j + 1); simpa [Nat.add_assoc, Nat.add_comm 1 j] using this) h2 h3 (fun υ st' L' a' w' q => hn υ st' L' a' w' (Hp.le_trans h1 q))
  | @eff o rest st L K hd hg hop _ ih =>
    intro k σ a w hl hr ht hn
    have h0 : ops[k]? = some o := by have := hl 0; simpa using this.symm
    simp only [List.length_cons, List.range'_succ, wpOps_cons]
    unfold wpOp
    rw [List.getElem?_toArray, h0]
    simp only
    rw [guardA_sound hg ht]
    simp only [if_true]
    refine .inl (hop.wp hd hr ht ?_)
    intro τ y M a' w' h1 h2 h3 hK
    exact ih y M hK (k + 1) τ _ w' (fun j => by have := hl (j + 1); simpa [Nat.add_assoc, Nat.add_comm 1 j] using this) h2 h3 (fun υ st' L' a' w' q => hn υ st' L' a' w' (Hp.le_trans h1 q))

/-! ### A region in every order -/

section any
variable {P : Program} {N : Nat} {ops : List Oper}

def AK (P : Program) (N : Nat) (ops : List Oper) (k : Kd) (o : Oper) (K : St → Own → Prop) (st : St) (L : Own) : Prop :=
  (∀ d, o.dst = some d → d < N) ∧
  ((guardA ops o st = some false ∧ K (updO st o.dst (.lit undef)) L) ∨
   (guardA ops o st = some true ∧
    match k with
    | .eff => AOp P o (fun x L' => K (updO st o.dst x) L') st L
    | .read => ∃ x, AQ P o st L x ∧ K (updO st o.dst x) L
    | .pure => ∃ x, AQ P o st [] x ∧ K (updO st o.dst x) L))

theorem AK.mono {k : Kd} {o : Oper} {K K' : St → Own → Prop} {st : St} {L : Own} (hk : ∀ st L, K st L → K' st L) (h : AK P N ops k o K st L) : AK P N ops k o K' st L := by
  obtain ⟨hd, h⟩ := h
  refine ⟨hd, ?_⟩
  rcases h with ⟨hg, h⟩ | ⟨hg, h⟩
  · exact .inl ⟨hg, hk _ _ h⟩
  · refine .inr ⟨hg, ?_⟩
    cases k with
    | eff => exact AOp.mono (fun x L' => hk _ _) h
    | read => obtain ⟨x, hx, h⟩ := h; exact ⟨x, hx, hk _ _ h⟩
    | pure => obtain ⟨x, hx, h⟩ := h; exact ⟨x, hx, hk _ _ h⟩

/-- What a quiet operation yields, here. -/
def YA (P : Program) (ops : List Oper) (k : Kd) (o : Oper) (x : AV) (st : St) (L : Own) : Prop :=
  (guardA ops o st = some true ∧ AQ P o st (match k with | .pure => [] | _ => L) x) ∨ (guardA ops o st = some false ∧ x = .lit undef)

def AAny (P : Program) (N : Nat) (ops : List Oper) (ks : List Kd) (Q : St → Own → Prop) : Nat → Array Bool → St → Own → Prop
  | 0, listed, st, L => Region.ready .any ops.toArray listed = [] ∧ Q st L
  | fuel + 1, listed, st, L =>
    (Region.ready .any ops.toArray listed = [] → Q st L) ∧
    ∀ i ∈ Region.ready .any ops.toArray listed, ∀ o, ops[i]? = some o → AK P N ops (ks.getD i .eff) o (AAny P N ops ks Q fuel (listed.setIfInBounds i true)) st L

theorem upd_comm (st : St) {d e : Nat} (x y : AV) (h : d ≠ e) : upd (upd st d x) e y = upd (upd st e y) d x := by
  funext j
  by_cases h1 : e = j
  · subst h1; rw [upd_same, upd_ne _ _ h, upd_same]
  · by_cases h2 : d = j
    · subst h2; rw [upd_ne _ _ h1, upd_same, upd_same]
    · rw [upd_ne _ _ h1, upd_ne _ _ h2, upd_ne _ _ h2, upd_ne _ _ h1]
theorem updO_comm (st : St) {d e : Option Nat} (x y : AV) (h : ∀ i, d = some i → e ≠ some i) : updO (updO st d x) e y = updO (updO st e y) d x := by
  cases d with
  | none => rfl
  | some d =>
    cases e with
    | none => rfl
    | some e => exact upd_comm st x y (fun he => h d rfl (by rw [he]))

theorem ev_updO {st : St} {d : Option Nat} {x : AV} {y : Operand} (h : ∀ i, d = some i → y ≠ .tmp i) : ev (updO st d x) y = ev st y := by
  cases d with
  | none => rfl
  | some d =>
    cases y with
    | tmp t => exact upd_ne _ _ (fun e => h d rfl (by rw [e]))
    | _ => rfl

theorem ev_looks {o : Oper} {st : St} {d : Option Nat} {x : AV} (h : ∀ i, d = some i → i ∉ o.looksAt ops.toArray) (y : Operand) (hy : y ∈ o.op.operands) : ev (updO st d x) y = ev st y :=
  ev_updO fun i hi e => h i hi (by subst e; exact List.mem_append_left _ (List.mem_filterMap.2 ⟨.tmp i, by simpa using hy, rfl⟩))

theorem guardA_updO {o : Oper} {st : St} {d : Option Nat} {x : AV} (h : ∀ i, d = some i → i ∉ o.looksAt ops.toArray) : guardA ops o (updO st d x) = guardA ops o st := by
  cases d with
  | none => rfl
  | some d =>
    unfold guardA
    cases hg : o.guard with
    | none => rfl
    | some gw =>
      obtain ⟨g, want⟩ := gw
      simp only
      cases ht : (ops[g]?).bind (·.dst) with
      | none => rfl
      | some t =>
        have hne : d ≠ t := fun e => h d rfl (by subst e; simp [Oper.looksAt, hg, List.getElem?_toArray, ht])
        have e : updO st (some d) x t = st t := upd_ne _ _ hne
        simp only [e]

theorem AQ.updO {o : Oper} {st : St} {L : Own} {d : Option Nat} {x y : AV} (h : ∀ i, d = some i → i ∉ o.looksAt ops.toArray) : AQ P o (updO st d x) L y ↔ AQ P o st L y := by
  constructor
  · intro k
    exact ⟨fun σ F w ρ a b => k.out σ F w ρ a (fun z hz => by rw [ev_looks h z hz]; exact b z hz)⟩
  · intro k
    exact ⟨fun σ F w ρ a b => k.out σ F w ρ a (fun z hz => by have := b z hz; rw [ev_looks h z hz] at this; exact this)⟩
theorem AOp.updO {o : Oper} {st : St} {L : Own} {d : Option Nat} {x : AV} {K : AV → Own → Prop} (h : ∀ i, d = some i → i ∉ o.looksAt ops.toArray) : AOp P o K (updO st d x) L ↔ AOp P o K st L := by
  constructor
  · intro k
    exact ⟨fun σ F w ρ a b => k.out σ F w ρ a (fun z hz => by rw [ev_looks h z hz]; exact b z hz)⟩
  · intro k
    exact ⟨fun σ F w ρ a b => k.out σ F w ρ a (fun z hz => by have := b z hz; rw [ev_looks h z hz] at this; exact this)⟩

/-- An operation apart from a quiet one: which of the two comes first makes no difference. -/
theorem AK_put {ki kj : Kd} {oi oj : Oper} {x : AV} (hap : oi.apart ops.toArray oj = true) (hik : ki = .pure ∨ kj ≠ .eff) {K : St → Own → Prop} {st : St} {L : Own}
    (hy : YA P ops ki oi x st L) (h : AK P N ops kj oj K (updO st oi.dst x) L) :
    AK P N ops kj oj (fun st' L' => YA P ops ki oi x st' L' ∧ K (updO st' oi.dst x) L') st L := by
  obtain ⟨h1, h2, h3⟩ := Oper.apart_spec hap
  have keep : ∀ (u : AV) (L' : Own), (ki = .pure ∨ L' = L) → YA P ops ki oi x (updO st oj.dst u) L' := by
    intro u L' hL
    unfold YA at hy ⊢
    rw [guardA_updO h3]
    rcases hy with ⟨hg, hq⟩ | hy
    · refine .inl ⟨hg, ?_⟩
      rcases hL with rfl | rfl
      · exact (AQ.updO h3).2 hq
      · exact (AQ.updO h3).2 hq
    · exact .inr hy
  have hc : ∀ u, updO (updO st oi.dst x) oj.dst u = updO (updO st oj.dst u) oi.dst x := fun u => updO_comm st x u h2
  obtain ⟨hd, h⟩ := h
  refine ⟨hd, ?_⟩
  rw [guardA_updO h1] at h
  rcases h with ⟨hg, h⟩ | ⟨hg, h⟩
  · exact .inl ⟨hg, keep _ _ (.inr rfl), by rw [← hc]; exact h⟩
  · refine .inr ⟨hg, ?_⟩
    cases kj with
    | eff =>
      have hp : ki = .pure := hik.resolve_right (by simp)
      exact ((AOp.updO h1).1 h).mono fun u L' hu => ⟨keep _ _ (.inl hp), by rw [← hc]; exact hu⟩
    | read =>
      obtain ⟨u, hu, h⟩ := h
      exact ⟨u, (AQ.updO h1).1 hu, keep _ _ (.inr rfl), by rw [← hc]; exact h⟩
    | pure =>
      obtain ⟨u, hu, h⟩ := h
      exact ⟨u, (AQ.updO h1).1 hu, keep _ _ (.inr rfl), by rw [← hc]; exact h⟩

theorem YA.ak {k : Kd} {o : Oper} {x : AV} {st : St} {L : Own} (hk : k ≠ .eff) (hd : ∀ d, o.dst = some d → d < N) (hy : YA P ops k o x st L) {K : St → Own → Prop} (h : K (updO st o.dst x) L) : AK P N ops k o K st L := by
  refine ⟨hd, ?_⟩
  rcases hy with ⟨hg, hq⟩ | ⟨hg, rfl⟩
  · refine .inr ⟨hg, ?_⟩
    cases k with
    | eff => exact absurd rfl hk
    | read => exact ⟨x, hq, h⟩
    | pure => exact ⟨x, hq, h⟩
  · exact .inl ⟨hg, h⟩

/-- A quiet operation that may come up now may be taken first. -/
theorem AAny_first {ks : List Kd} {Q : St → Own → Prop} {i : Nat} {oi : Oper} {x : AV} (hi : ops[i]? = some oi) (hki : ks.getD i .eff ≠ .eff) (hd : ∀ d, oi.dst = some d → d < N) :
    ∀ (fuel : Nat) (listed : Array Bool) (st : St) (L : Own),
      (∀ j oj, ops[j]? = some oj → j ≠ i → listed.getD j true = false → (∀ e ∈ oj.after, Region.binds .any e = true → e.on ≠ i) → oi.apart ops.toArray oj = true ∧ (ks.getD i .eff = .pure ∨ ks.getD j .eff ≠ .eff)) →
      i ∈ Region.ready .any ops.toArray listed → YA P ops (ks.getD i .eff) oi x st L →
      AAny P N ops ks Q fuel (listed.setIfInBounds i true) (updO st oi.dst x) L → AAny P N ops ks Q (fuel + 1) listed st L := by
  intro fuel
  induction fuel with
  | zero =>
    intro listed st L _ hr hy H
    refine ⟨fun h => (by rw [h] at hr; cases hr), fun j hj oj hoj => ?_⟩
    by_cases hji : j = i
    · subst hji; rw [hi] at hoj; cases hoj; exact hy.ak hki hd H
    · have := ready_mono hj hji
      rw [H.1] at this
      cases this
  | succ fuel ih =>
    intro listed st L hfree hr hy H
    refine ⟨fun h => (by rw [h] at hr; cases hr), fun j hj oj hoj => ?_⟩
    by_cases hji : j = i
    · subst hji; rw [hi] at hoj; cases hoj; exact hy.ak hki hd H
    · have h1 := H.2 j (ready_mono hj hji) oj hoj
      obtain ⟨hjun, oj', hoj', hall⟩ := mem_ready.1 hj
      rw [List.getElem?_toArray, hoj] at hoj'
      cases hoj'
      have hnot : ∀ e ∈ oj.after, Region.binds .any e = true → e.on ≠ i := fun e he hb heq => by
        have h1 := hall e he hb
        have h0 := (mem_ready.1 hr).1
        rw [heq] at h1
        rcases Nat.lt_or_ge i listed.size with h' | h'
        · simp [h'] at h0 h1; rw [h0] at h1; cases h1
        · simp [Array.getElem?_eq_none h'] at h1
      obtain ⟨hap, hkk⟩ := hfree j oj hoj hji hjun hnot
      have h2 := AK_put hap hkk hy h1
      have hfree' : ∀ k ok, ops[k]? = some ok → k ≠ i → (listed.setIfInBounds j true).getD k true = false →
          (∀ e ∈ ok.after, Region.binds .any e = true → e.on ≠ i) → oi.apart ops.toArray ok = true ∧ (ks.getD i .eff = .pure ∨ ks.getD k .eff ≠ .eff) := fun k ok hk hki hun hno => by
        refine hfree k ok hk hki ?_ hno
        by_cases hjk : j = k
        · subst hjk; exact hjun
        · rw [getD_set_ne true hjk] at hun; exact hun
      refine AK.mono (fun st' L' h3 => ih (listed.setIfInBounds j true) st' L' hfree' (ready_mono hr (Ne.symm hji)) h3.1 ?_) h2
      rw [Array.setIfInBounds_comm _ _ hji]
      exact h3.2

/-- Whether the order of the text serves every order: a quiet operation is ready, and every other one waits for it or is apart from it; any other operation is the only one that is ready. -/
def chk (ops : Array Oper) (ks : List Kd) : Nat → Nat → Array Bool → Bool
  | 0, _, listed => (Region.ready .any ops listed).isEmpty
  | fuel + 1, k, listed =>
    (match ks.getD k .eff with
      | .pure => (Region.ready .any ops listed).contains k && Region.free .any ops listed k
      | .read => (Region.ready .any ops listed).contains k && Region.free .any ops listed k &&
          (List.range ops.size).all fun j => j == k || listed.getD j true || ks.getD j .eff != .eff || (match ops[j]? with
            | some oj => oj.after.any (fun e => Region.binds .any e && e.on == k)
            | none => true)
      | .eff => Region.ready .any ops listed == [k]) &&
    chk ops ks fuel (k + 1) (listed.setIfInBounds k true)

theorem AAny_lex {ks : List Kd} {Q : St → Own → Prop} {l : List (Oper × Kd)} {st : St} {L : Own} (h : AL P N ops Q l st L) :
    ∀ (k : Nat) (listed : Array Bool), (∀ j, (l.map Prod.fst)[j]? = ops[k + j]?) → (∀ (j : Nat) (p : Oper × Kd), l[j]? = some p → p.2 = ks.getD (k + j) .eff) →
      chk ops.toArray ks l.length k listed = true → AAny P N ops ks Q l.length listed st L := by
  have quiet : ∀ {o : Oper} {kd : Kd} {rest : List (Oper × Kd)} {st : St} {L : Own} {x : AV} (k : Nat) (listed : Array Bool), (∀ d, o.dst = some d → d < N) → ops[k]? = some o → ks.getD k .eff ≠ .eff →
      YA P ops (ks.getD k .eff) o x st L → (match ks.getD k .eff with
      | .pure => (Region.ready .any ops.toArray listed).contains k && Region.free .any ops.toArray listed k
      | .read => (Region.ready .any ops.toArray listed).contains k && Region.free .any ops.toArray listed k &&
          (List.range ops.toArray.size).all fun j => j == k || listed.getD j true || ks.getD j .eff != .eff || (match ops.toArray[j]? with
            | some oj => oj.after.any (fun e => Region.binds .any e && e.on == k)
            | none => true)
      | .eff => Region.ready .any ops.toArray listed == [k]) = true →
      AAny P N ops ks Q rest.length (listed.setIfInBounds k true) (updO st o.dst x) L → AAny P N ops ks Q (rest.length + 1) listed st L := by
    intro o kd rest st L x k listed hd h0 hne hy hc H
    cases hk : ks.getD k .eff with
    | eff => exact absurd hk hne
    | pure =>
      simp only [hk, Bool.and_eq_true] at hc
      refine AAny_first h0 hne hd rest.length listed st L (fun j oj hj hjk hun hno => ⟨?_, .inl hk⟩) (by simpa using hc.1) hy H
      exact Region.free_spec (ops := ops.toArray) (by rw [List.getElem?_toArray]; exact h0) hc.2 j oj (by rw [List.getElem?_toArray]; exact hj) hjk hun hno
    | read =>
      simp only [hk, Bool.and_eq_true] at hc
      refine AAny_first h0 hne hd rest.length listed st L (fun j oj hj hjk hun hno => ⟨?_, .inr ?_⟩) (by simpa using hc.1.1) hy H
      · exact Region.free_spec (ops := ops.toArray) (by rw [List.getElem?_toArray]; exact h0) hc.1.2 j oj (by rw [List.getElem?_toArray]; exact hj) hjk hun hno
      · have h3 := List.all_eq_true.1 hc.2 j (List.mem_range.2 (by
          have := (List.getElem?_eq_some_iff.1 hj).1; simpa using this))
        simp only [List.getElem?_toArray, hj, Bool.or_eq_true, beq_iff_eq, hjk, false_or, hun, Bool.false_eq_true, bne_iff_ne] at h3
        rcases h3 with h3 | h3
        · exact h3
        · obtain ⟨e, he, hb⟩ := Array.any_eq_true'.1 h3
          simp only [Bool.and_eq_true, beq_iff_eq] at hb
          exact absurd hb.2 (hno e he hb.1)
  induction h with
  | nil hq =>
    intro k listed _ _ hc
    exact ⟨by simpa [chk] using hc, hq⟩
  | @skip o kd rest st L hd hg _ ih =>
    intro k listed hl hk hc
    have h0 : ops[k]? = some o := by have := hl 0; simpa using this.symm
    have hk0 : kd = ks.getD k .eff := by have := hk 0 (o, kd) rfl; simpa using this
    simp only [List.length_cons, chk, Bool.and_eq_true] at hc
    have H := ih (k + 1) (listed.setIfInBounds k true) (fun j => by have := hl (j + 1); simpa [Nat.add_assoc, Nat.add_comm 1 j] using this)
      (fun j p hp => by have := hk (j + 1) p (by simpa using hp); simpa [Nat.add_assoc, Nat.add_comm 1 j] using this) hc.2
    by_cases he : ks.getD k .eff = .eff
    · refine ⟨fun h => ?_, fun i hi oi hoi => ?_⟩
      · simp only [he] at hc; rw [h] at hc; simp at hc
      · simp only [he] at hc
        have hr : Region.ready .any ops.toArray listed = [k] := by simpa using hc.1
        rw [hr] at hi
        have hik : i = k := by simpa using hi
        subst hik
        rw [h0] at hoi; cases hoi
        exact ⟨hd, .inl ⟨hg, H⟩⟩
    · exact quiet (kd := kd) k listed hd h0 he (.inr ⟨hg, rfl⟩) hc.1 H
  | @pure o kd rest st L x hd hg hq _ ih =>
    intro k listed hl hk hc
    have h0 : ops[k]? = some o := by have := hl 0; simpa using this.symm
    simp only [List.length_cons, chk, Bool.and_eq_true] at hc
    have H := ih (k + 1) (listed.setIfInBounds k true) (fun j => by have := hl (j + 1); simpa [Nat.add_assoc, Nat.add_comm 1 j] using this)
      (fun j p hp => by have := hk (j + 1) p (by simpa using hp); simpa [Nat.add_assoc, Nat.add_comm 1 j] using this) hc.2
    by_cases he : ks.getD k .eff = .eff
    · refine ⟨fun h => ?_, fun i hi oi hoi => ?_⟩
      · simp only [he] at hc; rw [h] at hc; simp at hc
      · simp only [he] at hc
        have hr : Region.ready .any ops.toArray listed = [k] := by simpa using hc.1
        rw [hr] at hi
        have hik : i = k := by simpa using hi
        subst hik
        rw [h0] at hoi; cases hoi
        refine ⟨hd, .inr ⟨hg, ?_⟩⟩
        rw [he]
        exact (hq.any L).op H
    · refine quiet (kd := kd) k listed hd h0 he (.inl ⟨hg, ?_⟩) hc.1 H
      cases hk' : ks.getD k .eff <;> first | exact hq | exact hq.any L
  | @read o kd rest st L x hd hg hne hq _ ih =>
    intro k listed hl hk hc
    have h0 : ops[k]? = some o := by have := hl 0; simpa using this.symm
    have hk0 : kd = ks.getD k .eff := by have := hk 0 (o, kd) rfl; simpa using this
    simp only [List.length_cons, chk, Bool.and_eq_true] at hc
    have H := ih (k + 1) (listed.setIfInBounds k true) (fun j => by have := hl (j + 1); simpa [Nat.add_assoc, Nat.add_comm 1 j] using this)
      (fun j p hp => by have := hk (j + 1) p (by simpa using hp); simpa [Nat.add_assoc, Nat.add_comm 1 j] using this) hc.2
    by_cases he : ks.getD k .eff = .eff
    · refine ⟨fun h => ?_, fun i hi oi hoi => ?_⟩
      · simp only [he] at hc; rw [h] at hc; simp at hc
      · simp only [he] at hc
        have hr : Region.ready .any ops.toArray listed = [k] := by simpa using hc.1
        rw [hr] at hi
        have hik : i = k := by simpa using hi
        subst hik
        rw [h0] at hoi; cases hoi
        refine ⟨hd, .inr ⟨hg, ?_⟩⟩
        rw [he]
        exact hq.op H
    · refine quiet (kd := kd) k listed hd h0 he (.inl ⟨hg, ?_⟩) hc.1 H
      rw [hk0] at hne
      cases hk' : ks.getD k .eff with
      | pure => exact absurd hk' hne
      | eff => exact absurd hk' he
      | read => exact hq
  | @eff o rest st L K hd hg hop _ ih =>
    intro k listed hl hk hc
    have h0 : ops[k]? = some o := by have := hl 0; simpa using this.symm
    have hk0 : Kd.eff = ks.getD k .eff := by have := hk 0 (o, .eff) rfl; simpa using this
    simp only [List.length_cons, chk, Bool.and_eq_true, ← hk0] at hc
    have hr : Region.ready .any ops.toArray listed = [k] := by simpa using hc.1
    refine ⟨fun h => ?_, fun i hi oi hoi => ?_⟩
    · rw [h] at hr; cases hr
    · rw [hr] at hi
      have hik : i = k := by simpa using hi
      subst hik
      rw [h0] at hoi; cases hoi
      refine ⟨hd, .inr ⟨hg, ?_⟩⟩
      rw [← hk0]
      refine hop.mono fun x L' hK => ?_
      exact ih x L' hK (i + 1) (listed.setIfInBounds i true) (fun j => by have := hl (j + 1); simpa [Nat.add_assoc, Nat.add_comm 1 j] using this)
        (fun j p hp => by have := hk (j + 1) p (by simpa using hp); simpa [Nat.add_assoc, Nat.add_comm 1 j] using this) hc.2

theorem AAny_wp {ks : List Kd} {Q : St → Own → Prop} {F : Fr} {Q' : Exit → Act → World → Prop} : ∀ (fuel : Nat) (listed : Array Bool) (st : St) (L : Own) (σ : Hp) (a : Act) (w : World),
    AAny P N ops ks Q fuel listed st L → HRel σ L F w → TR σ N st a →
    (∀ τ st' L' a' w', σ.le τ → HRel τ L' F w' → TR τ N st' a' → Q st' L' → Q' .normal a' w') → wpAny P .any ops.toArray Q' fuel listed a w
  | 0, _, st, L, σ, a, w, h, hr, ht, hn => ⟨h.1, hn σ st L a w σ.le_refl hr ht h.2⟩
  | fuel + 1, listed, st, L, σ, a, w, h, hr, ht, hn => by
    refine ⟨fun he => hn σ st L a w σ.le_refl hr ht (h.1 he), fun i hi => ?_⟩
    obtain ⟨_, o, ho, _⟩ := mem_ready.1 hi
    rw [List.getElem?_toArray] at ho
    obtain ⟨hd, hk⟩ := h.2 i hi o ho
    have next : ∀ τ st' L' a' w', σ.le τ → HRel τ L' F w' → TR τ N st' a' → AAny P N ops ks Q fuel (listed.setIfInBounds i true) st' L' → wpAny P .any ops.toArray Q' fuel (listed.setIfInBounds i true) a' w' :=
      fun τ st' L' a' w' h1 h2 h3 h4 => AAny_wp fuel _ st' L' τ a' w' h4 h2 h3 (fun υ st'' L'' a'' w'' q => hn υ st'' L'' a'' w'' (Hp.le_trans h1 q))
    unfold wpOp
    rw [List.getElem?_toArray, ho]
    simp only
    rcases hk with ⟨hg, hk⟩ | ⟨hg, hk⟩
    · rw [guardA_sound hg ht]
      simp only [Bool.false_eq_true, if_false]
      exact next σ _ _ _ _ σ.le_refl hr (ht.put _ hd (.lit _)) hk
    · rw [guardA_sound hg ht]
      simp only [if_true]
      refine .inl ?_
      cases hkk : ks.getD i .eff with
      | eff =>
        rw [hkk] at hk
        exact AOp.wp hk hd hr ht fun τ x L' a' w' h1 h2 h3 h4 => next τ _ _ _ _ h1 h2 h3 h4
      | read =>
        rw [hkk] at hk
        obtain ⟨x, hx, hk⟩ := hk
        exact AOp.wp (hx.op (K := fun y M => y = x ∧ M = L) ⟨rfl, rfl⟩) hd hr ht fun τ y M a' w' h1 h2 h3 ⟨e1, e2⟩ => next τ _ _ _ _ h1 h2 h3 (by rw [e1, e2]; exact hk)
      | pure =>
        rw [hkk] at hk
        obtain ⟨x, hx, hk⟩ := hk
        exact AOp.wp ((hx.any L).op (K := fun y M => y = x ∧ M = L) ⟨rfl, rfl⟩) hd hr ht fun τ y M a' w' h1 h2 h3 ⟨e1, e2⟩ => next τ _ _ _ _ h1 h2 h3 (by rw [e1, e2]; exact hk)

end any

/-! ### Code -/

structure AWp (P : Program) (N : Nat) (c : Code) (Q : Exit → St → Own → Prop) (st : St) (L : Own) : Prop where
  out : ∀ (σ : Hp) (F : Fr) (w : World) (a : Act), HRel σ L F w → TR σ N st a → c.wp P (Post σ N F Q) a w

def thenA (K : St → Own → Prop) (Q : Exit → St → Own → Prop) : Exit → St → Own → Prop
  | .normal, st, L => K st L
  | e, st, L => Q e st L
def blockA (id : Nat) (Q : Exit → St → Own → Prop) : Exit → St → Own → Prop
  | .exit i, st, L => bif Nat.beq i id then Q .normal st L else Q (.exit i) st L
  | e, st, L => Q e st L

section code
variable {P : Program} {N : Nat} {Q : Exit → St → Own → Prop} {st : St} {L : Own}

theorem AWp.mono {c : Code} {Q' : Exit → St → Own → Prop} (h : AWp P N c Q st L) (hq : ∀ e st L, Q e st L → Q' e st L) : AWp P N c Q' st L :=
  ⟨fun σ F w a hr ht => wp_mono (h.out σ F w a hr ht) fun e a w ⟨τ, st', L', a1, a2, a3, a4⟩ => ⟨τ, st', L', a1, a2, a3, hq _ _ _ a4⟩⟩

theorem a_skip (h : Q .normal st L) : AWp P N .skip Q st L := ⟨fun σ F w a hr ht => wp_skip ⟨σ, st, L, σ.le_refl, hr, ht, h⟩⟩
theorem a_label {l : Nat} (h : Q .normal st L) : AWp P N (.label l) Q st L := ⟨fun σ F w a hr ht => wp_label ⟨σ, st, L, σ.le_refl, hr, ht, h⟩⟩
theorem a_exit {id : Nat} (h : Q (.exit id) st L) : AWp P N (.exit id) Q st L := ⟨fun σ F w a hr ht => wp_exit ⟨σ, st, L, σ.le_refl, hr, ht, h⟩⟩
theorem a_ret (h : Q .ret st L) : AWp P N .ret Q st L := ⟨fun σ F w a hr ht => wp_ret ⟨σ, st, L, σ.le_refl, hr, ht, h⟩⟩
theorem a_seq {x y : Code} (h : AWp P N x (thenA (AWp P N y Q) Q) st L) : AWp P N (.seq x y) Q st L :=
  ⟨fun σ F w a hr ht => wp_seq (wp_mono (h.out σ F w a hr ht) fun e a w hp => by
    obtain ⟨τ, st', L', a1, a2, a3, a4⟩ := hp
    cases e with
    | normal => exact wp_mono (a4.out τ F w a a2 a3) fun e a w k => k.le a1
    | exit id => exact ⟨τ, st', L', a1, a2, a3, a4⟩
    | goto l => exact ⟨τ, st', L', a1, a2, a3, a4⟩
    | ret => exact ⟨τ, st', L', a1, a2, a3, a4⟩
    | panic ch => exact ⟨τ, st', L', a1, a2, a3, a4⟩
    | outgrown => exact ⟨τ, st', L', a1, a2, a3, a4⟩)⟩
theorem a_condT {c : Operand} {x y : Code} (hc : ev st c = .lit (.bool true)) (h : AWp P N x Q st L) : AWp P N (.cond c x y) Q st L :=
  ⟨fun σ F w a hr ht => wp_cond_true (by have := ht.eval c; rw [hc] at this; exact this.lit_inv) (h.out σ F w a hr ht)⟩
theorem a_condF {c : Operand} {x y : Code} (hc : ev st c = .lit (.bool false)) (h : AWp P N y Q st L) : AWp P N (.cond c x y) Q st L :=
  ⟨fun σ F w a hr ht => wp_cond_false (by have := ht.eval c; rw [hc] at this; exact this.lit_inv) (h.out σ F w a hr ht)⟩
theorem a_block {id : Nat} {c : Code} (h : AWp P N c (blockA id Q) st L) : AWp P N (.block id c) Q st L :=
  ⟨fun σ F w a hr ht => wp_block (wp_mono (h.out σ F w a hr ht) fun e a w hp => by
    obtain ⟨τ, st', L', a1, a2, a3, a4⟩ := hp
    cases e with
    | exit i =>
      by_cases hi : i = id
      · subst hi
        simp only [Exit.inBlock, if_true]
        exact ⟨τ, st', L', a1, a2, a3, by simpa [blockA] using a4⟩
      · simp only [Exit.inBlock, if_neg hi]
        exact ⟨τ, st', L', a1, a2, a3, by simpa [blockA, beq_false hi] using a4⟩
    | normal => exact ⟨τ, st', L', a1, a2, a3, a4⟩
    | goto l => exact ⟨τ, st', L', a1, a2, a3, a4⟩
    | ret => exact ⟨τ, st', L', a1, a2, a3, a4⟩
    | panic ch => exact ⟨τ, st', L', a1, a2, a3, a4⟩
    | outgrown => exact ⟨τ, st', L', a1, a2, a3, a4⟩)⟩

theorem a_reg {id : Nat} {l : List Oper} (h : AL P N l (fun st' L' => Q .normal st' L') (l.map fun o => (o, Kd.eff)) st L) : AWp P N (.region id l.toArray false) Q st L :=
  ⟨fun σ F w a hr ht => wp_region (by
    have := al_wpOps (F := F) (Q' := Post σ N F Q) h 0 σ a w (fun j => by rw [List.map_map, show (Prod.fst ∘ fun o : Oper => (o, Kd.eff)) = _root_.id from rfl, List.map_id]; simp) hr ht (fun τ st' L' a' w' a1 a2 a3 a4 => ⟨τ, st', L', a1, a2, a3, a4⟩)
    rw [List.length_map] at this
    rw [List.size_toArray, List.range_eq_range']
    exact this)⟩
theorem a_regD {id : Nat} {l : List Oper} (ks : List Kd) (hm : P.follows .mixedOrders = true) (hk : ks.length = l.length) (hc : chk l.toArray ks l.length 0 (Array.replicate l.length false) = true)
    (h : AL P N l (fun st' L' => Q .normal st' L') (l.zip ks) st L) : AWp P N (.region id l.toArray true) Q st L :=
  ⟨fun σ F w a hr ht => wp_region_any hm (by
    have hlen : (l.zip ks).length = l.length := by simp [hk]
    have h1 := AAny_lex (ks := ks) h 0 (Array.replicate l.length false) (fun j => by rw [List.map_fst_zip (by omega)]; simp) (fun j p hp => by
      obtain ⟨a, b⟩ := p
      have := List.getElem?_zip_eq_some.1 hp
      simp [List.getD_eq_getElem?_getD, this.2]) (by rw [hlen]; exact hc)
    rw [hlen] at h1
    have := AAny_wp (F := F) (Q' := Post σ N F Q) l.length _ st L σ a { w with drawn := w.drawn + 1 } h1 (hr.grow (fun _ _ => rfl) rfl rfl) ht (fun τ st' L' a' w' a1 a2 a3 a4 => ⟨τ, st', L', a1, a2, a3, a4⟩)
    simpa using this)⟩

/-- The kind of an operation, where rows that it reads never change. -/
def kdOf : Op → Kd
  | .alloc _ | .box _ _ | .buildSlice _ _ _ | .insert _ _ _ _ | .store _ _ _ | .makeMap _ _ | .makeSlice _ _ _ | .mapUpdate _ _ _ _ | .mapEntry _ _ _ | .entryStore _ _ _ _ => .eff
  | .call { callee := .builtin .len, .. } | .call { callee := .builtin .min, .. } | .call { callee := .builtin .max, .. } => .pure
  | .call _ => .eff
  | _ => .pure
/-- The same where it reads what is owned. -/
def kdOfR (o : Op) : Kd := match kdOf o, o with
  | .eff, _ => .eff
  | _, .load _ _ | _, .indexAddr _ _ _ | _, .call _ | _, .lookup _ _ _ _ => .read
  | _, _ => .pure
theorem map_zip (l : List Oper) (f : Op → Kd) : l.zip (l.map fun o => f o.op) = l.map fun o => (o, f o.op) := by
  induction l with
  | nil => rfl
  | cons o l ih => simp only [List.map_cons, List.zip_cons_cons, ih]
theorem a_regP {id : Nat} {l : List Oper} (hm : P.follows .mixedOrders = true) (hc : chk l.toArray (l.map fun o => kdOf o.op) l.length 0 (Array.replicate l.length false) = true)
    (h : AL P N l (fun st' L' => Q .normal st' L') (l.map fun o => (o, kdOf o.op)) st L) : AWp P N (.region id l.toArray true) Q st L :=
  a_regD _ hm (by simp) hc (by rw [map_zip]; exact h)
theorem a_regR {id : Nat} {l : List Oper} (hm : P.follows .mixedOrders = true) (hc : chk l.toArray (l.map fun o => kdOfR o.op) l.length 0 (Array.replicate l.length false) = true)
    (h : AL P N l (fun st' L' => Q .normal st' L') (l.map fun o => (o, kdOfR o.op)) st L) : AWp P N (.region id l.toArray true) Q st L :=
  a_regD _ hm (by simp) hc (by rw [map_zip]; exact h)

/-- A loop: 'I' at its head, 'm' goes down. -/
theorem a_loop {c : Code} (I : Nat → St → Own → Prop) (n : Nat) (h0 : I n st L) (round : ∀ n st L, I n st L → AWp P N c (thenA (fun st' L' => ∃ k, k < n ∧ I k st' L') Q) st L) : AWp P N (.loop c) Q st L :=
  ⟨fun σ F w a hr ht => by
    have key : ∀ n, ∀ (σ' : Hp) (st : St) (L : Own) (a : Act) (w : World), σ.le σ' → I n st L → HRel σ' L F w → TR σ' N st a → ∀ (b : Frame) (k : List Item) (cs : List Frame),
        ∃ e a' w', Post σ N F Q e a' w' ∧ Arrives P (lone (b.at a (.code c :: .inLoop c :: k)) cs w) b k cs e a' w' := by
      intro n
      induction n using Nat.strongRecOn with
      | _ n ih =>
        intro σ' st L a w hle hI hr ht b k cs
        obtain ⟨e, a₁, w₁, hq, harr⟩ := (round n st L hI).out σ' F w a hr ht b (.inLoop c :: k) cs
        obtain ⟨τ, st', L', a1, a2, a3, a4⟩ := hq
        cases e with
        | normal =>
          obtain ⟨m, hm, hI'⟩ := a4
          obtain ⟨e₂, a₂, w₂, hq₂, harr₂⟩ := ih m hm τ st' L' a₁ w₁ (Hp.le_trans hle a1) hI' a2 a3 b k cs
          exact ⟨e₂, a₂, w₂, hq₂, .of_steps (Steps.trans harr (.one step_inLoop)) harr₂⟩
        | exit id => exact ⟨_, a₁, w₁, ⟨τ, st', L', Hp.le_trans hle a1, a2, a3, a4⟩, .pass (x := .inLoop c) rfl (fun _ _ => .inl (by simp)) harr⟩
        | goto l => exact ⟨_, a₁, w₁, ⟨τ, st', L', Hp.le_trans hle a1, a2, a3, a4⟩, .pass (x := .inLoop c) rfl (fun _ _ => .inl (by simp)) harr⟩
        | ret => exact ⟨_, a₁, w₁, ⟨τ, st', L', Hp.le_trans hle a1, a2, a3, a4⟩, .pass (x := .inLoop c) rfl (fun _ _ => .inl (by simp)) harr⟩
        | panic ch => exact ⟨_, a₁, w₁, ⟨τ, st', L', Hp.le_trans hle a1, a2, a3, a4⟩, .pass (x := .inLoop c) rfl (fun _ _ => .inl (by simp)) harr⟩
        | outgrown => exact ⟨_, a₁, w₁, ⟨τ, st', L', Hp.le_trans hle a1, a2, a3, a4⟩, .pass (x := .inLoop c) rfl (fun _ _ => .inl (by simp)) harr⟩
    intro b k cs
    obtain ⟨e, a', w', hq, harr⟩ := key n σ st L a w σ.le_refl h0 hr ht b k cs
    exact ⟨e, a', w', hq, .of_steps (.one step_loop) harr⟩⟩

end code

/-! ### Less is known -/

/-- Whatever the first one means, the second one means too. -/
def Sub (x y : AV) : Prop := ∀ σ v, VR σ x v → VR σ y v
theorem Sub.refl (x : AV) : Sub x x := fun _ _ h => h
theorem Sub.any (x : AV) : Sub x .any := fun _ v _ => .any v
theorem Sub.nil (sz : Nat) : Sub (.lit (.slice none 0 0)) (.im sz []) := fun _ v h => by rw [h.lit_inv]; exact .imNil _ _ _
theorem Sub.of_eq {x y : AV} (h : x = y) : Sub x y := h ▸ Sub.refl x

def SubL : List AV → List AV → Prop
  | [], [] => True
  | x :: l, y :: m => Sub x y ∧ SubL l m
  | _, _ => False
theorem SubL.refl : ∀ l : List AV, SubL l l
  | [] => trivial
  | x :: l => ⟨Sub.refl x, SubL.refl l⟩
theorem SubL.of_eq {l m : List AV} (h : l = m) : SubL l m := h ▸ SubL.refl l
theorem SubL.vrs {σ : Hp} : ∀ {l m : List AV} {vs : List Value}, SubL l m → VRs σ l vs → VRs σ m vs
  | [], [], vs, _, h => h
  | x :: l, y :: m, vs, hs, h => by
    obtain ⟨v, us, rfl, hv, hus⟩ := h.cons_inv
    exact .cons (hs.1 σ v hv) (SubL.vrs hs.2 hus)
  | [], _ :: _, _, h, _ => h.elim
  | _ :: _, [], _, h, _ => h.elim
theorem Sub.tup {l m : List AV} (h : SubL l m) : Sub (.tup l) (.tup m) := fun σ v hv => by
  obtain ⟨vs, rfl, hvs⟩ := hv.tup_inv
  exact VR.tup_of (h.vrs hvs)
theorem Sub.agg {l m : List AV} (h : SubL l m) : Sub (.agg l) (.agg m) := fun σ v hv => by
  obtain ⟨vs, rfl, hvs⟩ := hv.agg_inv
  exact VR.agg_of (h.vrs hvs)

def SubS (st st' : St) : Prop := ∀ i, Sub (st i) (st' i)
theorem SubS.refl (st : St) : SubS st st := fun _ => Sub.refl _
theorem subs_nil {st : St} : SubS st (lk []) := fun _ => Sub.any _
theorem subs_cons {st : St} {i : Nat} {x : AV} {l : List (Nat × AV)} (h : Sub (st i) x) (k : SubS st (lk l)) : SubS st (lk ((i, x) :: l)) := fun j => by
  by_cases e : i = j
  · subst e
    rw [show lk ((i, x) :: l) i = x by simp [lk]]
    exact h
  · rw [show lk ((i, x) :: l) j = lk l j by simp [lk, beq_false e]]
    exact k j

theorem TR.sub {σ : Hp} {N : Nat} {st st' : St} {a : Act} (h : TR σ N st a) (k : SubS st st') : TR σ N st' a := ⟨h.defers, h.size, fun i => k i σ _ (h.vals i)⟩
theorem a_sub {P : Program} {N : Nat} {c : Code} {Q : Exit → St → Own → Prop} {st : St} {L : Own} (st' : St) (h : SubS st st') (k : AWp P N c Q st' L) : AWp P N c Q st L :=
  ⟨fun σ F w a hr ht => k.out σ F w a hr (ht.sub h)⟩

/-! ### Memory: what is owned is ordered, forgotten, made to never change -/

theorem a_ownPerm {P : Program} {N : Nat} {c : Code} {Q : Exit → St → Own → Prop} {st : St} {L : Own} (M : Own) (h : List.Perm L M) (k : AWp P N c Q st M) : AWp P N c Q st L :=
  ⟨fun σ F w a hr ht => k.out σ F w a (hr.perm h) ht⟩
theorem a_ownSub {P : Program} {N : Nat} {c : Code} {Q : Exit → St → Own → Prop} {st : St} {L : Own} (M : Own) (h : OSub M L) (k : AWp P N c Q st M) : AWp P N c Q st L :=
  ⟨fun σ F w a hr ht => k.out σ F w a (hr.osub h) ht⟩

/-- A loop whose state is a function of some data. -/
theorem a_loopX {P : Program} {N : Nat} {c : Code} {Q : Exit → St → Own → Prop} {st : St} {L : Own} {X : Type} (sx : X → List (Nat × AV)) (lx : X → Own) (px : X → Prop) (m : X → Nat) (x0 : X)
    (h0 : px x0) (hs : SubS st (lk (sx x0))) (hl : OSub (lx x0) L)
    (round : ∀ x, px x → AWp P N c (thenA (fun st' L' => ∃ x', px x' ∧ m x' < m x ∧ SubS st' (lk (sx x')) ∧ OSub (lx x') L') Q) (lk (sx x)) (lx x)) : AWp P N (.loop c) Q st L := by
  refine a_loop (fun n st L => ∃ x, px x ∧ m x = n ∧ SubS st (lk (sx x)) ∧ OSub (lx x) L) (m x0) ⟨x0, h0, rfl, hs, hl⟩ ?_
  rintro n st L ⟨x, hx, rfl, hs, hl⟩
  refine a_ownSub _ hl (a_sub _ hs ((round x hx).mono fun e st' L' h => ?_))
  cases e with
  | normal => obtain ⟨x', h1, h2, h3, h4⟩ := h; exact ⟨m x', h2, x', h1, rfl, h3, h4⟩
  | _ => exact h

/-- A cut: what is known here, as a function of some data. -/
theorem a_mid {P : Program} {N : Nat} {c c' : Code} {Q : Exit → St → Own → Prop} {st : St} {L : Own} (M : St → Own → Prop) (h : AWp P N c (thenA M Q) st L) (k : ∀ st L, M st L → AWp P N c' Q st L) : AWp P N (.seq c c') Q st L :=
  a_seq (h.mono fun e st L hq => by cases e <;> first | exact k _ _ hq | exact hq)

/-! ### Calls -/

/-- A function of the program's own. -/
def FOK (P : Program) (f : FuncId) : Prop := ∃ fn, P.funcs[f]? = some fn ∧ (fn.name == "runtime.NumGoroutine") = false ∧ fn.body.isNone = false

structure ACalls (P : Program) (f : FuncId) (args : List AV) (L : Own) (R : AV → Own → Prop) : Prop where
  ok : FOK P f
  out : ∀ (σ : Hp) (F : Fr) (w : World) (vs : List Value), HRel σ L F w → VRs σ args vs →
    Calls P f vs.toArray w fun e w' => ∃ v, e = .returned v ∧ ∃ τ x L', σ.le τ ∧ HRel τ L' F w' ∧ VR τ x v ∧ R x L'

theorem ACalls.mono {P : Program} {f : FuncId} {args : List AV} {L : Own} {R R' : AV → Own → Prop} (h : ACalls P f args L R) (hr : ∀ x L', R x L' → R' x L') : ACalls P f args L R' :=
  ⟨h.ok, fun σ F w vs a b => (h.out σ F w vs a b).mono fun e w' ⟨v, hv, τ, x, L', h1, h2, h3, h4⟩ => ⟨v, hv, τ, x, L', h1, h2, h3, hr _ _ h4⟩⟩

def enum : Nat → List AV → List (Nat × AV)
  | _, [] => []
  | n, x :: l => (n, x) :: enum (n + 1) l

theorem lk_enum (σ : Hp) : ∀ (l : List AV) (vs : List Value) (n i : Nat) (d : Value), VRs σ l vs → n ≤ i → VR σ (lk (enum n l) i) (vs.getD (i - n) d)
  | [], vs, n, i, d, _, _ => .any _
  | x :: l, vs, n, i, d, h, hi => by
    obtain ⟨y, ys, rfl, hy, hys⟩ := h.cons_inv
    by_cases e : n = i
    · subst e
      simp [enum, lk]
      exact hy
    · have := lk_enum σ l ys (n + 1) i d hys (by omega)
      simp only [enum, lk, beq_false e, cond_false]
      rw [show i - n = (i - (n + 1)) + 1 by omega, List.getD_cons_succ]
      exact this

def resL (st : St) : List ResultVar → Option (List AV)
  | [] => some []
  | .tmp t :: l => match resL st l with
    | some xs => some (st t :: xs)
    | none => none
  | .cell _ _ :: _ => none
def resA (st : St) : List ResultVar → Option AV
  | [.tmp t] => some (st t)
  | l => match resL st l with
    | some xs => some (.tup xs)
    | none => none

def resOne (tmps : Array Value) : ResultVar → Sem Value
  | .tmp t => pure (tmps.getD t undef)
  | .cell a t => do loadVar t (← asAddr (tmps.getD a undef))
theorem results_eq (fn : Func) (tmps : Array Value) : results fn tmps = (do let vs ← fn.results.mapM (resOne tmps); pure (if h : vs.size = 1 then vs[0] else .tuple vs)) := by
  unfold results resOne
  rfl

theorem resL_run {σ : Hp} {N : Nat} {st : St} {a : Act} (ht : TR σ N st a) (P : Program) (w : World) : ∀ (l : List ResultVar) (xs : List AV), resL st l = some xs →
    ∃ vs : List Value, (l.mapM (resOne a.tmps)).run P w = .ok vs w ∧ VRs σ xs vs ∧ xs.length = l.length
  | [], xs, h => by
    simp [resL] at h
    subst h
    exact ⟨[], rfl, .nil, rfl⟩
  | .tmp t :: l, xs, h => by
    simp only [resL] at h
    cases hl : resL st l with
    | none => rw [hl] at h; cases h
    | some ys =>
      rw [hl] at h
      cases h
      obtain ⟨vs, hv, hr, he⟩ := resL_run ht P w l ys hl
      refine ⟨a.tmps.getD t undef :: vs, ?_, .cons (ht.vals t) hr, by simp [he]⟩
      simp only [List.mapM_cons, Sem.run_bind, resOne, Sem.run_pure, Result.andThen_ok, hv]
  | .cell c t :: l, xs, h => by
    simp only [resL] at h
    cases h

theorem results_run {σ : Hp} {N : Nat} {st : St} {a : Act} (ht : TR σ N st a) (P : Program) (w : World) (fn : Func) {l : List ResultVar} (hl : fn.results = l.toArray) {x : AV} (hx : resA st l = some x) :
    ∃ v, (results fn a.tmps).run P w = .ok v w ∧ VR σ x v := by
  have key : ∀ xs, resL st l = some xs → ∃ vs : List Value, VRs σ xs vs ∧ xs.length = l.length ∧ (results fn a.tmps).run P w = .ok (if h : vs.toArray.size = 1 then vs.toArray[0] else .tuple vs.toArray) w := by
    intro xs hxs
    obtain ⟨vs, hv, hr, he⟩ := resL_run ht P w l xs hxs
    refine ⟨vs, hr, he, ?_⟩
    rw [results_eq, hl]
    simp only [List.mapM_toArray, Sem.run_bind, Sem.run_map, hv, Result.andThen_ok, Sem.run_pure]
  unfold resA at hx
  split at hx
  · rename_i t
    cases hx
    obtain ⟨vs, hr, he, hv⟩ := key [st t] rfl
    obtain ⟨y, ys, rfl, hy, hys⟩ := hr.cons_inv
    obtain rfl := hys.nil_inv
    exact ⟨y, by simpa using hv, hy⟩
  · rename_i hne
    cases hm : resL st l with
    | none => rw [hm] at hx; cases hx
    | some xs =>
      rw [hm] at hx
      cases hx
      by_cases h1 : l.length = 1
      · match l, h1, hne, hm with
        | [.tmp t], _, hne, _ => exact absurd rfl (hne t)
        | [.cell c t], _, _, hm => simp [resL] at hm
      · obtain ⟨vs, hr, he, hv⟩ := key xs hm
        refine ⟨.tuple vs.toArray, ?_, VR.tup_of hr⟩
        rw [hv, dif_neg (by simp [hr.1, he, h1])]

/-- A tree and what is owned, said in another way. -/
def Turn (x : AV) (L : Own) (y : AV) (M : Own) : Prop := ∀ (τ : Hp) (F : Fr) (w : World) (u : Value), HRel τ L F w → VR τ x u → ∃ υ, Hp.le τ υ ∧ HRel υ M F w ∧ VR υ y u
theorem Turn.of {x y : AV} {L M : Own} (h : Sub x y) (k : OSub M L) : Turn x L y M := fun τ F w u a b => ⟨τ, Hp.le_refl τ, a.osub k, h τ u b⟩
theorem Turn.trans {x y z : AV} {L M K : Own} (h : Turn x L y M) (k : Turn y M z K) : Turn x L z K := fun τ F w u a b => by
  obtain ⟨υ, h1, h2, h3⟩ := h τ F w u a b
  obtain ⟨φ, h4, h5, h6⟩ := k υ F w u h2 h3
  exact ⟨φ, Hp.le_trans h1 h4, h5, h6⟩

/-- What is asked at the end of a body. -/
def FinP (rs : List ResultVar) (R : AV → Own → Prop) (e : Exit) (st : St) (L : Own) : Prop :=
  (e = .normal ∨ e = .ret) ∧ ∃ x y M, resA st rs = some x ∧ Turn x L y M ∧ R y M
theorem fin {rs : List ResultVar} {R : AV → Own → Prop} {e : Exit} {st : St} {L M : Own} {x y : AV} (he : e = .normal ∨ e = .ret) (hx : resA st rs = some x) (hs : Sub x y) (hr : R y M) (hm : OSub M L) : FinP rs R e st L := ⟨he, x, y, M, hx, .of hs hm, hr⟩
theorem finT {rs : List ResultVar} {R : AV → Own → Prop} {e : Exit} {st : St} {L M : Own} {x y : AV} (he : e = .normal ∨ e = .ret) (hx : resA st rs = some x) (ht : Turn x L y M) (hr : R y M) : FinP rs R e st L := ⟨he, x, y, M, hx, ht, hr⟩

/-- A function's body, entered with its arguments. -/
theorem a_enter {P : Program} {f : FuncId} {fn : Func} {c : Code} {N : Nat} {rs : List ResultVar} {args : List AV} {L : Own} {R : AV → Own → Prop}
    (hf : P.funcs[f]? = some fn) (hname : (fn.name == "runtime.NumGoroutine") = false) (hb : fn.body = some c) (hn : fn.ntmps = N) (hr : fn.results = rs.toArray) (ha : args.length ≤ N)
    (h : AWp P N c (FinP rs R) (lk (enum 0 args)) L) : ACalls P f args L R :=
  ⟨⟨fn, hf, hname, by rw [hb]; rfl⟩, fun σ F w vs hL hvs => by
    refine calls_of_wp hf hb (wp_mono (h.out σ F w _ hL ?_) ?_)
    · refine ⟨rfl, ?_, fun i => ?_⟩
      · simp [hn]; have := hvs.1; omega
      · have h1 := lk_enum σ args vs 0 i undef hvs (Nat.zero_le _)
        simp only [Nat.sub_zero] at h1
        simp only [Array.getD_eq_getD_getElem?, Array.getElem?_append, List.size_toArray, List.getElem?_toArray, Array.getElem?_replicate]
        split
        · rename_i hi; simpa [List.getD_eq_getElem?_getD] using h1
        · rename_i hi
          have hn : vs[i]? = none := by simp at hi ⊢; omega
          rw [List.getD_eq_getElem?_getD, hn] at h1
          split <;> exact h1
    · rintro e a w' ⟨τ, st, L', a1, a2, a3, he, x, y, M, hx, ht, hR⟩
      obtain ⟨v, hv, hxv⟩ := results_run a3 P w' fn hr hx
      obtain ⟨υ, b1, b2, b3⟩ := ht τ F w' v a2 hxv
      have : a.defers = [] ∧ ∃ v, (results fn a.tmps).run P w' = .ok v w' ∧ ∃ u, Ending.returned v = .returned u ∧ ∃ τ x L', σ.le τ ∧ HRel τ L' F w' ∧ VR τ x u ∧ R x L' :=
        ⟨a3.defers, v, hv, v, rfl, υ, y, M, Hp.le_trans a1 b1, b2, b3, hR⟩
      rcases he with rfl | rfl
      · exact this
      · exact this⟩

end Go.Sj
