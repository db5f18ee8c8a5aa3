/-
  Regions whose operations come in two orders; boxes that change no more.
-/
import Derived.Test.YtebmopjobmjhmaaSjL2
namespace Go.Sj
set_option linter.unusedVariables false
set_option linter.unusedSimpArgs false

def stepOk (ops : Array Oper) (ks : List Kd) (k : Nat) (listed : Array Bool) : Bool :=
    (match ks.getD k .eff with
      | .pure => (Region.ready .any ops listed).contains k && Region.free .any ops listed k
      | .read => (Region.ready .any ops listed).contains k && Region.free .any ops listed k &&
          (List.range ops.size).all fun j => j == k || listed.getD j true || ks.getD j .eff != .eff || (match ops[j]? with
            | some oj => oj.after.any (fun e => Region.binds .any e && e.on == k)
            | none => true)
      | .eff => Region.ready .any ops listed == [k])
/-- The first operations, in an order that serves every order; what is listed behind them. -/
def chkP (ops : Array Oper) (ks : List Kd) : List Nat → Array Bool → Option (Array Bool)
  | [], listed => some listed
  | k :: is, listed => if stepOk ops ks k listed then chkP ops ks is (listed.setIfInBounds k true) else none
theorem chkP_cons {ops : Array Oper} {ks : List Kd} {k : Nat} {is : List Nat} {listed li : Array Bool} (h : chkP ops ks (k :: is) listed = some li) : stepOk ops ks k listed = true ∧ chkP ops ks is (listed.setIfInBounds k true) = some li := by
  simp only [chkP] at h
  split at h
  · rename_i h1; exact ⟨h1, h⟩
  · cases h

theorem AAny_pre {P : Program} {N : Nat} {ops : List Oper} {ks : List Kd} {Q Q' : St → Own → Prop} {l : List (Oper × Kd)} {st : St} {L : Own} {fuel : Nat} {li : Array Bool} (h : AL P N ops Q' l st L)
    (hQ : ∀ st L, Q' st L → AAny P N ops ks Q fuel li st L) :
    ∀ (is : List Nat) (listed : Array Bool), is.length = l.length → (∀ (j k : Nat) (p : Oper × Kd), is[j]? = some k → l[j]? = some p → ops[k]? = some p.1 ∧ p.2 = ks.getD k .eff) →
      chkP ops.toArray ks is listed = some li → AAny P N ops ks Q (l.length + fuel) listed st L := by
  have quiet : ∀ {o : Oper} {st : St} {L : Own} {x : AV} (k m : Nat) (listed : Array Bool), (∀ d, o.dst = some d → d < N) → ops[k]? = some o → ks.getD k .eff ≠ .eff →
      YA P ops (ks.getD k .eff) o x st L → (match ks.getD k .eff with
      | .pure => (Region.ready .any ops.toArray listed).contains k && Region.free .any ops.toArray listed k
      | .read => (Region.ready .any ops.toArray listed).contains k && Region.free .any ops.toArray listed k &&
          (List.range ops.toArray.size).all fun j => j == k || listed.getD j true || ks.getD j .eff != .eff || (match ops.toArray[j]? with
            | some oj => oj.after.any (fun e => Region.binds .any e && e.on == k)
            | none => true)
      | .eff => Region.ready .any ops.toArray listed == [k]) = true →
      AAny P N ops ks Q m (listed.setIfInBounds k true) (updO st o.dst x) L → AAny P N ops ks Q (m + 1) listed st L := by
    intro o st L x k m listed hd h0 hne hy hc H
    cases hk : ks.getD k .eff with
    | eff => exact absurd hk hne
    | pure =>
      simp only [hk, Bool.and_eq_true] at hc
      refine AAny_first h0 hne hd m listed st L (fun j oj hj hjk hun hno => ⟨?_, .inl hk⟩) (by simpa using hc.1) hy H
      exact Region.free_spec (ops := ops.toArray) (by rw [List.getElem?_toArray]; exact h0) hc.2 j oj (by rw [List.getElem?_toArray]; exact hj) hjk hun hno
    | read =>
      simp only [hk, Bool.and_eq_true] at hc
      refine AAny_first h0 hne hd m listed st L (fun j oj hj hjk hun hno => ⟨?_, .inr ?_⟩) (by simpa using hc.1.1) hy H
      · exact Region.free_spec (ops := ops.toArray) (by rw [List.getElem?_toArray]; exact h0) hc.1.2 j oj (by rw [List.getElem?_toArray]; exact hj) hjk hun hno
      · have h3 := List.all_eq_true.1 hc.2 j (List.mem_range.2 (by
          have := (List.getElem?_eq_some_iff.1 hj).1; simpa using this))
        simp only [List.getElem?_toArray, hj, Bool.or_eq_true, beq_iff_eq, hjk, false_or, hun, Bool.false_eq_true, bne_iff_ne] at h3
        rcases h3 with h3 | h3
        · exact h3
        · obtain ⟨e, he, hb⟩ := Array.any_eq_true'.1 h3
          simp only [Bool.and_eq_true, beq_iff_eq] at hb
          exact absurd hb.2 (hno e he hb.1)
  induction h with
  | nil hq =>
    intro is listed hn _ hc
    obtain rfl : is = [] := List.length_eq_zero_iff.1 hn
    simp only [chkP, Option.some.injEq] at hc
    subst hc
    rw [List.length_nil, Nat.zero_add]
    exact hQ _ _ hq
  | @skip o kd rest st L hd hg _ ih =>
    intro is listed hn hl hc
    obtain ⟨k, is, rfl⟩ : ∃ k is', is = k :: is' := by
      cases is with
      | nil => simp at hn
      | cons k is => exact ⟨k, is, rfl⟩
    obtain ⟨h0, hk0⟩ := hl 0 k _ rfl rfl
    simp only at h0 hk0
    obtain ⟨hc1, hc2⟩ := chkP_cons hc
    rw [List.length_cons, show rest.length + 1 + fuel = (rest.length + fuel) + 1 by omega]
    unfold stepOk at hc1
    have H := ih is (listed.setIfInBounds k true) (by simpa using hn) (fun j k' p a b => hl (j + 1) k' p (by simpa using a) (by simpa using b)) hc2
    by_cases he : ks.getD k .eff = .eff
    · refine ⟨fun h => ?_, fun i hi oi hoi => ?_⟩
      · simp only [he] at hc1; rw [h] at hc1; simp at hc1
      · simp only [he] at hc1
        have hr : Region.ready .any ops.toArray listed = [k] := by simpa using hc1
        rw [hr] at hi
        have hik : i = k := by simpa using hi
        subst hik
        rw [h0] at hoi; cases hoi
        exact ⟨hd, .inl ⟨hg, H⟩⟩
    · exact quiet k _ listed hd h0 he (.inr ⟨hg, rfl⟩) hc1 H
  | @pure o kd rest st L x hd hg hq _ ih =>
    intro is listed hn hl hc
    obtain ⟨k, is, rfl⟩ : ∃ k is', is = k :: is' := by
      cases is with
      | nil => simp at hn
      | cons k is => exact ⟨k, is, rfl⟩
    obtain ⟨h0, hk0⟩ := hl 0 k _ rfl rfl
    simp only at h0 hk0
    obtain ⟨hc1, hc2⟩ := chkP_cons hc
    rw [List.length_cons, show rest.length + 1 + fuel = (rest.length + fuel) + 1 by omega]
    unfold stepOk at hc1
    have H := ih is (listed.setIfInBounds k true) (by simpa using hn) (fun j k' p a b => hl (j + 1) k' p (by simpa using a) (by simpa using b)) hc2
    by_cases he : ks.getD k .eff = .eff
    · refine ⟨fun h => ?_, fun i hi oi hoi => ?_⟩
      · simp only [he] at hc1; rw [h] at hc1; simp at hc1
      · simp only [he] at hc1
        have hr : Region.ready .any ops.toArray listed = [k] := by simpa using hc1
        rw [hr] at hi
        have hik : i = k := by simpa using hi
        subst hik
        rw [h0] at hoi; cases hoi
        refine ⟨hd, .inr ⟨hg, ?_⟩⟩
        rw [he]
        exact (hq.any L).op H
    · refine quiet k _ listed hd h0 he (.inl ⟨hg, ?_⟩) hc1 H
      cases hk' : ks.getD k .eff <;> first | exact hq | exact hq.any L
  | @read o kd rest st L x hd hg hne hq _ ih =>
    intro is listed hn hl hc
    obtain ⟨k, is, rfl⟩ : ∃ k is', is = k :: is' := by
      cases is with
      | nil => simp at hn
      | cons k is => exact ⟨k, is, rfl⟩
    obtain ⟨h0, hk0⟩ := hl 0 k _ rfl rfl
    simp only at h0 hk0
    obtain ⟨hc1, hc2⟩ := chkP_cons hc
    rw [List.length_cons, show rest.length + 1 + fuel = (rest.length + fuel) + 1 by omega]
    unfold stepOk at hc1
    have H := ih is (listed.setIfInBounds k true) (by simpa using hn) (fun j k' p a b => hl (j + 1) k' p (by simpa using a) (by simpa using b)) hc2
    by_cases he : ks.getD k .eff = .eff
    · refine ⟨fun h => ?_, fun i hi oi hoi => ?_⟩
      · simp only [he] at hc1; rw [h] at hc1; simp at hc1
      · simp only [he] at hc1
        have hr : Region.ready .any ops.toArray listed = [k] := by simpa using hc1
        rw [hr] at hi
        have hik : i = k := by simpa using hi
        subst hik
        rw [h0] at hoi; cases hoi
        refine ⟨hd, .inr ⟨hg, ?_⟩⟩
        rw [he]
        exact hq.op H
    · refine quiet k _ listed hd h0 he (.inl ⟨hg, ?_⟩) hc1 H
      rw [hk0] at hne
      cases hk' : ks.getD k .eff with
      | pure => exact absurd hk' hne
      | eff => exact absurd hk' he
      | read => exact hq
  | @eff o rest st L K hd hg hop _ ih =>
    intro is listed hn hl hc
    obtain ⟨k, is, rfl⟩ : ∃ k is', is = k :: is' := by
      cases is with
      | nil => simp at hn
      | cons k is => exact ⟨k, is, rfl⟩
    obtain ⟨h0, hk0⟩ := hl 0 k _ rfl rfl
    simp only at h0 hk0
    obtain ⟨hc1, hc2⟩ := chkP_cons hc
    rw [List.length_cons, show rest.length + 1 + fuel = (rest.length + fuel) + 1 by omega]
    unfold stepOk at hc1
    simp only [← hk0] at hc1
    have hr : Region.ready .any ops.toArray listed = [k] := by simpa using hc1
    refine ⟨fun h => ?_, fun i hi oi hoi => ?_⟩
    · rw [h] at hr; cases hr
    · rw [hr] at hi
      have hik : i = k := by simpa using hi
      subst hik
      rw [h0] at hoi; cases hoi
      refine ⟨hd, .inr ⟨hg, ?_⟩⟩
      rw [← hk0]
      refine hop.mono fun x L' hK => ?_
      exact ih x L' hK is (listed.setIfInBounds i true) (by simpa using hn) (fun j k' p a b => hl (j + 1) k' p (by simpa using a) (by simpa using b)) hc2



/-- What the first operation asks, and what is left. -/
theorem AL_head {P : Program} {N : Nat} {ops : List Oper} {Q : St → Own → Prop} {o : Oper} {rest : List (Oper × Kd)} {st : St} {L : Own} (h : AL P N ops Q ((o, .eff) :: rest) st L) : AK P N ops .eff o (AL P N ops Q rest) st L := by
  cases h with
  | skip hd hg h => exact ⟨hd, .inl ⟨hg, h⟩⟩
  | pure hd hg hq h => exact ⟨hd, .inr ⟨hg, (hq.any L).op h⟩⟩
  | read hd hg hk hq h => exact ⟨hd, .inr ⟨hg, hq.op h⟩⟩
  | eff hd hg hop h => exact ⟨hd, .inr ⟨hg, hop.mono fun x L' hK => h x L' hK⟩⟩

/-- Orders: one, or one that parts in two. -/
inductive OT where
  | seg (is : List Nat)
  | br (is : List Nat) (a b : OT)
def OT.len : OT → Nat
  | .seg is => is.length
  | .br is a _ => is.length + a.len
def OT.hd : OT → Option Nat
  | .seg (k :: _) => some k
  | .br (k :: _) _ _ => some k
  | _ => none
def OT.all (n : Nat) : OT → Bool
  | .seg is => is.all fun i => Nat.blt i n
  | .br is a b => (is.all fun i => Nat.blt i n) && a.all n && b.all n
def chkF (ops : Array Oper) (ks : List Kd) (f : Bool) (is : List Nat) (listed : Array Bool) : Option (Array Bool) := match f, is with
  | true, k :: is => chkP ops ks is (listed.setIfInBounds k true)
  | true, [] => none
  | false, is => chkP ops ks is listed
def chkT (ops : Array Oper) (ks : List Kd) : Bool → OT → Array Bool → Bool
  | f, .seg is, listed => match chkF ops ks f is listed with
    | some li => (Region.ready .any ops li).isEmpty
    | none => false
  | f, .br is a b, listed => match chkF ops ks f is listed with
    | some li => match a.hd, b.hd with
      | some x, some y => (Region.ready .any ops li == [x, y]) && (ks.getD x .eff == .eff) && (ks.getD y .eff == .eff) && (a.len == b.len) && chkT ops ks true a li && chkT ops ks true b li
      | _, _ => false
    | none => false
def mkL (l : List Oper) (is : List Nat) : List (Oper × Kd) := is.filterMap fun i => match l[i]? with | some o => some (o, kdOf o.op) | none => none
def AT (P : Program) (N : Nat) (l : List Oper) (Q : St → Own → Prop) : OT → St → Own → Prop
  | .seg is, st, L => AL P N l Q (mkL l is) st L
  | .br is a b, st, L => AL P N l (fun st' L' => AT P N l Q a st' L' ∧ AT P N l Q b st' L') (mkL l is) st L

theorem at_seg {P : Program} {N : Nat} {l : List Oper} {Q : St → Own → Prop} {is : List Nat} {st : St} {L : Own} (h : AL P N l Q (mkL l is) st L) : AT P N l Q (.seg is) st L := h
theorem at_br {P : Program} {N : Nat} {l : List Oper} {Q : St → Own → Prop} {is : List Nat} {a b : OT} {st : St} {L : Own} (h : AL P N l (fun st' L' => AT P N l Q a st' L' ∧ AT P N l Q b st' L') (mkL l is) st L) : AT P N l Q (.br is a b) st L := h
theorem mkL_cons {l : List Oper} {i : Nat} {is : List Nat} {o : Oper} (h : l[i]? = some o) : mkL l (i :: is) = (o, kdOf o.op) :: mkL l is := by
  simp only [mkL, List.filterMap_cons, h]
theorem mkL_facts {l : List Oper} : ∀ {is : List Nat}, is.all (fun i => Nat.blt i l.length) = true → is.length = (mkL l is).length ∧ ∀ (j k : Nat) (p : Oper × Kd), is[j]? = some k → (mkL l is)[j]? = some p → l[k]? = some p.1 ∧ p.2 = (l.map fun o => kdOf o.op).getD k .eff
  | [], _ => ⟨rfl, fun j k p h => by simp at h⟩
  | i :: is, h => by
    simp only [List.all_cons, Bool.and_eq_true] at h
    have hi : i < l.length := by simpa [Nat.blt_eq] using h.1
    have e : l[i]? = some l[i] := List.getElem?_eq_getElem hi
    obtain ⟨h1, h2⟩ := mkL_facts h.2
    rw [mkL_cons e]
    refine ⟨by simp [h1], fun j k p hj hp => ?_⟩
    cases j with
    | zero =>
      simp at hj hp
      subst hj; subst hp
      exact ⟨e, by simp [List.getD_eq_getElem?_getD, e]⟩
    | succ j => exact h2 j k p (by simpa using hj) (by simpa using hp)

theorem AAny_tree {P : Program} {N : Nat} {l : List Oper} {Q : St → Own → Prop} : ∀ (t : OT) (listed : Array Bool) (st : St) (L : Own), t.all l.length = true → AT P N l Q t st L →
    (chkT l.toArray (l.map fun o => kdOf o.op) false t listed = true → AAny P N l (l.map fun o => kdOf o.op) Q t.len listed st L) ∧
    (∀ k o, chkT l.toArray (l.map fun o => kdOf o.op) true t listed = true → t.hd = some k → l[k]? = some o → kdOf o.op = .eff → ∃ m, t.len = m + 1 ∧ AK P N l .eff o (AAny P N l (l.map fun o => kdOf o.op) Q m (listed.setIfInBounds k true)) st L)
  | .seg is, listed, st, L, hall, h => by
    obtain ⟨f1, f2⟩ := mkL_facts hall
    simp only [AT] at h
    refine ⟨fun hc => ?_, fun k o hc hk ho hkd => ?_⟩
    · simp only [chkT, chkF] at hc
      split at hc
      · rename_i li hli
        have := AAny_pre (ks := l.map fun o => kdOf o.op) (Q := Q) (fuel := 0) (li := li) h (fun st L hq => ⟨by simpa using hc, hq⟩) is listed f1 f2 hli
        rw [← f1] at this
        exact this
      · cases hc
    · cases is with
      | nil => cases hk
      | cons k' is =>
        simp only [OT.hd, Option.some.injEq] at hk
        subst hk
        simp only [chkT, chkF] at hc
        simp only [OT.all, List.all_cons, Bool.and_eq_true] at hall
        obtain ⟨g1, g2⟩ := mkL_facts hall.2
        rw [mkL_cons ho, hkd] at h
        split at hc
        · rename_i li hli
          refine ⟨is.length, rfl, (AL_head h).mono fun st' L' h' => ?_⟩
          have := AAny_pre (ks := l.map fun o => kdOf o.op) (Q := Q) (fuel := 0) (li := li) h' (fun st L hq => ⟨by simpa using hc, hq⟩) is _ g1 g2 hli
          rw [← g1] at this
          exact this
        · cases hc
  | .br is a b, listed, st, L, hall, h => by
    simp only [OT.all, Bool.and_eq_true] at hall
    obtain ⟨⟨hall1, ha⟩, hb⟩ := hall
    obtain ⟨f1, f2⟩ := mkL_facts hall1
    simp only [AT] at h
    have part : ∀ (li : Array Bool), (match a.hd, b.hd with
      | some x, some y => (Region.ready .any l.toArray li == [x, y]) && ((l.map fun o => kdOf o.op).getD x .eff == .eff) && ((l.map fun o => kdOf o.op).getD y .eff == .eff) && (a.len == b.len) && chkT l.toArray (l.map fun o => kdOf o.op) true a li && chkT l.toArray (l.map fun o => kdOf o.op) true b li
      | _, _ => false) = true → ∀ st' L', AT P N l Q a st' L' ∧ AT P N l Q b st' L' → AAny P N l (l.map fun o => kdOf o.op) Q a.len li st' L' := by
      intro li hc st' L' ⟨hA, hB⟩
      split at hc
      · rename_i x y hx hy
        simp only [Bool.and_eq_true, beq_iff_eq] at hc
        obtain ⟨⟨⟨⟨⟨c1, c2⟩, c3⟩, c4⟩, c5⟩, c6⟩ := hc
        have kd : ∀ (z : Nat) (o : Oper), l[z]? = some o → (l.map fun o => kdOf o.op).getD z .eff = kdOf o.op := fun z o hz => by simp [List.getD_eq_getElem?_getD, hz]
        have hlen : ∃ m, a.len = m + 1 := by
          cases a with
          | seg is => cases is with
            | nil => cases hx
            | cons k is => exact ⟨is.length, rfl⟩
          | br is a b => cases is with
            | nil => cases hx
            | cons k is => exact ⟨is.length + a.len, by simp only [OT.len, List.length_cons]; omega⟩
        obtain ⟨m, hm⟩ := hlen
        rw [hm]
        refine ⟨fun hr => (by rw [hr] at c1; cases c1), fun i hi o ho => ?_⟩
        rw [c1] at hi
        rw [kd i o ho]
        rcases List.mem_cons.1 hi with rfl | hi
        · have hk : kdOf o.op = .eff := by rw [← kd i o ho]; exact c2
          obtain ⟨m', e1, e2⟩ := (AAny_tree a li st' L' ha hA).2 i o c5 hx ho hk
          obtain rfl : m = m' := by omega
          rw [hk]; exact e2
        · obtain rfl : i = y := by simpa using hi
          have hk : kdOf o.op = .eff := by rw [← kd i o ho]; exact c3
          obtain ⟨m', e1, e2⟩ := (AAny_tree b li st' L' hb hB).2 i o c6 hy ho hk
          obtain rfl : m = m' := by omega
          rw [hk]; exact e2
      · cases hc
    refine ⟨fun hc => ?_, fun k o hc hk ho hkd => ?_⟩
    · simp only [chkT, chkF] at hc
      split at hc
      · rename_i li hli
        have := AAny_pre (ks := l.map fun o => kdOf o.op) (Q := Q) (fuel := a.len) (li := li) h (part li hc) is listed f1 f2 hli
        rw [← f1] at this
        exact this
      · cases hc
    · cases is with
      | nil => cases hk
      | cons k' is =>
        simp only [OT.hd, Option.some.injEq] at hk
        subst hk
        simp only [chkT, chkF] at hc
        simp only [List.all_cons, Bool.and_eq_true] at hall1
        obtain ⟨g1, g2⟩ := mkL_facts hall1.2
        rw [mkL_cons ho, hkd] at h
        split at hc
        · rename_i li hli
          refine ⟨is.length + a.len, by simp only [OT.len, List.length_cons]; omega, (AL_head h).mono fun st' L' h' => ?_⟩
          have := AAny_pre (ks := l.map fun o => kdOf o.op) (Q := Q) (fuel := a.len) (li := li) h' (part li hc) is _ g1 g2 hli
          rw [← g1] at this
          exact this
        · cases hc

/-- A region in every order, walked in orders of our own. -/
theorem a_regT {P : Program} {N : Nat} {Q : Exit → St → Own → Prop} {st : St} {L : Own} {id : Nat} {l : List Oper} (t : OT) (hm : P.follows .mixedOrders = true) (hlen : t.len = l.length) (hin : t.all l.length = true)
    (hc : chkT l.toArray (l.map fun o => kdOf o.op) false t (Array.replicate l.length false) = true)
    (h : AT P N l (fun st' L' => Q .normal st' L') t st L) : AWp P N (.region id l.toArray true) Q st L :=
  ⟨fun σ F w a hr ht => wp_region_any hm (by
    have h1 := (AAny_tree t (Array.replicate l.length false) st L hin h).1 hc
    rw [hlen] at h1
    have := AAny_wp (F := F) (Q' := Post σ N F Q) l.length _ st L σ a { w with drawn := w.drawn + 1 } h1 (hr.grow (fun _ _ => rfl) rfl rfl) ht (fun τ st' L' a' w' a1 a2 a3 a4 => ⟨τ, st', L', a1, a2, a3, a4⟩)
    simpa using this)⟩

/-- The box at place i, held by temporary t, changes no more. -/
theorem a_frzBox {P : Program} {N : Nat} {c : Code} {Q : Exit → St → Own → Prop} {l : List (Nat × AV)} {L : Own} (i t : Nat) {v : Value} {cells : List AV} (hL : L[i]? = some (v, .box cells)) (ht : lk l t = .pt v 0 0 0)
    (k : AWp P N c Q (lk ((t, .ip cells) :: l)) (L.eraseIdx i)) : AWp P N c Q (lk l) L :=
  ⟨fun σ F w a hr htr => by
    have h := hr.at hL
    obtain ⟨b, c0, E, hv, hb, hcs⟩ := h.own (v, .box cells) (by simp)
    have hblk : blk v = some b := by rw [hv]; rfl
    have hap := h.apart b (List.mem_filterMap.2 ⟨(v, .box cells), by simp, hblk⟩)
    have hfb : frz σ w v b = some (.cells c0 E (0, 0)) := by simp only [frz, hap.1, if_pos hblk]; exact hb
    have hnd := h.nodup
    have e : ((v, OB.box cells) :: L.eraseIdx i).filterMap (blk ∘ Prod.fst) = b :: (L.eraseIdx i).filterMap (blk ∘ Prod.fst) := by simp [hblk]
    rw [e] at hnd
    have h1 : HRel (frz σ w v) (L.eraseIdx i) F w := by
      refine ⟨fun j o hj => ?_, h.frame, h.os, h.out, fun p hp => (h.own p (List.mem_cons_of_mem _ hp)).mono (frz_le σ w v), fun j o hj => ?_, (List.nodup_cons.1 hnd).2, fun j hj => ?_⟩
      · simp only [frz] at hj
        split at hj
        · rename_i o' ho
          cases hj
          exact h.agree j o ho
        · split at hj
          · exact hj
          · cases hj
      · simp only [frz] at hj
        split at hj
        · rename_i o' ho
          exact h.sep j o' ho
        · split at hj
          · rename_i hvj
            rw [hblk] at hvj
            cases hvj
            exact hap.2
          · cases hj
      · have h5 := h.apart j (by rw [e]; exact List.mem_cons_of_mem _ hj)
        refine ⟨?_, h5.2⟩
        simp only [frz, h5.1]
        rw [if_neg]
        intro hvj
        rw [hblk] at hvj
        cases hvj
        exact (List.nodup_cons.1 hnd).1 hj
    have h2 : VR (frz σ w v) (.ip cells) v := by
      refine (congrArg (fun z => VR (frz σ w v) (.ip cells) z) hv).mpr ?_
      refine .ip cells b 0 c0 E (0, 0) (fun j => c0.getD j undef) hfb (fun j x hx => ?_) (fun j x hx => ?_)
      · obtain ⟨y, hy, _⟩ := hcs.get hx
        simp at hy
        simp [Array.getD_eq_getD_getElem?, hy]
      · obtain ⟨y, hy, hxy⟩ := hcs.get hx
        simp at hy
        simpa [Array.getD_eq_getD_getElem?, hy] using hxy.mono (frz_le σ w v)
    have htr' : TR (frz σ w v) N (lk ((t, .ip cells) :: l)) a := by
      refine ⟨htr.defers, htr.size, fun j => ?_⟩
      have hj := (htr.vals j).mono (frz_le σ w v)
      simp only [lk]
      cases e : Nat.beq t j with
      | false => exact hj
      | true =>
        obtain rfl := Nat.eq_of_beq_eq_true e
        rw [ht] at hj
        have : a.tmps.getD t undef = v := by
          generalize a.tmps.getD t undef = u at hj
          cases hj with
          | pt _ _ _ _ b' hb' =>
            rw [hblk] at hb'
            cases hb'
            rw [hv]
        rw [this]
        exact h2
    exact wp_mono (k.out _ F w a h1 htr') fun e a' w' hp => hp.le (frz_le σ w v)⟩
end Go.Sj
