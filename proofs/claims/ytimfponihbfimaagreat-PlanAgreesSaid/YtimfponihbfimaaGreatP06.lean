/- Parts of a proof. -/
import Derived.Laws.Externs
import Derived.Test.YtimfponihbfimaaGreatP05
set_option linter.unusedVariables false
set_option linter.unusedSimpArgs false
section
namespace Go.Sj
def GoTo (N : Nat) (st : St) (L : Own) (st' : St) (L' : Own) : Prop := ∀ (σ : Hp) (F : Fr) (w : World) (a : Act), HRel σ L F w → TR σ N st a → ∃ τ, σ.le τ ∧ HRel τ L' F w ∧ TR τ N st' a
section
variable {N : Nat} {st st' st'' : St} {L L' L'' : Own}
theorem GoTo.trans (h : GoTo N st L st' L') (k : GoTo N st' L' st'' L'') : GoTo N st L st'' L'' := fun σ F w a h1 h2 => by
  obtain ⟨τ, a1, a2, a3⟩ := h σ F w a h1 h2
  obtain ⟨υ, b1, b2, b3⟩ := k τ F w a a2 a3
  exact ⟨υ, Hp.le_trans a1 b1, b2, b3⟩
theorem GoTo.sub (h : SubS st st') (k : OSub L' L) : GoTo N st L st' L' := fun σ F w a h1 h2 => ⟨σ, σ.le_refl, h1.osub k, h2.sub h⟩
theorem GoTo.perm (h : L.Perm L') : GoTo N st L st L' := fun σ F w a h1 h2 => ⟨σ, σ.le_refl, h1.perm h, h2⟩
theorem GoTo.freeze (i : Nat) {v : Value} {E sz : Nat} {es : List (List AV)} (hL : L[i]? = some (v, .row E sz es)) (hst : FZS v sz es st st') (M : Own) (hM : FZO v sz es (L.eraseIdx i) M) : GoTo N st L st' M := fun σ F w a h1 h2 => by
  obtain ⟨k1, k2⟩ := (h1.at hL).freeze hM
  exact ⟨_, frz_le σ w v, k1, ⟨h2.defers, h2.size, fun j => hst j _ _ k2 ((h2.mono (frz_le σ w v)).vals j)⟩⟩
theorem FZS.refl {v : Value} {sz : Nat} {es : List (List AV)} (st : St) : FZS v sz es st st := fun i => FZ.refl _
theorem zgt {P : Program} {c : Code} {Q : Exit → St → Own → Prop} (h : GoTo N st L st' L') (k : AWp P N c Q st' L') : AWp P N c Q st L :=
  ⟨fun σ F w a h1 h2 => by
    obtain ⟨τ, a1, a2, a3⟩ := h σ F w a h1 h2
    exact wp_mono (k.out τ F w a a2 a3) fun e a' w' hp => hp.le a1⟩
end
theorem a_loopG {P : Program} {N : Nat} {c : Code} {Q : Exit → St → Own → Prop} {st : St} {L : Own} {X : Type} (sx : X → List (Nat × AV)) (lx : X → Own) (px : X → Prop) (m : X → Nat) (x0 : X)
    (h0 : px x0) (hs : GoTo N st L (lk (sx x0)) (lx x0))
    (round : ∀ x, px x → AWp P N c (thenA (fun st' L' => ∃ x', px x' ∧ m x' < m x ∧ GoTo N st' L' (lk (sx x')) (lx x')) Q) (lk (sx x)) (lx x)) : AWp P N (.loop c) Q st L :=
  a_loop (fun n st L => ∃ x, px x ∧ n = m x ∧ GoTo N st L (lk (sx x)) (lx x)) (m x0) ⟨x0, h0, rfl, hs⟩ fun n st L ⟨x, h1, h2, h3⟩ =>
    zgt h3 ((round x h1).mono fun e st' L' h => by
      cases e with
      | normal =>
        obtain ⟨x', k1, k2, k3⟩ := h
        exact ⟨m x', by rw [h2]; exact k2, x', k1, rfl, k3⟩
      | _ => exact h)
theorem a_loopG2 {P : Program} {N : Nat} {c : Code} {Q : Exit → St → Own → Prop} {st : St} {L : Own} {A B : Type} (sx : A → B → List (Nat × AV)) (lx : A → B → Own) (px : A → B → Prop) (m : A → B → Nat) (a0 : A) (b0 : B)
    (h0 : px a0 b0) (hs : GoTo N st L (lk (sx a0 b0)) (lx a0 b0))
    (round : ∀ a b, px a b → AWp P N c (thenA (fun st' L' => ∃ a' b', px a' b' ∧ m a' b' < m a b ∧ GoTo N st' L' (lk (sx a' b')) (lx a' b')) Q) (lk (sx a b)) (lx a b)) : AWp P N (.loop c) Q st L :=
  a_loopG (X := A × B) (fun x => sx x.1 x.2) (fun x => lx x.1 x.2) (fun x => px x.1 x.2) (fun x => m x.1 x.2) (a0, b0) h0 hs fun x hx =>
    (round x.1 x.2 hx).mono fun e st' L' h => by
      cases e with
      | normal =>
        obtain ⟨a', b', k⟩ := h
        exact ⟨(a', b'), k⟩
      | _ => exact h
theorem a_loopG3 {P : Program} {N : Nat} {c : Code} {Q : Exit → St → Own → Prop} {st : St} {L : Own} {A B C : Type} (sx : A → B → C → List (Nat × AV)) (lx : A → B → C → Own) (px : A → B → C → Prop) (m : A → B → C → Nat) (a0 : A) (b0 : B) (c0 : C)
    (h0 : px a0 b0 c0) (hs : GoTo N st L (lk (sx a0 b0 c0)) (lx a0 b0 c0))
    (round : ∀ a b d, px a b d → AWp P N c (thenA (fun st' L' => ∃ a' b' d', px a' b' d' ∧ m a' b' d' < m a b d ∧ GoTo N st' L' (lk (sx a' b' d')) (lx a' b' d')) Q) (lk (sx a b d)) (lx a b d)) : AWp P N (.loop c) Q st L :=
  a_loopG (X := A × B × C) (fun x => sx x.1 x.2.1 x.2.2) (fun x => lx x.1 x.2.1 x.2.2) (fun x => px x.1 x.2.1 x.2.2) (fun x => m x.1 x.2.1 x.2.2) (a0, b0, c0) h0 hs fun x hx =>
    (round x.1 x.2.1 x.2.2 hx).mono fun e st' L' h => by
      cases e with
      | normal =>
        obtain ⟨a', b', c', k⟩ := h
        exact ⟨(a', b', c'), k⟩
      | _ => exact h
def rowsCell (M : Own) : Prop := ∀ p ∈ M, match p.2 with | .row _ _ _ => p.1.oneCell' = true | _ => True
theorem ACalls.cells {P : Program} {f : FuncId} {args : List AV} {L : Own} {R : AV → Own → Prop} (h : ACalls P f args L R) : ACalls P f args L fun x M => R x M ∧ rowsCell M :=
  ⟨h.ok, fun σ F w vs a b => (h.out σ F w vs a b).mono fun e w' ⟨v, hv, τ, x, M, h1, h2, h3, h4⟩ => ⟨v, hv, τ, x, M, h1, h2, h3, h4, fun p hp => by
    have := h2.own p hp
    obtain ⟨u, ob⟩ := p
    cases ob with
    | row E sz es => exact own_row_cell this
    | _ => trivial⟩⟩
end Go.Sj
namespace Go.Sj
end Go.Sj
namespace Go.Sj
section
variable {P : Program} {N : Nat} {ops : List Oper} {Q : St → Own → Prop} {L : Own} {rest : List (Oper × Kd)} {l : List (Nat × AV)} {k : Kd} {q : Nat}
end
end Go.Sj
namespace Go.Sj
def descOf (ops : Array Oper) (k : Nat) : Array Bool := (List.range ops.size).foldl (fun D j => match ops[j]? with
  | some oj => if oj.after.any (fun e => Region.binds .any e && (e.on == k || D.getD e.on false)) then D.setIfInBounds j true else D
  | none => D) (Array.replicate ops.size false)
def descChk (ops : Array Oper) (listed : Array Bool) (k : Nat) (D : Array Bool) : Bool := (List.range D.size).all fun j => !D.getD j false || (!listed.getD j true && (match ops[j]? with
  | some oj => oj.after.any (fun e => Region.binds .any e && (e.on == k || D.getD e.on false))
  | none => true))
theorem descChk_spec {ops : Array Oper} {listed D : Array Bool} {k : Nat} (h : descChk ops listed k D = true) : (∀ j, D.getD j false = true → listed.getD j true = false) ∧ ∀ j oj, ops[j]? = some oj → D.getD j false = true → ∃ e ∈ oj.after, Region.binds .any e = true ∧ (e.on = k ∨ D.getD e.on false = true) := by
  have key : ∀ j, D.getD j false = true → listed.getD j true = false ∧ (match ops[j]? with
      | some oj => oj.after.any (fun e => Region.binds .any e && (e.on == k || D.getD e.on false))
      | none => true) = true := fun j hj => by
    have hlt : j < D.size := by
      rcases Nat.lt_or_ge j D.size with h' | h'
      · exact h'
      · simp [Array.getElem?_eq_none h'] at hj
    have := List.all_eq_true.1 h j (List.mem_range.2 hlt)
    rw [hj] at this
    simpa using this
  refine ⟨fun j hj => (key j hj).1, fun j oj ho hj => ?_⟩
  have h2 := (key j hj).2
  rw [ho] at h2
  obtain ⟨e, he, hb⟩ := Array.any_eq_true'.1 h2
  simp only [Bool.and_eq_true, Bool.or_eq_true, beq_iff_eq] at hb
  exact ⟨e, he, hb.1, hb.2⟩
theorem AAny_firstD {P : Program} {N : Nat} {ops : List Oper} {ks : List Kd} {Q : St → Own → Prop} {i : Nat} {oi : Oper} {x : AV} (hi : ops[i]? = some oi) (D : Nat → Bool) (hD2 : ∀ j oj, ops[j]? = some oj → D j = true → ∃ e ∈ oj.after, Region.binds .any e = true ∧ (e.on = i ∨ D e.on = true)) (hki : ks.getD i .eff ≠ .eff) (hd : ∀ d, oi.dst = some d → d < N) :
    ∀ (fuel : Nat) (listed : Array Bool) (st : St) (L : Own),
      (∀ j oj, ops[j]? = some oj → j ≠ i → D j = false → listed.getD j true = false → (∀ e ∈ oj.after, Region.binds .any e = true → e.on ≠ i) → oi.apart ops.toArray oj = true ∧ (ks.getD i .eff = .pure ∨ ks.getD j .eff ≠ .eff)) →
      (∀ j, D j = true → listed.getD j true = false) →
      i ∈ Region.ready .any ops.toArray listed → YA P ops (ks.getD i .eff) oi x st L →
      AAny P N ops ks Q fuel (listed.setIfInBounds i true) (updO st oi.dst x) L → AAny P N ops ks Q (fuel + 1) listed st L := by
  intro fuel
  induction fuel with
  | zero =>
    intro listed st L _ _ hr hy H
    refine ⟨fun h => (by rw [h] at hr; cases hr), fun j hj oj hoj => ?_⟩
    by_cases hji : j = i
    · subst hji; rw [hi] at hoj; cases hoj; exact hy.ak hki hd H
    · have := ready_mono hj hji
      rw [H.1] at this
      cases this
  | succ fuel ih =>
    intro listed st L hfree hD1 hr hy H
    refine ⟨fun h => (by rw [h] at hr; cases hr), fun j hj oj hoj => ?_⟩
    by_cases hji : j = i
    · subst hji; rw [hi] at hoj; cases hoj; exact hy.ak hki hd H
    · have h1 := H.2 j (ready_mono hj hji) oj hoj
      obtain ⟨hjun, oj', hoj', hall⟩ := mem_ready.1 hj
      rw [List.getElem?_toArray, hoj] at hoj'
      cases hoj'
      have hnot : ∀ e ∈ oj.after, Region.binds .any e = true → e.on ≠ i := fun e he hb heq => by
        have h1 := hall e he hb
        have h0 := (mem_ready.1 hr).1
        rw [heq] at h1
        rcases Nat.lt_or_ge i listed.size with h' | h'
        · simp [h'] at h0 h1; rw [h0] at h1; cases h1
        · simp [Array.getElem?_eq_none h'] at h1
      have hi0 : listed.getD i false = false := by
        have h0 := (mem_ready.1 hr).1
        rcases Nat.lt_or_ge i listed.size with h' | h'
        · simp [h'] at h0 ⊢; exact h0
        · simp [Array.getElem?_eq_none h'] at h0
      have hDj : D j = false := by
        cases e : D j with
        | false => rfl
        | true =>
          obtain ⟨ed, he, hb, hon⟩ := hD2 j oj hoj e
          have h1 := hall ed he hb
          rcases hon with hon | hon
          · rw [hon, hi0] at h1; cases h1
          · have h5 := hD1 _ hon
            rcases Nat.lt_or_ge ed.on listed.size with h' | h'
            · simp [h'] at h1 h5; rw [h5] at h1; cases h1
            · simp [Array.getElem?_eq_none h'] at h1
      obtain ⟨hap, hkk⟩ := hfree j oj hoj hji hDj hjun hnot
      have h2 := AK_put hap hkk hy h1
      have hfree' : ∀ k ok, ops[k]? = some ok → k ≠ i → D k = false → (listed.setIfInBounds j true).getD k true = false →
          (∀ e ∈ ok.after, Region.binds .any e = true → e.on ≠ i) → oi.apart ops.toArray ok = true ∧ (ks.getD i .eff = .pure ∨ ks.getD k .eff ≠ .eff) := fun k ok hk hki hDk hun hno => by
        refine hfree k ok hk hki hDk ?_ hno
        by_cases hjk : j = k
        · subst hjk; exact hjun
        · rw [getD_set_ne true hjk] at hun; exact hun
      refine AK.mono (fun st' L' h3 => ih (listed.setIfInBounds j true) st' L' hfree' (fun k hk => by
        have hjk : j ≠ k := fun e => by rw [e, hk] at hDj; cases hDj
        rw [getD_set_ne true hjk]
        exact hD1 k hk) (ready_mono hr (Ne.symm hji)) h3.1 ?_) h2
      rw [Array.setIfInBounds_comm _ _ hji]
      exact h3.2
def chkD (ops : Array Oper) (ks : List Kd) : List Nat → Array Bool → Bool
  | [], listed => (Region.ready .any ops listed).isEmpty
  | k :: is, listed =>
    (match ks.getD k .eff with
      | .pure => (Region.ready .any ops listed).contains k && Region.free .any ops listed k
      | .read => (Region.ready .any ops listed).contains k && Region.free .any ops listed k && descChk ops listed k (descOf ops k) &&
          (List.range ops.size).all fun j => j == k || listed.getD j true || ks.getD j .eff != .eff || (descOf ops k).getD j false || (match ops[j]? with
            | some oj => oj.after.any (fun e => Region.binds .any e && e.on == k)
            | none => true)
      | .eff => Region.ready .any ops listed == [k]) &&
    chkD ops ks is (listed.setIfInBounds k true)
theorem AAny_ordD {P : Program} {N : Nat} {ops : List Oper} {ks : List Kd} {Q : St → Own → Prop} {l : List (Oper × Kd)} {st : St} {L : Own} (h : AL P N ops Q l st L) :
    ∀ (is : List Nat) (listed : Array Bool), is.length = l.length → (∀ (j k : Nat) (p : Oper × Kd), is[j]? = some k → l[j]? = some p → ops[k]? = some p.1 ∧ p.2 = ks.getD k .eff) →
      chkD ops.toArray ks is listed = true → AAny P N ops ks Q l.length listed st L := by
  have quiet : ∀ {o : Oper} {kd : Kd} {rest : List (Oper × Kd)} {st : St} {L : Own} {x : AV} (k : Nat) (listed : Array Bool), (∀ d, o.dst = some d → d < N) → ops[k]? = some o → ks.getD k .eff ≠ .eff →
      YA P ops (ks.getD k .eff) o x st L → (match ks.getD k .eff with
      | .pure => (Region.ready .any ops.toArray listed).contains k && Region.free .any ops.toArray listed k
      | .read => (Region.ready .any ops.toArray listed).contains k && Region.free .any ops.toArray listed k && descChk ops.toArray listed k (descOf ops.toArray k) &&
          (List.range ops.toArray.size).all fun j => j == k || listed.getD j true || ks.getD j .eff != .eff || (descOf ops.toArray k).getD j false || (match ops.toArray[j]? with
            | some oj => oj.after.any (fun e => Region.binds .any e && e.on == k)
            | none => true)
      | .eff => Region.ready .any ops.toArray listed == [k]) = true →
      AAny P N ops ks Q rest.length (listed.setIfInBounds k true) (updO st o.dst x) L → AAny P N ops ks Q (rest.length + 1) listed st L := by
    intro o kd rest st L x k listed hd h0 hne hy hc H
    cases hk : ks.getD k .eff with
    | eff => exact absurd hk hne
    | pure =>
      simp only [hk, Bool.and_eq_true] at hc
      refine AAny_first h0 hne hd rest.length listed st L (fun j oj hj hjk hun hno => ⟨?_, .inl hk⟩) (by simpa using hc.1) hy H
      exact Region.free_spec (ops := ops.toArray) (by rw [List.getElem?_toArray]; exact h0) hc.2 j oj (by rw [List.getElem?_toArray]; exact hj) hjk hun hno
    | read =>
      simp only [hk, Bool.and_eq_true] at hc
      obtain ⟨⟨⟨c1, c2⟩, c3⟩, c4⟩ := hc
      obtain ⟨d1, d2⟩ := descChk_spec c3
      refine AAny_firstD h0 (fun j => (descOf ops.toArray k).getD j false) (fun j oj hj hD => d2 j oj (by rw [List.getElem?_toArray]; exact hj) hD) hne hd rest.length listed st L (fun j oj hj hjk hDj hun hno => ⟨?_, .inr ?_⟩) d1 (by simpa using c1) hy H
      · exact Region.free_spec (ops := ops.toArray) (by rw [List.getElem?_toArray]; exact h0) c2 j oj (by rw [List.getElem?_toArray]; exact hj) hjk hun hno
      · have h3 := List.all_eq_true.1 c4 j (List.mem_range.2 (by
          have := (List.getElem?_eq_some_iff.1 hj).1; simpa using this))
        have hDj : (descOf ops.toArray k).getD j false = false := hDj
        simp only [List.getElem?_toArray, hj, Bool.or_eq_true, beq_iff_eq, hjk, false_or, hun, hDj, Bool.false_eq_true, or_false, bne_iff_ne] at h3
        rcases h3 with h3 | h3
        · exact h3
        · obtain ⟨e, he, hb⟩ := Array.any_eq_true'.1 h3
          simp only [Bool.and_eq_true, beq_iff_eq] at hb
          exact absurd hb.2 (hno e he hb.1)
  induction h with
  | nil hq =>
    intro is listed hn _ hc
    obtain rfl : is = [] := List.length_eq_zero_iff.1 hn
    exact ⟨by simpa [chkD] using hc, hq⟩
  | @skip o kd rest st L hd hg _ ih =>
    intro is listed hn hl hc
    obtain ⟨k, is, rfl⟩ : ∃ k is', is = k :: is' := by
      cases is with
      | nil => simp at hn
      | cons k is => exact ⟨k, is, rfl⟩
    obtain ⟨h0, hk0⟩ := hl 0 k _ rfl rfl
    simp only at h0 hk0
    simp only [List.length_cons, chkD, Bool.and_eq_true] at hc
    have H := ih is (listed.setIfInBounds k true) (by simpa using hn) (fun j k' p a b => hl (j + 1) k' p (by simpa using a) (by simpa using b)) hc.2
    by_cases he : ks.getD k .eff = .eff
    · refine ⟨fun h => ?_, fun i hi oi hoi => ?_⟩
      · simp only [he] at hc; rw [h] at hc; simp at hc
      · simp only [he] at hc
        have hr : Region.ready .any ops.toArray listed = [k] := by simpa using hc.1
        rw [hr] at hi
        have hik : i = k := by simpa using hi
        subst hik
        rw [h0] at hoi; cases hoi
        exact ⟨hd, .inl ⟨hg, H⟩⟩
    · exact quiet (kd := kd) k listed hd h0 he (.inr ⟨hg, rfl⟩) hc.1 H
  | @pure o kd rest st L x hd hg hq _ ih =>
    intro is listed hn hl hc
    obtain ⟨k, is, rfl⟩ : ∃ k is', is = k :: is' := by
      cases is with
      | nil => simp at hn
      | cons k is => exact ⟨k, is, rfl⟩
    obtain ⟨h0, hk0⟩ := hl 0 k _ rfl rfl
    simp only at h0 hk0
    simp only [List.length_cons, chkD, Bool.and_eq_true] at hc
    have H := ih is (listed.setIfInBounds k true) (by simpa using hn) (fun j k' p a b => hl (j + 1) k' p (by simpa using a) (by simpa using b)) hc.2
    by_cases he : ks.getD k .eff = .eff
    · refine ⟨fun h => ?_, fun i hi oi hoi => ?_⟩
      · simp only [he] at hc; rw [h] at hc; simp at hc
      · simp only [he] at hc
        have hr : Region.ready .any ops.toArray listed = [k] := by simpa using hc.1
        rw [hr] at hi
        have hik : i = k := by simpa using hi
        subst hik
        rw [h0] at hoi; cases hoi
        refine ⟨hd, .inr ⟨hg, ?_⟩⟩
        rw [he]
        exact (hq.any L).op H
    · refine quiet (kd := kd) k listed hd h0 he (.inl ⟨hg, ?_⟩) hc.1 H
      cases hk' : ks.getD k .eff <;> first | exact hq | exact hq.any L
  | @read o kd rest st L x hd hg hne hq _ ih =>
    intro is listed hn hl hc
    obtain ⟨k, is, rfl⟩ : ∃ k is', is = k :: is' := by
      cases is with
      | nil => simp at hn
      | cons k is => exact ⟨k, is, rfl⟩
    obtain ⟨h0, hk0⟩ := hl 0 k _ rfl rfl
    simp only at h0 hk0
    simp only [List.length_cons, chkD, Bool.and_eq_true] at hc
    have H := ih is (listed.setIfInBounds k true) (by simpa using hn) (fun j k' p a b => hl (j + 1) k' p (by simpa using a) (by simpa using b)) hc.2
    by_cases he : ks.getD k .eff = .eff
    · refine ⟨fun h => ?_, fun i hi oi hoi => ?_⟩
      · simp only [he] at hc; rw [h] at hc; simp at hc
      · simp only [he] at hc
        have hr : Region.ready .any ops.toArray listed = [k] := by simpa using hc.1
        rw [hr] at hi
        have hik : i = k := by simpa using hi
        subst hik
        rw [h0] at hoi; cases hoi
        refine ⟨hd, .inr ⟨hg, ?_⟩⟩
        rw [he]
        exact hq.op H
    · refine quiet (kd := kd) k listed hd h0 he (.inl ⟨hg, ?_⟩) hc.1 H
      rw [hk0] at hne
      cases hk' : ks.getD k .eff with
      | pure => exact absurd hk' hne
      | eff => exact absurd hk' he
      | read => exact hq
  | @eff o rest st L K hd hg hop _ ih =>
    intro is listed hn hl hc
    obtain ⟨k, is, rfl⟩ : ∃ k is', is = k :: is' := by
      cases is with
      | nil => simp at hn
      | cons k is => exact ⟨k, is, rfl⟩
    obtain ⟨h0, hk0⟩ := hl 0 k _ rfl rfl
    simp only at h0 hk0
    simp only [List.length_cons, chkD, Bool.and_eq_true, ← hk0] at hc
    have hr : Region.ready .any ops.toArray listed = [k] := by simpa using hc.1
    refine ⟨fun h => ?_, fun i hi oi hoi => ?_⟩
    · rw [h] at hr; cases hr
    · rw [hr] at hi
      have hik : i = k := by simpa using hi
      subst hik
      rw [h0] at hoi; cases hoi
      refine ⟨hd, .inr ⟨hg, ?_⟩⟩
      rw [← hk0]
      refine hop.mono fun x L' hK => ?_
      exact ih x L' hK is (listed.setIfInBounds i true) (by simpa using hn) (fun j k' p a b => hl (j + 1) k' p (by simpa using a) (by simpa using b)) hc.2
theorem a_regRO {P : Program} {N : Nat} {Q : Exit → St → Own → Prop} {st : St} {L : Own} {id : Nat} {l : List Oper} (is : List Nat) (hm : P.follows .mixedOrders = true) (hlen : is.length = l.length) (hin : is.all (fun i => Nat.blt i l.length) = true)
    (hc : chkD l.toArray (l.map fun o => kdOfR o.op) is (Array.replicate l.length false) = true)
    (h : AL P N l (fun st' L' => Q .normal st' L') (is.filterMap fun i => match l[i]? with | some o => some (o, kdOfR o.op) | none => none) st L) : AWp P N (.region id l.toArray true) Q st L :=
  ⟨fun σ F w a hr ht => wp_region_any hm (by
    have hget : ∀ (is : List Nat), is.all (fun i => Nat.blt i l.length) = true → ∀ j : Nat, (is.filterMap fun i => match l[i]? with | some o => some (o, kdOfR o.op) | none => none)[j]? = (is[j]?).bind fun i => match l[i]? with | some o => some (o, kdOfR o.op) | none => none := by
      intro is
      induction is with
      | nil => intro _ j; simp
      | cons i is ih =>
        intro hall j
        simp only [List.all_cons, Bool.and_eq_true] at hall
        have hi : i < l.length := by simpa [Nat.blt_eq] using hall.1
        have e : l[i]? = some l[i] := List.getElem?_eq_getElem hi
        rw [List.filterMap_cons]
        simp only [e]
        cases j with
        | zero => simp [e]
        | succ j => simpa using ih hall.2 j
    have hl2 : (is.filterMap fun i => match l[i]? with | some o => some (o, kdOfR o.op) | none => none).length = l.length := by
      rw [← hlen]
      clear hc h hlen
      induction is with
      | nil => rfl
      | cons i is ih =>
        simp only [List.all_cons, Bool.and_eq_true] at hin
        have hi : i < l.length := by simpa [Nat.blt_eq] using hin.1
        have e : l[i]? = some l[i] := List.getElem?_eq_getElem hi
        rw [List.filterMap_cons]
        simp only [e, List.length_cons, ih hin.2]
    have h1 := AAny_ordD (ks := l.map fun o => kdOfR o.op) h is (Array.replicate l.length false) (by rw [hl2, hlen]) (fun j k p hj hp => by
      rw [hget is hin j, hj] at hp
      simp only [Option.bind_some] at hp
      cases e : l[k]? with
      | none => rw [e] at hp; cases hp
      | some o =>
        rw [e] at hp
        cases hp
        exact ⟨rfl, by simp [List.getD_eq_getElem?_getD, e]⟩) hc
    rw [hl2] at h1
    have := AAny_wp (F := F) (Q' := Post σ N F Q) l.length _ st L σ a { w with drawn := w.drawn + 1 } h1 (hr.grow (fun _ _ => rfl) rfl rfl) ht (fun τ st' L' a' w' a1 a2 a3 a4 => ⟨τ, st', L', a1, a2, a3, a4⟩)
    simpa using this)⟩
theorem s_storeQ {P : Program} {N : Nat} {ops : List Oper} {Q : St → Own → Prop} {L : Own} {rest : List (Oper × Kd)} {l : List (Nat × AV)} {tt : List (TypeId × TD)} (ok : TOK P tt) (i : Nat) {o : Oper} {T : TypeId} {x y : Operand} {d : TD} {v : Value} {ob ob' : OB} {sz j off : Nat} {cells : List AV} {a : AV}
    (ho : o.op = .store T x y) (hdst : o.dst = none) (hg : guardA ops o (lk l) = some true) (hT : lkT tt T = some d) (hx : ev (lk l) x = .pt v sz j off) (hy : ev (lk l) y = a) (ha : a.storable = true) (hal : a.cells.length = d.size) (hd0 : 0 < d.size)
    (hL : L[i]? = some (v, ob)) (hf : obFit ob sz j = true) (hc : obAt ob j off = some cells) (hle : a.cells.length ≤ cells.length) (he : obSet ob j off a.cells = ob')
    (n : AL P N ops Q rest (lk l) (L.set i (v, ob'))) : AL P N ops Q ((o, .eff) :: rest) (lk l) L :=
  s_store ok i ho hdst hg hT hx hy ha hal hd0 hL hf hc hle (by rw [he]; exact n)
end Go.Sj
namespace Go.Sj
section
variable {P : Program} {N : Nat} {ops : List Oper} {Q : St → Own → Prop} {L : Own} {rest : List (Oper × Kd)} {l : List (Nat × AV)} {k : Kd} {q : Nat}
end
end Go.Sj
namespace Go.Sj
section
variable {P : Program} {N : Nat} {ops : List Oper} {Q : St → Own → Prop} {L : Own} {rest : List (Oper × Kd)} {l : List (Nat × AV)} {k : Kd} {q : Nat}
end
end Go.Sj
namespace Go.Sj
def FinC (ca : Nat) (d : TD) (R : AV → Own → Prop) (e : Exit) (st : St) (L : Own) : Prop :=
  (e = .normal ∨ e = .ret) ∧ ∃ cells x y M, st ca = .ip cells ∧ partA d cells 0 = some x ∧ Turn x L y M ∧ R y M
theorem cell_run {P : Program} {T : TypeId} {d : TD} (hT : TI P T d) {σ : Hp} {L : Own} {F : Fr} {w : World} (hr : HRel σ L F w) {cells : List AV} {v : Value} (hv : VR σ (.ip cells) v) {x : AV} (hx : partA d cells 0 = some x) :
    ∃ u, (do loadVar T (← asAddr v)).run P w = .ok u w ∧ VR σ x u := by
  cases hv with
  | ip _ b off c E fr f h1 h2 h3 =>
    have hb := hr.agree _ _ h1
    obtain ⟨u, hu, hxu⟩ := load_run (P := P) hT (σ := σ) (l := cells) (w := w) (b := b) (off := off) (f := f)
      (fun j a ha => by rw [cell_at hb]; exact h2 j a ha) h3 hx
    refine ⟨u, ?_, hxu⟩
    simpa [Instr.loadAt, Instr.sureAddr, asAddr] using hu
theorem a_enterC {P : Program} {f : FuncId} {fn : Func} {c : Code} {N : Nat} {ca : Nat} {T : TypeId} {d : TD} {args : List AV} {L : Own} {R : AV → Own → Prop}
    (hf : P.funcs[f]? = some fn) (hname : (fn.name == "runtime.NumGoroutine") = false) (hb : fn.body = some c) (hn : fn.ntmps = N) (hr : fn.results = #[.cell ca T]) (hT : TI P T d) (ha : args.length ≤ N)
    (h : AWp P N c (FinC ca d R) (lk (enum 0 args)) L) : ACalls P f args L R :=
  ⟨⟨fn, hf, hname, by rw [hb]; rfl⟩, fun σ F w vs hL hvs => by
    refine calls_of_wp hf hb (wp_mono (h.out σ F w _ hL ?_) ?_)
    · refine ⟨rfl, ?_, fun i => ?_⟩
      · simp [hn]; have := hvs.1; omega
      · have h1 := lk_enum σ args vs 0 i undef hvs (Nat.zero_le _)
        simp only [Nat.sub_zero] at h1
        simp only [Array.getD_eq_getD_getElem?, Array.getElem?_append, List.size_toArray, List.getElem?_toArray, Array.getElem?_replicate]
        split
        · rename_i hi; simpa [List.getD_eq_getElem?_getD] using h1
        · rename_i hi
          have hn : vs[i]? = none := by simp at hi ⊢; omega
          rw [List.getD_eq_getElem?_getD, hn] at h1
          split <;> exact h1
    · rintro e a w' ⟨τ, st, L', a1, a2, a3, he, cells, x, y, M, hc, hx, ht, hR⟩
      have hca := a3.vals ca
      rw [hc] at hca
      obtain ⟨v, hv, hxv⟩ := cell_run hT a2 hca hx
      have hres : (results fn a.tmps).run P w' = .ok v w' := by
        rw [results_eq, hr]
        have e1 : (#[ResultVar.cell ca T]).mapM (resOne a.tmps) = (do let u ← resOne a.tmps (.cell ca T); pure #[u]) := by simp [List.mapM_toArray]
        rw [e1]
        simp only [resOne, Sem.run_bind] at hv ⊢
        rw [hv]
        simp [Sem.run_pure]
      obtain ⟨υ, b1, b2, b3⟩ := ht τ F w' v a2 hxv
      have : a.defers = [] ∧ ∃ v, (results fn a.tmps).run P w' = .ok v w' ∧ ∃ u, Ending.returned v = .returned u ∧ ∃ τ x L', σ.le τ ∧ HRel τ L' F w' ∧ VR τ x u ∧ R x L' :=
        ⟨a3.defers, v, hres, v, rfl, υ, y, M, Hp.le_trans a1 b1, b2, b3, hR⟩
      rcases he with rfl | rfl
      · exact this
      · exact this⟩
end Go.Sj
end
