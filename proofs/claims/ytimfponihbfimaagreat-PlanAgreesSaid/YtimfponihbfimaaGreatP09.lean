/- Parts of a proof. -/
import Derived.Handy
import Derived.Test.YtimfponihbfimaaGreatP08
set_option linter.unusedVariables false
set_option linter.unusedSimpArgs false
section
namespace Go.Sj
def OWk : Own → Own → Prop
  | [], [] => True
  | (v, .box c) :: L, (v', .box c') :: M => v = v' ∧ SubL c c' ∧ OWk L M
  | p :: L, p' :: M => p = p' ∧ OWk L M
  | _, _ => False
theorem OWk.refl : ∀ L : Own, OWk L L
  | [] => trivial
  | (v, .box c) :: L => ⟨rfl, SubL.refl c, OWk.refl L⟩
  | (v, .row E s e) :: L => ⟨rfl, OWk.refl L⟩
  | (v, .mp m) :: L => ⟨rfl, OWk.refl L⟩
theorem OWk.own {σ : Hp} {w : World} : ∀ {L M : Own}, OWk L M → (∀ p ∈ L, Own1 σ w p) → (∀ p ∈ M, Own1 σ w p) ∧ M.filterMap (blk ∘ Prod.fst) = L.filterMap (blk ∘ Prod.fst)
  | [], [], _, _ => ⟨fun p hp => (by cases hp), rfl⟩
  | [], _ :: _, h, _ => by cases h
  | (v, .box c) :: L, [], h, _ => by cases h
  | (v, .row E s e) :: L, [], h, _ => by cases h
  | (v, .mp m) :: L, [], h, _ => by cases h
  | (v, .box c) :: L, (v', .box c') :: M, h, hL => by
    obtain ⟨rfl, h2, h3⟩ := h
    obtain ⟨k1, k2⟩ := OWk.own h3 (fun p hp => hL p (List.mem_cons_of_mem _ hp))
    refine ⟨fun p hp => ?_, by rw [List.filterMap_cons, List.filterMap_cons, k2]; rfl⟩
    rcases List.mem_cons.1 hp with rfl | hp
    · obtain ⟨b, cc, E, e1, e2, e3⟩ := hL _ (List.mem_cons_self ..)
      exact ⟨b, cc, E, e1, e2, h2.vrs e3⟩
    · exact k1 p hp
  | (v, .box c) :: L, (v', .row E' s' e') :: M, h, _ => by cases h.1
  | (v, .box c) :: L, (v', .mp m') :: M, h, _ => by cases h.1
  | (v, .row E s e) :: L, p' :: M, h, hL => by
    obtain ⟨rfl, h3⟩ := h
    obtain ⟨k1, k2⟩ := OWk.own h3 (fun p hp => hL p (List.mem_cons_of_mem _ hp))
    refine ⟨fun p hp => ?_, by rw [List.filterMap_cons, List.filterMap_cons, k2]⟩
    rcases List.mem_cons.1 hp with rfl | hp
    · exact hL _ (List.mem_cons_self ..)
    · exact k1 p hp
  | (v, .mp m) :: L, p' :: M, h, hL => by
    obtain ⟨rfl, h3⟩ := h
    obtain ⟨k1, k2⟩ := OWk.own h3 (fun p hp => hL p (List.mem_cons_of_mem _ hp))
    refine ⟨fun p hp => ?_, by rw [List.filterMap_cons, List.filterMap_cons, k2]⟩
    rcases List.mem_cons.1 hp with rfl | hp
    · exact hL _ (List.mem_cons_self ..)
    · exact k1 p hp
theorem HRel.weak {σ : Hp} {F : Fr} {w : World} {L M : Own} (h : HRel σ L F w) (k : OWk L M) : HRel σ M F w := by
  obtain ⟨k1, k2⟩ := k.own h.own
  exact ⟨h.agree, h.frame, h.os, h.out, k1, h.sep, by rw [k2]; exact h.nodup, by rw [k2]; exact h.apart⟩
theorem GoTo.weak {N : Nat} {st st' : St} {L L' : Own} (h : SubS st st') (k : OWk L L') : GoTo N st L st' L' := fun σ F w a hr ht => ⟨σ, σ.le_refl, hr.weak k, ht.sub h⟩
end Go.Sj
namespace Go.Sj
section
variable {P : Program} {N : Nat} {ops : List Oper} {Q : St → Own → Prop} {L : Own} {rest : List (Oper × Kd)} {l : List (Nat × AV)} {k : Kd} {q : Nat}
theorem cT {o : Oper} {op : BinOp} {T T' : TypeId} {x y : Operand} {kk : IntKind} {a b : Int} (ho : o.op = .binOp op T x y T') (hdst : o.dst = some q) (hd : Nat.blt q N = true) (hg : guardA ops o (lk l) = some true)
    (hx : ev (lk l) x = .lit (.int kk a)) (hy : ev (lk l) y = .lit (.int kk b)) (hc : isCmp op = true)
    (n : AL P N ops Q rest (lk ((q, .lit (.bool true)) :: l)) L) (h : cmpP op a b := by first | (simp only [cmpP]; omega) | exact rfl) : AL P N ops Q ((o, k) :: rest) (lk l) L := s_cmpT ho hdst hd hg hx hy hc h n
theorem cF {o : Oper} {op : BinOp} {T T' : TypeId} {x y : Operand} {kk : IntKind} {a b : Int} (ho : o.op = .binOp op T x y T') (hdst : o.dst = some q) (hd : Nat.blt q N = true) (hg : guardA ops o (lk l) = some true)
    (hx : ev (lk l) x = .lit (.int kk a)) (hy : ev (lk l) y = .lit (.int kk b)) (hc : isCmp op = true)
    (n : AL P N ops Q rest (lk ((q, .lit (.bool false)) :: l)) L) (h : ¬ cmpP op a b := by first | (simp only [cmpP]; omega) | exact rfl) : AL P N ops Q ((o, k) :: rest) (lk l) L := s_cmpF ho hdst hd hg hx hy hc h n
theorem cA {o : Oper} {op : BinOp} {T T' : TypeId} {x y : Operand} {kk : IntKind} {a b r : Int} (ho : o.op = .binOp op T x y T') (hdst : o.dst = some q) (hd : Nat.blt q N = true) (hg : guardA ops o (lk l) = some true)
    (hx : ev (lk l) x = .lit (.int kk a)) (hy : ev (lk l) y = .lit (.int kk b)) (hc : arI op a b = some r)
    (n : AL P N ops Q rest (lk ((q, .lit (.int kk r)) :: l)) L) (h : kk.wrap r = r := by first | (exact IntWalk.i64_in _ (by omega)) | (exact IntWalk.u8_in _ (by omega))) : AL P N ops Q ((o, k) :: rest) (lk l) L := s_arith ho hdst hd hg hx hy hc h n
section heads
variable {tt : List (TypeId × TD)} (ok : TOK P tt) {o : Oper}
include ok
theorem tL {v : Value} (n : AL P N ops Q rest (lk ((q, .lit v) :: l)) L) (hdst : o.dst = some q := by exact rfl) (hd : Nat.blt q N = true := by exact rfl) (hg : guardA ops o (lk l) = some true := by exact rfl) (h : pe tt (lk l) o.op = some (.lit v) := by exact rfl) : AL P N ops Q ((o, k) :: rest) (lk l) L := s_pe ok hdst hd hg h n
theorem tI {sz : Nat} {es : List (List AV)} (n : AL P N ops Q rest (lk ((q, .im sz es) :: l)) L) (hdst : o.dst = some q := by exact rfl) (hd : Nat.blt q N = true := by exact rfl) (hg : guardA ops o (lk l) = some true := by exact rfl) (h : pe tt (lk l) o.op = some (.im sz es) := by exact rfl) : AL P N ops Q ((o, k) :: rest) (lk l) L := s_pe ok hdst hd hg h n
theorem tP {c : List AV} (n : AL P N ops Q rest (lk ((q, .ip c) :: l)) L) (hdst : o.dst = some q := by exact rfl) (hd : Nat.blt q N = true := by exact rfl) (hg : guardA ops o (lk l) = some true := by exact rfl) (h : pe tt (lk l) o.op = some (.ip c) := by exact rfl) : AL P N ops Q ((o, k) :: rest) (lk l) L := s_pe ok hdst hd hg h n
theorem tQ {v : Value} {sz j off : Nat} (n : AL P N ops Q rest (lk ((q, .pt v sz j off) :: l)) L) (hdst : o.dst = some q := by exact rfl) (hd : Nat.blt q N = true := by exact rfl) (hg : guardA ops o (lk l) = some true := by exact rfl) (h : pe tt (lk l) o.op = some (.pt v sz j off) := by exact rfl) : AL P N ops Q ((o, k) :: rest) (lk l) L := s_pe ok hdst hd hg h n
theorem tU {c : List AV} (n : AL P N ops Q rest (lk ((q, .tup c) :: l)) L) (hdst : o.dst = some q := by exact rfl) (hd : Nat.blt q N = true := by exact rfl) (hg : guardA ops o (lk l) = some true := by exact rfl) (h : pe tt (lk l) o.op = some (.tup c) := by exact rfl) : AL P N ops Q ((o, k) :: rest) (lk l) L := s_pe ok hdst hd hg h n
theorem tF {f : Fn} {a b : List AV} (n : AL P N ops Q rest (lk ((q, .fn f a b) :: l)) L) (hdst : o.dst = some q := by exact rfl) (hd : Nat.blt q N = true := by exact rfl) (hg : guardA ops o (lk l) = some true := by exact rfl) (h : pe tt (lk l) o.op = some (.fn f a b) := by exact rfl) : AL P N ops Q ((o, k) :: rest) (lk l) L := s_pe ok hdst hd hg h n
end heads
end
section fins
variable {rs : List ResultVar} {R : AV → Own → Prop} {st : St} {L : Own}
theorem zL {v : Value} (hx : resA st rs = some (.lit v)) (hr : R (.lit v) []) : FinP rs R .ret st L := fin (.inr rfl) hx (Sub.refl _) hr (OSub.none _)
theorem zI {s : Nat} {es : List (List AV)} (hx : resA st rs = some (.im s es)) (hr : R (.im s es) []) : FinP rs R .ret st L := fin (.inr rfl) hx (Sub.refl _) hr (OSub.none _)
theorem zT {v w : Value} (hx : resA st rs = some (.tup [.lit v, .lit w])) (hr : R (.tup [.lit v, .lit w]) []) : FinP rs R .ret st L := fin (.inr rfl) hx (Sub.refl _) hr (OSub.none _)
theorem zU {s : Nat} {es : List (List AV)} {w : Value} (hx : resA st rs = some (.tup [.im s es, .lit w])) (hr : R (.tup [.im s es, .lit w]) []) : FinP rs R .ret st L := fin (.inr rfl) hx (Sub.refl _) hr (OSub.none _)
theorem zV {v w u : Value} (hx : resA st rs = some (.tup [.lit v, .lit w, .lit u])) (hr : R (.tup [.lit v, .lit w, .lit u]) []) : FinP rs R .ret st L := fin (.inr rfl) hx (Sub.refl _) hr (OSub.none _)
theorem zA {c : List AV} (hx : resA st rs = some (.agg c)) (hr : R (.agg c) []) : FinP rs R .ret st L := fin (.inr rfl) hx (Sub.refl _) hr (OSub.none _)
end fins
end Go.Sj
namespace Go.Sj
def inL : List Nat → Nat → Bool
  | [], _ => false
  | a :: l, i => bif Nat.beq a i then true else inL l i
def AAnyG (P : Program) (N : Nat) (ops : List Oper) (ks : List Kd) (gs : List Nat) (Q : St → Own → Prop) : Nat → Array Bool → St → Own → Prop
  | 0, listed, st, L => Region.ready .any ops.toArray listed = [] ∧ Q st L
  | fuel + 1, listed, st, L =>
    (Region.ready .any ops.toArray listed = [] → Q st L) ∧
    ∀ i ∈ Region.ready .any ops.toArray listed, ∀ o, ops[i]? = some o → AK P N ops (ks.getD i .eff) o (fun st' L' => (inL gs i = true → OSub L L') ∧ AAnyG P N ops ks gs Q fuel (listed.setIfInBounds i true) st' L') st L
section
variable {P : Program} {N : Nat} {ops : List Oper} {ks : List Kd} {gs : List Nat} {Q : St → Own → Prop}
theorem AAnyG.any : ∀ (fuel : Nat) (listed : Array Bool) (st : St) (L : Own), AAnyG P N ops ks gs Q fuel listed st L → AAny P N ops ks Q fuel listed st L
  | 0, _, _, _, h => h
  | fuel + 1, listed, st, L, h => ⟨h.1, fun i hi o ho => (h.2 i hi o ho).mono fun st' L' k => AAnyG.any fuel _ st' L' k.2⟩
theorem AQ.osub {o : Oper} {st : St} {L M : Own} {x : AV} (h : AQ P o st L x) (k : OSub L M) : AQ P o st M x :=
  ⟨fun σ F w ρ hr hv => h.out σ F w ρ (hr.osub k) hv⟩
theorem AK_putG {ki kj : Kd} {oi oj : Oper} {x : AV} {g : Bool} (hap : oi.apart ops.toArray oj = true) (hik : ki = .pure ∨ kj ≠ .eff ∨ g = true) {K : St → Own → Prop} {st : St} {L : Own}
    (hy : YA P ops ki oi x st L) (h : AK P N ops kj oj (fun st' L' => (g = true → OSub L L') ∧ K st' L') (updO st oi.dst x) L) :
    AK P N ops kj oj (fun st' L' => YA P ops ki oi x st' L' ∧ (g = true → OSub L L') ∧ K (updO st' oi.dst x) L') st L := by
  obtain ⟨h1, h2, h3⟩ := Oper.apart_spec hap
  have keep : ∀ (u : AV) (L' : Own), (ki = .pure ∨ OSub L L') → YA P ops ki oi x (updO st oj.dst u) L' := by
    intro u L' hL
    unfold YA at hy ⊢
    rw [guardA_updO h3]
    rcases hy with ⟨hg, hq⟩ | hy
    · refine .inl ⟨hg, ?_⟩
      rcases hL with rfl | hL
      · exact (AQ.updO h3).2 hq
      · refine (AQ.updO h3).2 ?_
        cases ki with
        | pure => exact hq
        | read => exact hq.osub hL
        | eff => exact hq.osub hL
    · exact .inr hy
  have hc : ∀ u, updO (updO st oi.dst x) oj.dst u = updO (updO st oj.dst u) oi.dst x := fun u => updO_comm st x u h2
  obtain ⟨hd, h⟩ := h
  refine ⟨hd, ?_⟩
  rw [guardA_updO h1] at h
  rcases h with ⟨hg, h⟩ | ⟨hg, h⟩
  · exact .inl ⟨hg, keep _ _ (.inr (OSub.refl _)), h.1, by rw [← hc]; exact h.2⟩
  · refine .inr ⟨hg, ?_⟩
    cases kj with
    | eff =>
      refine ((AOp.updO h1).1 h).mono fun u L' hu => ⟨keep _ _ ?_, hu.1, by rw [← hc]; exact hu.2⟩
      rcases hik with hik | hik | hik
      · exact .inl hik
      · exact absurd rfl hik
      · exact .inr (hu.1 hik)
    | read =>
      obtain ⟨u, hu, h⟩ := h
      exact ⟨u, (AQ.updO h1).1 hu, keep _ _ (.inr (OSub.refl _)), h.1, by rw [← hc]; exact h.2⟩
    | pure =>
      obtain ⟨u, hu, h⟩ := h
      exact ⟨u, (AQ.updO h1).1 hu, keep _ _ (.inr (OSub.refl _)), h.1, by rw [← hc]; exact h.2⟩
theorem AAny_firstG {i : Nat} {oi : Oper} {x : AV} (hi : ops[i]? = some oi) (D : Nat → Bool) (hD2 : ∀ j oj, ops[j]? = some oj → D j = true → ∃ e ∈ oj.after, Region.binds .any e = true ∧ (e.on = i ∨ D e.on = true)) (hki : ks.getD i .eff ≠ .eff) (hd : ∀ d, oi.dst = some d → d < N) :
    ∀ (fuel : Nat) (listed : Array Bool) (st : St) (L : Own),
      (∀ j oj, ops[j]? = some oj → j ≠ i → D j = false → listed.getD j true = false → (∀ e ∈ oj.after, Region.binds .any e = true → e.on ≠ i) → oi.apart ops.toArray oj = true ∧ (ks.getD i .eff = .pure ∨ ks.getD j .eff ≠ .eff ∨ inL gs j = true)) →
      (∀ j, D j = true → listed.getD j true = false) →
      i ∈ Region.ready .any ops.toArray listed → YA P ops (ks.getD i .eff) oi x st L →
      AAnyG P N ops ks gs Q fuel (listed.setIfInBounds i true) (updO st oi.dst x) L → AAnyG P N ops ks gs Q (fuel + 1) listed st L := by
  intro fuel
  induction fuel with
  | zero =>
    intro listed st L _ _ hr hy H
    refine ⟨fun h => (by rw [h] at hr; cases hr), fun j hj oj hoj => ?_⟩
    by_cases hji : j = i
    · subst hji; rw [hi] at hoj; cases hoj; exact hy.ak hki hd ⟨fun _ => OSub.refl _, H⟩
    · have := ready_mono hj hji
      rw [H.1] at this
      cases this
  | succ fuel ih =>
    intro listed st L hfree hD1 hr hy H
    refine ⟨fun h => (by rw [h] at hr; cases hr), fun j hj oj hoj => ?_⟩
    by_cases hji : j = i
    · subst hji; rw [hi] at hoj; cases hoj; exact hy.ak hki hd ⟨fun _ => OSub.refl _, H⟩
    · have h1 := H.2 j (ready_mono hj hji) oj hoj
      obtain ⟨hjun, oj', hoj', hall⟩ := mem_ready.1 hj
      rw [List.getElem?_toArray, hoj] at hoj'
      cases hoj'
      have hnot : ∀ e ∈ oj.after, Region.binds .any e = true → e.on ≠ i := fun e he hb heq => by
        have h1 := hall e he hb
        have h0 := (mem_ready.1 hr).1
        rw [heq] at h1
        rcases Nat.lt_or_ge i listed.size with h' | h'
        · simp [h'] at h0 h1; rw [h0] at h1; cases h1
        · simp [Array.getElem?_eq_none h'] at h1
      have hi0 : listed.getD i false = false := by
        have h0 := (mem_ready.1 hr).1
        rcases Nat.lt_or_ge i listed.size with h' | h'
        · simp [h'] at h0 ⊢; exact h0
        · simp [Array.getElem?_eq_none h'] at h0
      have hDj : D j = false := by
        cases e : D j with
        | false => rfl
        | true =>
          obtain ⟨ed, he, hb, hon⟩ := hD2 j oj hoj e
          have h1 := hall ed he hb
          rcases hon with hon | hon
          · rw [hon, hi0] at h1; cases h1
          · have h5 := hD1 _ hon
            rcases Nat.lt_or_ge ed.on listed.size with h' | h'
            · simp [h'] at h1 h5; rw [h5] at h1; cases h1
            · simp [Array.getElem?_eq_none h'] at h1
      obtain ⟨hap, hkk⟩ := hfree j oj hoj hji hDj hjun hnot
      have h2 := AK_putG hap hkk hy h1
      have hfree' : ∀ k ok, ops[k]? = some ok → k ≠ i → D k = false → (listed.setIfInBounds j true).getD k true = false →
          (∀ e ∈ ok.after, Region.binds .any e = true → e.on ≠ i) → oi.apart ops.toArray ok = true ∧ (ks.getD i .eff = .pure ∨ ks.getD k .eff ≠ .eff ∨ inL gs k = true) := fun k ok hk hki hDk hun hno => by
        refine hfree k ok hk hki hDk ?_ hno
        by_cases hjk : j = k
        · subst hjk; exact hjun
        · rw [getD_set_ne true hjk] at hun; exact hun
      refine AK.mono (fun st' L' h3 => ⟨h3.2.1, ih (listed.setIfInBounds j true) st' L' hfree' (fun k hk => by
        have hjk : j ≠ k := fun e => by rw [e, hk] at hDj; cases hDj
        rw [getD_set_ne true hjk]
        exact hD1 k hk) (ready_mono hr (Ne.symm hji)) h3.1 ?_⟩) h2
      rw [Array.setIfInBounds_comm _ _ hji]
      exact h3.2.2
def stepG (ops : Array Oper) (ks : List Kd) (gs : List Nat) (k : Nat) (listed : Array Bool) : Bool :=
    (match ks.getD k .eff with
      | .pure => (Region.ready .any ops listed).contains k && Region.free .any ops listed k
      | .read => (Region.ready .any ops listed).contains k && Region.free .any ops listed k && descChk ops listed k (descOf ops k) &&
          (List.range ops.size).all fun j => j == k || listed.getD j true || ks.getD j .eff != .eff || inL gs j || (descOf ops k).getD j false || (match ops[j]? with
            | some oj => oj.after.any (fun e => Region.binds .any e && e.on == k)
            | none => true)
      | .eff => (Region.ready .any ops listed == [k]) && !inL gs k)
def chkG (ops : Array Oper) (ks : List Kd) (gs : List Nat) : List Nat → Array Bool → Option (Array Bool)
  | [], listed => some listed
  | k :: is, listed => if stepG ops ks gs k listed then chkG ops ks gs is (listed.setIfInBounds k true) else none
theorem chkG_cons {ops : Array Oper} {k : Nat} {is : List Nat} {listed li : Array Bool} (h : chkG ops ks gs (k :: is) listed = some li) : stepG ops ks gs k listed = true ∧ chkG ops ks gs is (listed.setIfInBounds k true) = some li := by
  simp only [chkG] at h
  split at h
  · rename_i h1; exact ⟨h1, h⟩
  · cases h
theorem AAny_preG {Q' : St → Own → Prop} {l : List (Oper × Kd)} {st : St} {L : Own} {fuel : Nat} {li : Array Bool} (h : AL P N ops Q' l st L)
    (hQ : ∀ st L, Q' st L → AAnyG P N ops ks gs Q fuel li st L) :
    ∀ (is : List Nat) (listed : Array Bool), is.length = l.length → (∀ (j k : Nat) (p : Oper × Kd), is[j]? = some k → l[j]? = some p → ops[k]? = some p.1 ∧ p.2 = ks.getD k .eff) →
      chkG ops.toArray ks gs is listed = some li → AAnyG P N ops ks gs Q (l.length + fuel) listed st L := by
  have quiet : ∀ {o : Oper} {st : St} {L : Own} {x : AV} (k m : Nat) (listed : Array Bool), (∀ d, o.dst = some d → d < N) → ops[k]? = some o → ks.getD k .eff ≠ .eff →
      YA P ops (ks.getD k .eff) o x st L → stepG ops.toArray ks gs k listed = true →
      AAnyG P N ops ks gs Q m (listed.setIfInBounds k true) (updO st o.dst x) L → AAnyG P N ops ks gs Q (m + 1) listed st L := by
    intro o st L x k m listed hd h0 hne hy hc H
    unfold stepG at hc
    cases hk : ks.getD k .eff with
    | eff => exact absurd hk hne
    | pure =>
      simp only [hk, Bool.and_eq_true] at hc
      refine AAny_firstG h0 (fun _ => false) (fun j oj hj hD => by cases hD) hne hd m listed st L (fun j oj hj hjk hDj hun hno => ⟨?_, .inl hk⟩) (fun j h => by cases h) (by simpa using hc.1) hy H
      exact Region.free_spec (ops := ops.toArray) (by rw [List.getElem?_toArray]; exact h0) hc.2 j oj (by rw [List.getElem?_toArray]; exact hj) hjk hun hno
    | read =>
      simp only [hk, Bool.and_eq_true] at hc
      obtain ⟨⟨⟨c1, c2⟩, c3⟩, c4⟩ := hc
      obtain ⟨d1, d2⟩ := descChk_spec c3
      refine AAny_firstG h0 (fun j => (descOf ops.toArray k).getD j false) (fun j oj hj hD => d2 j oj (by rw [List.getElem?_toArray]; exact hj) hD) hne hd m listed st L (fun j oj hj hjk hDj hun hno => ⟨?_, .inr ?_⟩) d1 (by simpa using c1) hy H
      · exact Region.free_spec (ops := ops.toArray) (by rw [List.getElem?_toArray]; exact h0) c2 j oj (by rw [List.getElem?_toArray]; exact hj) hjk hun hno
      · have h3 := List.all_eq_true.1 c4 j (List.mem_range.2 (by
          have := (List.getElem?_eq_some_iff.1 hj).1; simpa using this))
        have hDj : (descOf ops.toArray k).getD j false = false := hDj
        simp only [List.getElem?_toArray, hj, Bool.or_eq_true, beq_iff_eq, hjk, false_or, hun, hDj, Bool.false_eq_true, or_false, bne_iff_ne] at h3
        rcases h3 with (h3 | h3) | h3
        · exact .inl h3
        · exact .inr h3
        · obtain ⟨e, he, hb⟩ := Array.any_eq_true'.1 h3
          simp only [Bool.and_eq_true, beq_iff_eq] at hb
          exact absurd hb.2 (hno e he hb.1)
  have eff : ∀ {k : Nat} {listed : Array Bool}, ks.getD k .eff = .eff → stepG ops.toArray ks gs k listed = true → Region.ready .any ops.toArray listed = [k] ∧ inL gs k = false := by
    intro k listed he hc
    unfold stepG at hc
    simp only [he, Bool.and_eq_true, beq_iff_eq, Bool.not_eq_true'] at hc
    exact hc
  induction h with
  | nil hq =>
    intro is listed hn _ hc
    obtain rfl : is = [] := List.length_eq_zero_iff.1 hn
    simp only [chkG, Option.some.injEq] at hc
    subst hc
    rw [List.length_nil, Nat.zero_add]
    exact hQ _ _ hq
  | @skip o kd rest st L hd hg _ ih =>
    intro is listed hn hl hc
    obtain ⟨k, is, rfl⟩ : ∃ k is', is = k :: is' := by
      cases is with
      | nil => simp at hn
      | cons k is => exact ⟨k, is, rfl⟩
    obtain ⟨h0, hk0⟩ := hl 0 k _ rfl rfl
    simp only at h0 hk0
    obtain ⟨hc1, hc2⟩ := chkG_cons hc
    rw [List.length_cons, show rest.length + 1 + fuel = (rest.length + fuel) + 1 by omega]
    have H := ih is (listed.setIfInBounds k true) (by simpa using hn) (fun j k' p a b => hl (j + 1) k' p (by simpa using a) (by simpa using b)) hc2
    by_cases he : ks.getD k .eff = .eff
    · obtain ⟨hr, hgr⟩ := eff he hc1
      refine ⟨fun h => (by rw [h] at hr; cases hr), fun i hi oi hoi => ?_⟩
      rw [hr] at hi
      have hik : i = k := by simpa using hi
      subst hik
      rw [h0] at hoi; cases hoi
      exact ⟨hd, .inl ⟨hg, fun h => (by rw [hgr] at h; cases h), H⟩⟩
    · exact quiet k _ listed hd h0 he (.inr ⟨hg, rfl⟩) hc1 H
  | @pure o kd rest st L x hd hg hq _ ih =>
    intro is listed hn hl hc
    obtain ⟨k, is, rfl⟩ : ∃ k is', is = k :: is' := by
      cases is with
      | nil => simp at hn
      | cons k is => exact ⟨k, is, rfl⟩
    obtain ⟨h0, hk0⟩ := hl 0 k _ rfl rfl
    simp only at h0 hk0
    obtain ⟨hc1, hc2⟩ := chkG_cons hc
    rw [List.length_cons, show rest.length + 1 + fuel = (rest.length + fuel) + 1 by omega]
    have H := ih is (listed.setIfInBounds k true) (by simpa using hn) (fun j k' p a b => hl (j + 1) k' p (by simpa using a) (by simpa using b)) hc2
    by_cases he : ks.getD k .eff = .eff
    · obtain ⟨hr, hgr⟩ := eff he hc1
      refine ⟨fun h => (by rw [h] at hr; cases hr), fun i hi oi hoi => ?_⟩
      rw [hr] at hi
      have hik : i = k := by simpa using hi
      subst hik
      rw [h0] at hoi; cases hoi
      refine ⟨hd, .inr ⟨hg, ?_⟩⟩
      rw [he]
      exact (hq.any L).op ⟨fun h => (by rw [hgr] at h; cases h), H⟩
    · refine quiet k _ listed hd h0 he (.inl ⟨hg, ?_⟩) hc1 H
      cases hk' : ks.getD k .eff <;> first | exact hq | exact hq.any L
  | @read o kd rest st L x hd hg hne hq _ ih =>
    intro is listed hn hl hc
    obtain ⟨k, is, rfl⟩ : ∃ k is', is = k :: is' := by
      cases is with
      | nil => simp at hn
      | cons k is => exact ⟨k, is, rfl⟩
    obtain ⟨h0, hk0⟩ := hl 0 k _ rfl rfl
    simp only at h0 hk0
    obtain ⟨hc1, hc2⟩ := chkG_cons hc
    rw [List.length_cons, show rest.length + 1 + fuel = (rest.length + fuel) + 1 by omega]
    have H := ih is (listed.setIfInBounds k true) (by simpa using hn) (fun j k' p a b => hl (j + 1) k' p (by simpa using a) (by simpa using b)) hc2
    by_cases he : ks.getD k .eff = .eff
    · obtain ⟨hr, hgr⟩ := eff he hc1
      refine ⟨fun h => (by rw [h] at hr; cases hr), fun i hi oi hoi => ?_⟩
      rw [hr] at hi
      have hik : i = k := by simpa using hi
      subst hik
      rw [h0] at hoi; cases hoi
      refine ⟨hd, .inr ⟨hg, ?_⟩⟩
      rw [he]
      exact hq.op ⟨fun h => (by rw [hgr] at h; cases h), H⟩
    · refine quiet k _ listed hd h0 he (.inl ⟨hg, ?_⟩) hc1 H
      rw [hk0] at hne
      cases hk' : ks.getD k .eff with
      | pure => exact absurd hk' hne
      | eff => exact absurd hk' he
      | read => exact hq
  | @eff o rest st L K hd hg hop _ ih =>
    intro is listed hn hl hc
    obtain ⟨k, is, rfl⟩ : ∃ k is', is = k :: is' := by
      cases is with
      | nil => simp at hn
      | cons k is => exact ⟨k, is, rfl⟩
    obtain ⟨h0, hk0⟩ := hl 0 k _ rfl rfl
    simp only at h0 hk0
    obtain ⟨hc1, hc2⟩ := chkG_cons hc
    rw [List.length_cons, show rest.length + 1 + fuel = (rest.length + fuel) + 1 by omega]
    obtain ⟨hr, hgr⟩ := eff hk0.symm hc1
    refine ⟨fun h => (by rw [h] at hr; cases hr), fun i hi oi hoi => ?_⟩
    rw [hr] at hi
    have hik : i = k := by simpa using hi
    subst hik
    rw [h0] at hoi; cases hoi
    refine ⟨hd, .inr ⟨hg, ?_⟩⟩
    rw [← hk0]
    refine hop.mono fun x L' hK => ⟨fun h => (by rw [hgr] at h; cases h), ?_⟩
    exact ih x L' hK is (listed.setIfInBounds i true) (by simpa using hn) (fun j k' p a b => hl (j + 1) k' p (by simpa using a) (by simpa using b)) hc2
end
inductive OG where
  | stop
  | nd (i : Nat) (is : List Nat) (kid sib : OG)
def OG.len : OG → Nat
  | .stop => 0
  | .nd _ is kid _ => is.length + 1 + kid.len
def OG.all (n : Nat) : OG → Bool
  | .stop => true
  | .nd i is kid sib => Nat.blt i n && (is.all fun i => Nat.blt i n) && kid.all n && sib.all n
def OG.heads : OG → List Nat
  | .stop => []
  | .nd i _ _ sib => i :: sib.heads
def chkOG (ops : Array Oper) (ks : List Kd) (gs : List Nat) : Nat → OG → Array Bool → Bool
  | _, .stop, _ => true
  | m, .nd i is kid sib, li => (ks.getD i .eff == .eff) && (Nat.beq (is.length + 1 + kid.len) m) && (match chkG ops ks gs is (li.setIfInBounds i true) with
    | some li' => (Region.ready .any ops li' == kid.heads) && chkOG ops ks gs kid.len kid li'
    | none => false) && chkOG ops ks gs m sib li
structure AMid (b : Bool) (L L' : Own) (p : Prop) : Prop where
  sub : b = true → OSub L L'
  go : p
theorem zmf {L L' : Own} {p : Prop} (h : p) : AMid false L L' p := ⟨fun k => (by cases k), h⟩
theorem zmg {L L' : Own} {p : Prop} (k : OSub L L') (h : p) : AMid true L L' p := ⟨fun _ => k, h⟩
def AG (ks : List Kd) (gs : List Nat) (P : Program) (N : Nat) (l : List Oper) (Q : St → Own → Prop) : Bool → OG → St → Own → Prop
  | true, .stop, st, L => Q st L
  | false, .stop, _, _ => True
  | _, .nd i is kid sib, st, L => AL P N l (fun st' L' => AMid (inL gs i) L L' (AL P N l (fun st'' L'' => AG ks gs P N l Q true kid st'' L'') (mkLK ks l is) st' L')) (mkLK ks l [i]) st L ∧ AG ks gs P N l Q false sib st L
section
variable {ks : List Kd} {gs : List Nat} {P : Program} {N : Nat} {l : List Oper} {Q : St → Own → Prop}
theorem zgs {st : St} {L : Own} (h : Q st L) : AG ks gs P N l Q true .stop st L := h
theorem zgn {st : St} {L : Own} : AG ks gs P N l Q false .stop st L := trivial
theorem znd {b : Bool} {i : Nat} {is : List Nat} {kid sib : OG} {st : St} {L : Own} (h : AL P N l (fun st' L' => AMid (inL gs i) L L' (AL P N l (fun st'' L'' => AG ks gs P N l Q true kid st'' L'') (mkLK ks l is) st' L')) (mkLK ks l [i]) st L) (k : AG ks gs P N l Q false sib st L) : AG ks gs P N l Q b (.nd i is kid sib) st L := by
  cases b <;> exact ⟨h, k⟩
theorem AAny_og : ∀ (t : OG) (li : Array Bool) (st : St) (L : Own) (m : Nat), t.all l.length = true → AG ks gs P N l Q false t st L → chkOG l.toArray ks gs m t li = true → ∀ i ∈ t.heads, ∀ o, l[i]? = some o →
    ks.getD i .eff = .eff ∧ ∃ m', m = m' + 1 ∧ AK P N l .eff o (fun st' L' => (inL gs i = true → OSub L L') ∧ AAnyG P N l ks gs Q m' (li.setIfInBounds i true) st' L') st L
  | .stop, li, st, L, m, _, _, _, i, hi, o, ho => by cases hi
  | .nd i0 is kid sib, li, st, L, m, hall, h, hc, i, hi, o, ho => by
    simp only [OG.all, Bool.and_eq_true] at hall
    obtain ⟨⟨⟨hall0, hall1⟩, hall2⟩, hall3⟩ := hall
    simp only [chkOG, Bool.and_eq_true] at hc
    obtain ⟨⟨⟨c1, c2⟩, c3⟩, c4⟩ := hc
    have c2 := Nat.eq_of_beq_eq_true c2
    rcases List.mem_cons.1 hi with hi | hi
    · have hi : i = i0 := hi
      subst hi
      have hk : ks.getD i .eff = .eff := by simpa using c1
      refine ⟨hk, is.length + kid.len, by omega, ?_⟩
      have h1 := h.1
      rw [mkLK_cons ho, hk] at h1
      obtain ⟨g1, g2⟩ := mkLK_facts (ks := ks) hall1
      split at c3
      · rename_i li' hli
        simp only [Bool.and_eq_true, beq_iff_eq] at c3
        obtain ⟨r1, r2⟩ := c3
        have part : ∀ st' L', AG ks gs P N l Q true kid st' L' → AAnyG P N l ks gs Q kid.len li' st' L' := fun st' L' hA => by
          cases kid with
          | stop => exact ⟨r1, hA⟩
          | nd j0 is' kid' sib' =>
            have hq : (OG.nd j0 is' kid' sib').len = (is'.length + kid'.len) + 1 := by simp only [OG.len]; omega
            rw [hq] at r2 ⊢
            refine ⟨fun h0 => (by rw [r1] at h0; cases h0), fun j hj oj hoj => ?_⟩
            rw [r1] at hj
            obtain ⟨hkj, m', e1, e2⟩ := AAny_og (.nd j0 is' kid' sib') li' st' L' _ hall2 hA r2 j hj oj hoj
            obtain rfl : is'.length + kid'.len = m' := by omega
            rw [hkj]; exact e2
        refine (AL_head h1).mono fun st' L' h' => ?_
        cases h' with
        | nil h' =>
          refine ⟨h'.sub, ?_⟩
          have := AAny_preG (ks := ks) (gs := gs) (Q := Q) (fuel := kid.len) (li := li') h'.go part is _ g1 g2 hli
          rw [← g1] at this
          exact this
      · cases c3
    · exact AAny_og sib li st L m hall3 h.2 c4 i hi o ho
end
theorem zrg {P : Program} {N : Nat} {Q : Exit → St → Own → Prop} {st : St} {L : Own} {id : Nat} {l : List Oper} (ks : List Kd) (gs : List Nat) (is : List Nat) (t : OG) (hm : P.follows .mixedOrders = true) (hlen : Nat.beq (is.length + t.len) l.length = true) (hin : (is.all (fun i => Nat.blt i l.length) && t.all l.length) = true)
    (hc : (match chkG l.toArray ks gs is (Array.replicate l.length false) with
      | some li => (Region.ready .any l.toArray li == t.heads) && chkOG l.toArray ks gs t.len t li
      | none => false) = true)
    (h : AL P N l (fun st' L' => AG ks gs P N l (fun st' L' => Q .normal st' L') true t st' L') (mkLK ks l is) st L) : AWp P N (.region id l.toArray true) Q st L :=
  ⟨fun σ F w a hr ht => wp_region_any hm (by
    simp only [Bool.and_eq_true] at hin
    have hlen := Nat.eq_of_beq_eq_true hlen
    obtain ⟨g1, g2⟩ := mkLK_facts (ks := ks) hin.1
    split at hc
    · rename_i li hli
      simp only [Bool.and_eq_true, beq_iff_eq] at hc
      obtain ⟨r1, r2⟩ := hc
      have part : ∀ st' L', AG ks gs P N l (fun st' L' => Q .normal st' L') true t st' L' → AAnyG P N l ks gs (fun st' L' => Q .normal st' L') t.len li st' L' := fun st' L' hA => by
        cases t with
        | stop => exact ⟨r1, hA⟩
        | nd j0 is' kid' sib' =>
          have hq : (OG.nd j0 is' kid' sib').len = (is'.length + kid'.len) + 1 := by simp only [OG.len]; omega
          rw [hq] at r2 ⊢
          refine ⟨fun h0 => (by rw [r1] at h0; cases h0), fun j hj oj hoj => ?_⟩
          rw [r1] at hj
          obtain ⟨hkj, m', e1, e2⟩ := AAny_og (.nd j0 is' kid' sib') li st' L' _ hin.2 hA r2 j hj oj hoj
          obtain rfl : is'.length + kid'.len = m' := by omega
          rw [hkj]; exact e2
      have h1 := AAny_preG (ks := ks) (gs := gs) (Q := fun st' L' => Q .normal st' L') (fuel := t.len) (li := li) h part is (Array.replicate l.length false) g1 g2 hli
      rw [← g1, hlen] at h1
      have := AAny_wp (F := F) (Q' := Post σ N F Q) l.length _ st L σ a { w with drawn := w.drawn + 1 } (AAnyG.any _ _ _ _ h1) (hr.grow (fun _ _ => rfl) rfl rfl) ht (fun τ st' L' a' w' a1 a2 a3 a4 => ⟨τ, st', L', a1, a2, a3, a4⟩)
      simpa using this
    · cases hc)⟩
end Go.Sj
namespace Go.Sj
section
variable {P : Program} {N : Nat} {ops : List Oper} {Q : St → Own → Prop} {L : Own} {rest : List (Oper × Kd)} {l : List (Nat × AV)} {k : Kd} {q : Nat}
theorem tW {tt : List (TypeId × TD)} (ok : TOK P tt) {o : Oper} {c : List AV} (n : AL P N ops Q rest (lk ((q, .agg c) :: l)) L) (hdst : o.dst = some q := by exact rfl) (hd : Nat.blt q N = true := by exact rfl) (hg : guardA ops o (lk l) = some true := by exact rfl)
    (h : pe tt (lk l) o.op = some (.agg c) := by first | exact (rfl : _ = some (AV.agg [_, _])) | exact (rfl : _ = some (AV.agg [_, _, _])) | exact (rfl : _ = some (AV.agg [_, _, _, _])) | exact (rfl : _ = some (AV.agg [_, _, _, _, _])) | exact (rfl : _ = some (AV.agg [_, _, _, _, _, _, _])) | exact (rfl : _ = some (AV.agg [_])) | exact rfl) : AL P N ops Q ((o, k) :: rest) (lk l) L := s_pe ok hdst hd hg h n
inductive EvL (l : List (Nat × AV)) : List (Nat × Operand) → List (Nat × AV) → Prop
  | nil : EvL l [] []
  | cons {i : Nat} {y : Operand} {x : AV} {ps : List (Nat × Operand)} {xs : List (Nat × AV)} : ev (lk l) y = x → EvL l ps xs → EvL l ((i, y) :: ps) ((i, x) :: xs)
theorem EvL.eq {l : List (Nat × AV)} {ps : List (Nat × Operand)} {xs : List (Nat × AV)} (h : EvL l ps xs) : ps.map (fun p => (p.1, ev (lk l) p.2)) = xs := by
  induction h with
  | nil => rfl
  | cons h _ ih => rw [List.map_cons, ih, h]
def bldA (tt : List (TypeId × TD)) (T : TypeId) (xs : List (Nat × AV)) : Option (List AV) := match lkT tt T with
  | some ⟨.struct fs, _, _, z⟩ => match placesA tt fs with
    | some ps => fillA (ps[·]?) (z.map .lit) xs
    | none => none
  | _ => none
theorem tB {tt : List (TypeId × TD)} (ok : TOK P tt) {o : Oper} {T : TypeId} {parts : List (Nat × Operand)} {xs : List (Nat × AV)} {c : List AV} (n : AL P N ops Q rest (lk ((q, .agg c) :: l)) L) (ho : o.op = .build T parts.toArray := by exact rfl) (hdst : o.dst = some q := by exact rfl) (hd : Nat.blt q N = true := by exact rfl) (hg : guardA ops o (lk l) = some true := by exact rfl)
    (he : EvL l parts xs := by repeat (first | exact EvL.nil | (apply EvL.cons; (first | exact (rfl : _ = AV.lit _) | exact (rfl : _ = AV.im _ _) | exact (rfl : _ = AV.agg _) | exact (rfl : _ = AV.pt _ _ _ _) | exact (rfl : _ = AV.ip _) | exact (rfl : _ = AV.fn _ _ _) | exact rfl))))
    (h : bldA tt T xs = some c := by first | exact (rfl : _ = some [_]) | exact (rfl : _ = some [_, _]) | exact (rfl : _ = some [_, _, _]) | exact (rfl : _ = some [_, _, _, _]) | exact (rfl : _ = some [_, _, _, _, _]) | exact (rfl : _ = some [_, _, _, _, _, _, _]) | exact rfl) : AL P N ops Q ((o, k) :: rest) (lk l) L := by
  refine s_pe ok hdst hd hg ?_ n
  rw [ho]
  simp only [pe, he.eq]
  unfold bldA at h
  cases hT : lkT tt T with
  | none => rw [hT] at h; cases h
  | some d =>
    obtain ⟨kd, a, b, z⟩ := d
    rw [hT] at h
    cases kd with
    | struct fs =>
      simp only at h ⊢
      cases hp : placesA tt fs with
      | none => rw [hp] at h; cases h
      | some ps =>
        rw [hp] at h
        simp only at h ⊢
        rw [h]; rfl
    | _ => cases h
end
section
variable {P : Program} {tt : List (TypeId × TD)} {G' G : Prop} (p : PK P tt) (k : G')
include p k
theorem gY (h : PK P tt → G' → G := by
  rintro ⟨ok, mx⟩ k
  first | (show AL _ _ _ _ _ _ _; first | exact tL ok k | exact tI ok k | exact tP ok k | exact tQ ok k | exact tB ok k | exact tW ok k | exact tU ok k | exact tF ok k | exact AL.nil k | exact s_skip rfl rfl rfl k | exact cT rfl rfl rfl rfl rfl rfl rfl k | exact cF rfl rfl rfl rfl rfl rfl rfl k | exact cA rfl rfl rfl rfl rfl rfl rfl k)) : G := h p k
theorem gA (h : PK P tt → G' → G := by
  rintro ⟨ok, mx⟩ k
  first | (show AL _ _ _ _ _ _ _; first | exact tL ok k | exact tI ok k | exact tP ok k | exact tQ ok k | exact tB ok k | exact tW ok k | exact tU ok k | exact tF ok k | exact AL.nil k | exact s_skip rfl rfl rfl k | exact cT rfl rfl rfl rfl rfl rfl rfl k | exact cF rfl rfl rfl rfl rfl rfl rfl k | exact cA rfl rfl rfl rfl rfl rfl rfl k) | (show AWp _ _ _ _ _ _; first | exact a_seq k | exact a_reg k | exact a_regP mx (by decide +kernel) k | exact a_condT rfl k | exact a_condF rfl k | exact a_skip k | exact a_exit k | exact a_ret k | exact a_block k)) : G := h p k
theorem gN (h : PK P tt → G' → G := by
  rintro ⟨ok, mx⟩ k
  first | (show AL _ _ _ _ _ _ _; first | exact tL ok k | exact tI ok k | exact tP ok k | exact tQ ok k | exact tB ok k | exact tW ok k | exact tU ok k | exact tF ok k | exact AL.nil k | exact s_skip rfl rfl rfl k | exact cT rfl rfl rfl rfl rfl rfl rfl k | exact cF rfl rfl rfl rfl rfl rfl rfl k | exact cA rfl rfl rfl rfl rfl rfl rfl k) | (show AWp _ _ _ _ _ _; first | exact a_seq k | exact a_reg k | exact a_condT rfl k | exact a_condF rfl k | exact a_skip k | exact a_exit k | exact a_ret k | exact a_block k)) : G := h p k
theorem gZ (h : PK P tt → G' → G := by
  rintro ⟨ok, mx⟩ k
  first | (show AL _ _ _ _ _ _ _; first | exact tL ok k | exact tI ok k | exact tP ok k | exact tQ ok k | exact tB ok k | exact tW ok k | exact tU ok k | exact tF ok k | exact AL.nil k | exact s_skip rfl rfl rfl k | exact cT rfl rfl rfl rfl rfl rfl rfl k | exact cF rfl rfl rfl rfl rfl rfl rfl k | exact cA rfl rfl rfl rfl rfl rfl rfl k) | (show AWp _ _ _ _ _ _; first | exact a_seq k | exact a_condT rfl k | exact a_condF rfl k | exact a_skip k | exact a_exit k | exact a_ret k | exact a_block k)) : G := h p k
theorem gV (h : PK P tt → G' → G := by
  rintro ⟨ok, mx⟩ k
  first | (show AL _ _ _ _ _ _ _; first | exact tL ok k | exact tI ok k | exact tP ok k | exact tQ ok k | exact tB ok k | exact tW ok k | exact tU ok k | exact tF ok k | exact AL.nil k | exact s_skip rfl rfl rfl k | exact cT rfl rfl rfl rfl rfl rfl rfl k | exact cF rfl rfl rfl rfl rfl rfl rfl k | exact cA rfl rfl rfl rfl rfl rfl rfl k) | (show AWp _ _ _ _ _ _; first | exact a_seq k | exact a_reg k | exact a_regP mx (by decide +kernel) k | exact a_condT rfl k | exact a_condF rfl k | exact a_skip k | exact a_exit k | exact a_block k)) : G := h p k
end
section
variable {P : Program} {N : Nat} {ops : List Oper} {Q : St → Own → Prop} {L : Own} {rest : List (Oper × Kd)} {l : List (Nat × AV)} {k : Kd} {q : Nat}
theorem jP {o : Oper} {x : Operand} {args : List Operand} {tys : Array TypeId} {f : FuncId} {first caps az : List AV} {y : AV} (hc : Pure P f az y) (n : AL P N ops Q rest (lk ((q, y) :: l)) L)
    (ho : o.op = .call ⟨.value x, args.toArray, tys⟩ := by exact rfl) (hdst : o.dst = some q := by exact rfl) (hd : Nat.blt q N = true := by exact rfl) (hg : guardA ops o (lk l) = some true := by exact rfl)
    (hx : ev (lk l) x = .fn (.func f) first caps := by exact rfl) (has : SubL (first ++ args.map (ev (lk l)) ++ caps) az := by exact SubL.of_eq rfl) : AL P N ops Q ((o, .eff) :: rest) (lk l) L := s_callP ho hdst hd hg hx hc has n
theorem jB {o : Oper} {T : TypeId} {x : Operand} {a : AV} {c : List AV} (n : ∀ p, AL P N ops Q rest (lk ((q, .pt p 0 0 0) :: l)) ((p, .box c) :: L)) (ho : o.op = .box T x := by exact rfl) (hdst : o.dst = some q := by exact rfl) (hd : Nat.blt q N = true := by exact rfl) (hg : guardA ops o (lk l) = some true := by exact rfl) (hx : ev (lk l) x = a := by first | exact (rfl : _ = AV.lit _) | exact (rfl : _ = AV.im _ _) | exact (rfl : _ = AV.agg _) | exact (rfl : _ = AV.pt _ _ _ _) | exact (rfl : _ = AV.ip _) | exact (rfl : _ = AV.fn _ _ _) | exact rfl) (ha : a.whole = true := by exact rfl) (hc : a.cells = c := by first | exact (rfl : _ = [_]) | exact (rfl : _ = [_, _]) | exact (rfl : _ = [_, _, _]) | exact (rfl : _ = [_, _, _, _]) | exact (rfl : _ = [_, _, _, _, _]) | exact (rfl : _ = [_, _, _, _, _, _, _]) | exact rfl) : AL P N ops Q ((o, .eff) :: rest) (lk l) L := by subst hc; exact s_box ho hdst hd hg hx ha n
section
variable {tt : List (TypeId × TD)} (ok : TOK P tt)
include ok
theorem jL {o : Oper} {T : TypeId} {d : TD} {c : List AV} (n : ∀ p, AL P N ops Q rest (lk ((q, .pt p 0 0 0) :: l)) ((p, .box c) :: L)) (ho : o.op = .alloc T := by exact rfl) (hdst : o.dst = some q := by exact rfl) (hd : Nat.blt q N = true := by exact rfl) (hg : guardA ops o (lk l) = some true := by exact rfl) (hT : lkT tt T = some d := by exact rfl) (hc : d.zero.map .lit = c := by first | exact (rfl : _ = [_]) | exact (rfl : _ = [_, _]) | exact (rfl : _ = [_, _, _]) | exact (rfl : _ = [_, _, _, _]) | exact (rfl : _ = [_, _, _, _, _]) | exact (rfl : _ = [_, _, _, _, _, _, _]) | exact rfl) : AL P N ops Q ((o, .eff) :: rest) (lk l) L := by subst hc; exact s_alloc ok ho hdst hd hg hT n
theorem jO (i : Nat) {o : Oper} {T : TypeId} {x : Operand} {d : TD} {v : Value} {ob : OB} {sz j off : Nat} {cells : List AV} {a : AV} (n : AL P N ops Q rest (lk ((q, a) :: l)) L)
    (ho : o.op = .load T x := by exact rfl) (hdst : o.dst = some q := by exact rfl) (hd : Nat.blt q N = true := by exact rfl) (hg : guardA ops o (lk l) = some true := by exact rfl) (hk : k ≠ .pure := by decide) (hT : lkT tt T = some d := by exact rfl) (hx : ev (lk l) x = .pt v sz j off := by exact rfl)
    (hL : L[i]? = some (v, ob) := by exact rfl) (hf : obFit ob sz j = true := by exact rfl) (hc : obAt ob j off = some cells := by exact rfl) (hp : partA d cells 0 = some a := by first | exact (rfl : _ = some (AV.agg [_, _])) | exact (rfl : _ = some (AV.agg [_, _, _])) | exact (rfl : _ = some (AV.agg [_, _, _, _])) | exact (rfl : _ = some (AV.agg [_, _, _, _, _])) | exact (rfl : _ = some (AV.agg [_, _, _, _, _, _, _])) | exact rfl) (hne : cells ≠ [] := by exact List.cons_ne_nil _ _) : AL P N ops Q ((o, k) :: rest) (lk l) L := s_ownLoad ok i ho hdst hd hg hk hT hx hL hf hc hp hne n
theorem jS (i : Nat) {o : Oper} {T : TypeId} {x y : Operand} {d : TD} {v : Value} {ob : OB} {sz j off : Nat} {cells : List AV} {a : AV} {ob' : OB} (n : AL P N ops Q rest (lk l) (L.set i (v, ob')))
    (ho : o.op = .store T x y := by exact rfl) (hdst : o.dst = none := by exact rfl) (hg : guardA ops o (lk l) = some true := by exact rfl) (hT : lkT tt T = some d := by exact rfl) (hx : ev (lk l) x = .pt v sz j off := by exact rfl) (hy : ev (lk l) y = a := by first | exact (rfl : _ = AV.lit _) | exact (rfl : _ = AV.im _ _) | exact (rfl : _ = AV.agg _) | exact (rfl : _ = AV.pt _ _ _ _) | exact (rfl : _ = AV.ip _) | exact (rfl : _ = AV.fn _ _ _) | exact rfl)
    (ha : a.storable = true := by exact rfl) (hal : a.cells.length = d.size := by exact rfl) (hd0 : 0 < d.size := by decide) (hL : L[i]? = some (v, ob) := by exact rfl) (hf : obFit ob sz j = true := by exact rfl) (hc : obAt ob j off = some cells := by exact rfl) (hle : a.cells.length ≤ cells.length := by first | exact Nat.le_of_ble_eq_true rfl | exact Nat.le_refl _) (he : obSet ob j off a.cells = ob' := by first | exact (rfl : _ = OB.box [_]) | exact (rfl : _ = OB.box [_, _]) | exact (rfl : _ = OB.box [_, _, _]) | exact (rfl : _ = OB.box [_, _, _, _]) | exact (rfl : _ = OB.box [_, _, _, _, _]) | exact (rfl : _ = OB.box [_, _, _, _, _, _, _]) | exact rfl) : AL P N ops Q ((o, .eff) :: rest) (lk l) L := by subst he; exact s_store ok i ho hdst hg hT hx hy ha hal hd0 hL hf hc hle n
theorem jX {o : Oper} {T : TypeId} {x y : Operand} {E : TypeId} {s1 b1 : Nat} {z1 : List Value} {d : TD} {sz : Nat} {es : List (List AV)} {e : List AV} {kk : IntKind} {i : Int} (he : es[i.toNat]? = some e) (n : AL P N ops Q rest (lk ((q, .ip e) :: l)) L)
    (ho : o.op = .indexAddr T x y := by exact rfl) (hdst : o.dst = some q := by exact rfl) (hd : Nat.blt q N = true := by exact rfl) (hg : guardA ops o (lk l) = some true := by exact rfl) (hT : lkT tt T = some ⟨.slice E, s1, b1, z1⟩ := by exact rfl) (hE : lkT tt E = some d := by exact rfl)
    (hx : ev (lk l) x = .im sz es := by exact rfl) (hs : sz = d.size := by exact rfl) (hy : ev (lk l) y = .lit (.int kk i) := by exact rfl) (h0 : 0 ≤ i := by omega) : AL P N ops Q ((o, k) :: rest) (lk l) L := s_index ok ho hdst hd hg hT hE hx hs hy h0 he n
end
end
theorem subQ {st : St} {l : List (Nat × AV)} (h : SubS st (lk l) := by repeat (first | exact subs_nil | refine subs_cons (Sub.of_eq rfl) ?_ | refine subs_cons (Sub.nil _) ?_)) : SubS st (lk l) := h
theorem finQ {G' G : Prop} (k : G') (h : G' → G := by
  intro k
  first | exact zL rfl k | exact zI rfl k | exact zT rfl k | exact zU rfl k | exact zV rfl k | exact zA rfl k) : G := h k
theorem finR {G' G : Prop} (k : G') (h : G' → G := by
  intro k
  first | exact fin (x := .lit _) (.inr rfl) rfl (Sub.refl _) k (OSub.refl _) | exact fin (x := .im _ _) (.inr rfl) rfl (Sub.refl _) k (OSub.refl _) | exact fin (x := .tup [.lit _, .lit _]) (.inr rfl) rfl (Sub.refl _) k (OSub.refl _) | exact fin (x := .tup [.im _ _, .lit _]) (.inr rfl) rfl (Sub.refl _) k (OSub.refl _) | exact fin (x := .tup [.lit _, .lit _, .lit _]) (.inr rfl) rfl (Sub.refl _) k (OSub.refl _) | exact fin (x := .agg _) (.inr rfl) rfl (Sub.refl _) k (OSub.refl _)) : G := h k
end Go.Sj
end
