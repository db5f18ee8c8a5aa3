/-
  Codes that are read: the reference's reader. No condition but lengths.
-/
import Derived.Test.YtoaenbfidlgjhaaSjQ8
import Derived.Test.YtoaenbfidlgjhaaW28
namespace Go.Proofs.Ytoaenbfidlgjhaa
open Go.Sj Go.Sj.Typ Go.Sj.Sta Go.Sj.Can
set_option linter.unusedVariables false
set_option linter.unusedSimpArgs false
set_option maxHeartbeats 16000000

section
variable {P : Program} {N : Nat} {ops : List Oper} {Q : St → Own → Prop} {L : Own} {rest : List (Oper × Kd)} {l : List (Nat × AV)} {k : Kd} {q : Nat}
theorem s_indexJ (j : Nat) {tt : List (TypeId × TD)} (ok : TOK P tt) {o : Oper} {T : TypeId} {x y : Operand} {E : TypeId} {s1 b1 : Nat} {z1 : List Value} {d : TD} {sz : Nat}
    {es : List (List AV)} {e : List AV} {kk : IntKind} {i : Int} (ho : o.op = .indexAddr T x y) (hdst : o.dst = some q) (hd : Nat.blt q N = true) (hg : guardA ops o (lk l) = some true)
    (hT : lkT tt T = some ⟨.slice E, s1, b1, z1⟩) (hE : lkT tt E = some d) (hx : ev (lk l) x = .im sz es) (hs : sz = d.size) (hy : ev (lk l) y = .lit (.int kk i)) (hj : i = (j : Int)) (he : es[j]? = some e)
    (n : AL P N ops Q rest (lk ((q, .ip e) :: l)) L) : AL P N ops Q ((o, k) :: rest) (lk l) L :=
  s_index ok ho hdst hd hg hT hE hx hs hy (by omega) (by rw [hj]; exact he) n
end
theorem gnext_spec (u : Value) (c : List Int) (p : Nat) (most : Int) (bad : Bool) (hc : c.length ≤ 1000) (hp : p ≤ c.length) :
    ACalls Try.prog 60 [.pt u 0 0 0, AI most] [(u, .box [ints c, AI p, AB bad])] (fun y M => ∃ p' : Nat, p' ≤ c.length ∧ c.drop p' = (numR most bad (c.drop p)).2.1 ∧ y = AI (numR most bad (c.drop p)).1 ∧ M = [(u, .box [ints c, AI p', AB (numR most bad (c.drop p)).2.2])]) := by
  have lc : (rowI c).length = c.length := by simp
  cases bad with
  | true =>
    unfold numR
    rw [if_pos rfl]
    refine a_enter Try.func60 (by kernel_rfl) rfl Try.ntmps60 rfl (by simp) ?_
    repeat (first | (show AWp _ _ _ _ _ _; first | refine a_regR mixed (by decide +kernel) ?_) | refine gN pk ?_ | (show AL _ _ _ _ _ _ _; first | refine jO tok 0 ?_ | refine jS tok 0 ?_))
    exact fin (x := .lit _) (.inr rfl) rfl (Sub.refl _) ⟨p, hp, rfl, rfl, rfl⟩ (OSub.refl _)
  | false =>
    by_cases h : p < c.length
    · have hx := List.getElem?_eq_getElem h
      have hd : c.drop p = c[p] :: c.drop (p + 1) := List.drop_eq_getElem_cons h
      generalize c[p] = x at hx hd
      have xk : (rowI c)[(p : Int).toNat]? = some [AI x] := map_get (f := cI) hx
      have xj : (rowI c)[p]? = some [AI x] := xk
      by_cases hx2 : 0 ≤ x ∧ x ≤ most
      · have hn : numR most false (c.drop p) = (x, c.drop (p + 1), false) := by unfold numR rdN; rw [hd]; simp [hx2]
        rw [hn]
        refine a_enter Try.func60 (by kernel_rfl) rfl Try.ntmps60 rfl (by simp) ?_
        repeat (first | (show AWp _ _ _ _ _ _; first | refine a_regR mixed (by decide +kernel) ?_) | refine gN pk ?_ | (show AL _ _ _ _ _ _ _; first | refine jO tok 0 ?_ | refine s_indexJ p tok rfl rfl rfl rfl rfl rfl rfl rfl rfl (by omega) xj ?_ | refine jS tok 0 ?_))
        exact fin (x := .lit _) (.inr rfl) rfl (Sub.refl _) ⟨p + 1, h, rfl, rfl, rfl⟩ (OSub.refl _)
      · have hn : numR most false (c.drop p) = (0, c.drop p, true) := by unfold numR rdN; rw [hd]; simp [hx2]
        rw [hn]
        by_cases h0 : x < 0
        · refine a_enter Try.func60 (by kernel_rfl) rfl Try.ntmps60 rfl (by simp) ?_
          repeat (first | (show AWp _ _ _ _ _ _; first | refine a_regR mixed (by decide +kernel) ?_) | refine gN pk ?_ | (show AL _ _ _ _ _ _ _; first | refine jO tok 0 ?_ | refine jX tok xk ?_ | refine jS tok 0 ?_))
          exact fin (x := .lit _) (.inr rfl) rfl (Sub.refl _) ⟨p, hp, rfl, rfl, rfl⟩ (OSub.refl _)
        · refine a_enter Try.func60 (by kernel_rfl) rfl Try.ntmps60 rfl (by simp) ?_
          repeat (first | (show AWp _ _ _ _ _ _; first | refine a_regR mixed (by decide +kernel) ?_) | refine gN pk ?_ | (show AL _ _ _ _ _ _ _; first | refine jO tok 0 ?_ | refine jX tok xk ?_ | refine jS tok 0 ?_))
          exact fin (x := .lit _) (.inr rfl) rfl (Sub.refl _) ⟨p, hp, rfl, rfl, rfl⟩ (OSub.refl _)
    · have hn : numR most false (c.drop p) = (0, c.drop p, true) := by
        unfold numR rdN
        rw [List.drop_of_length_le (by omega)]
        simp
      rw [hn]
      refine a_enter Try.func60 (by kernel_rfl) rfl Try.ntmps60 rfl (by simp) ?_
      repeat (first | (show AWp _ _ _ _ _ _; first | refine a_regR mixed (by decide +kernel) ?_) | refine gN pk ?_ | (show AL _ _ _ _ _ _ _; first | refine jO tok 0 ?_ | refine jS tok 0 ?_))
      exact fin (x := .lit _) (.inr rfl) rfl (Sub.refl _) ⟨p, hp, rfl, rfl, rfl⟩ (OSub.refl _)
theorem gedges_spec (u vn ve : Value) (hvn : vn.oneCell' = true) (hve : ve.oneCell' = true) (c : List Int) (p : Nat) (bad : Bool) (hc : c.length ≤ 1000) (hp : p ≤ c.length) (es : List Ed) (he : es.length ≤ 80) (a b : Nat) (ha : a ≤ 100) (hb : b ≤ 100) :
    ACalls Try.prog 61 [.pt u 0 0 0, .agg [.lit vn, .lit ve], AI a, AI b] [(u, .box [ints c, AI p, AB bad]), (ve, .row 60 3 (es.map cEd))] (fun y M => ∃ bad' p' es' ve', ve'.oneCell' = true ∧ p' ≤ c.length ∧ EOut bad (c.drop p) es a b bad' (c.drop p') es' ∧ y = .agg [.lit vn, .lit ve'] ∧ M = [(u, .box [ints c, AI p', AB bad']), (ve', .row 60 3 (es'.map cEd))]) := by
  have le : (es.map cEd).length = es.length := by simp
  have s1 := gnext_spec u c p (80 - (es.length : Int)) bad hc hp
  have hdl : ∀ q, (c.drop q).length ≤ 1000 := fun q => by rw [List.length_drop]; omega
  by_cases hz : (numR (80 - (es.length : Int)) bad (c.drop p)).2.2 = true
  · have h0 : (numR (80 - (es.length : Int)) bad (c.drop p)).1 = 0 := by
      unfold numR at hz ⊢
      split
      · rfl
      · split
        · rename_i h1 _ _ _ h2
          rw [if_neg h1, h2] at hz
          cases hz
        · rfl
    have hE : ∀ p', c.drop p' = (numR (80 - (es.length : Int)) bad (c.drop p)).2.1 → EOut bad (c.drop p) es a b true (c.drop p') es := fun p' hp' => by
      refine ⟨he, by rw [hp']; exact numR_len _ _ _, fun _ => rfl, fun hb => ?_⟩
      subst hb
      unfold rdE
      rcases numR_cases (80 - (es.length : Int)) (c.drop p) with ⟨h1, h2⟩ | ⟨x, r, h1, h2, h3, h4, h5⟩
      · rw [h1]
      · rw [h5] at hz; cases hz
    rw [h0, hz, ← le] at s1
    rw [← le] at hE
    refine a_enterC Try.func61 (by kernel_rfl) rfl Try.ntmps61 rfl (tok _ _ rfl) (by simp) ?_
    refine a_seq ?_
    refine a_reg ?_
    repeat (first | refine gZ pk ?_ | (show AL _ _ _ _ _ _ _; first | refine jB (fun ug => ?_) | refine jL tok (fun U8 => ?_)))
    refine a_goto (GoTo.perm (L' := [(u, .box [ints c, AI p, AB bad]), (ve, .row 60 3 (es.map cEd)), (U8, .box [nilA, nilA]), (ug, .box [.lit vn, .lit ve])]) (List.perm_append_comm (l₁ := ([(U8, OB.box [nilA, nilA]), (ug, OB.box [.lit vn, .lit ve])] : Own)) (l₂ := ([(u, OB.box [ints c, AI p, AB bad]), (ve, OB.row 60 3 (es.map cEd))] : Own)))) ?_
    repeat (first | refine gN pk ?_ | (show AL _ _ _ _ _ _ _; first | refine jO tok 3 ?_ | refine s_ownLen tok 1 rfl rfl rfl rfl (by decide) rfl rfl rfl ?_ | refine s_call (Lc := [(u, .box [ints c, AI p, AB bad])]) (Lr := [(ve, .row 60 3 (es.map cEd)), (U8, .box [nilA, nilA]), (ug, .box [.lit vn, .lit ve])]) rfl rfl rfl rfl rfl s1 (SubL.of_eq rfl) (List.Perm.refl _) ?_; rintro _ _ ⟨p', hp', hq', rfl, rfl⟩))
    refine a_loopG2 (fun (i : Nat) (_ : Nat) => [(0, .pt u 0 0 0), (5, .pt ug 0 0 0), (8, .pt U8 0 0 0), (9, AI 0), (11, AI 0)]) (fun _ _ => [(u, .box [ints c, AI p', AB true]), (ve, .row 60 3 (es.map cEd)), (U8, .box [nilA, nilA]), (ug, .box [.lit vn, .lit ve])]) (fun i _ => i = 0) (fun _ _ => 0) 0 0 rfl (.sub (by exact subQ) (OSub.refl _)) ?_
    rintro i j rfl
    repeat (first | refine gV pk ?_ | (show AL _ _ _ _ _ _ _; first | refine jO tok 3 ?_ | refine s_store (a := .agg [.lit vn, .lit ve]) tok 2 rfl rfl rfl rfl rfl rfl (by simp [AV.storable, AV.cell, hvn, hve]) rfl (by decide) rfl rfl rfl (Nat.le_of_ble_eq_true rfl) ?_))
    refine a_frzBox 2 8 rfl rfl ?_
    refine a_ret ?_
    exact ⟨.inr rfl, _, _, _, _, rfl, rfl, Turn.of (Sub.of_eq rfl) (.keep (.keep (.drop (OSub.refl _)))), true, p', es, ve, hve, hp', hE p' hq', rfl, rfl⟩
  · have hb0 : bad = false := by
      cases bad with
      | false => rfl
      | true => exact absurd (by unfold numR; rfl) hz
    subst hb0
    rcases numR_cases (80 - (es.length : Int)) (c.drop p) with ⟨h1, h2⟩ | ⟨x, r, h1, h0, h3, h4, h5⟩
    · rw [h2] at hz; exact absurd rfl hz
    rw [h5] at s1
    clear hz
    obtain ⟨n, rfl⟩ : ∃ n : Nat, x = n := ⟨x.toNat, by omega⟩
    have hlp := hdl p
    rw [h0, List.length_cons] at hlp
    have hE : rdE (80 - (es.length : Int)) (c.drop p) = rdT n 0 r := by
      unfold rdE
      rw [h1]
      simp
    have hout : ∀ (bad' : Bool) (p' : Nat) (es' : List Ed), es'.length ≤ 80 → (c.drop p').length ≤ r.length → (match rdT n 0 r with
        | none => bad' = true
        | some (ts', r') => bad' = false ∧ c.drop p' = r' ∧ es' = es ++ ts'.map fun t => ⟨t, a, b⟩) → EOut false (c.drop p) es a b bad' (c.drop p') es' := fun bad' p' es' q1 q2 q3 => by
      refine ⟨q1, by rw [h0, List.length_cons]; omega, fun h => (by cases h), fun _ => ?_⟩
      rw [hE]
      exact q3
    rw [← le] at s1
    simp only at s1
    clear h1 h5 hE
    refine a_enterC Try.func61 (by kernel_rfl) rfl Try.ntmps61 rfl (tok _ _ rfl) (by simp) ?_
    refine a_seq ?_
    refine a_reg ?_
    repeat (first | refine gZ pk ?_ | (show AL _ _ _ _ _ _ _; first | refine jB (fun ug => ?_) | refine jL tok (fun U8 => ?_)))
    refine a_goto (GoTo.perm (L' := [(u, .box [ints c, AI p, AB false]), (ve, .row 60 3 (es.map cEd)), (U8, .box [nilA, nilA]), (ug, .box [.lit vn, .lit ve])]) (List.perm_append_comm (l₁ := ([(U8, OB.box [nilA, nilA]), (ug, OB.box [.lit vn, .lit ve])] : Own)) (l₂ := ([(u, OB.box [ints c, AI p, AB false]), (ve, OB.row 60 3 (es.map cEd))] : Own)))) ?_
    repeat (first | refine gN pk ?_ | (show AL _ _ _ _ _ _ _; first | refine jO tok 3 ?_ | refine s_ownLen tok 1 rfl rfl rfl rfl (by decide) rfl rfl rfl ?_ | refine s_call (Lc := [(u, .box [ints c, AI p, AB false])]) (Lr := [(ve, .row 60 3 (es.map cEd)), (U8, .box [nilA, nilA]), (ug, .box [.lit vn, .lit ve])]) rfl rfl rfl rfl rfl s1 (SubL.of_eq rfl) (List.Perm.refl _) ?_; rintro _ _ ⟨p1, hp1, hq1, rfl, rfl⟩))
    refine a_loopG7 (fun (i : Nat) (bad : Bool) (q : Nat) (la : Int) (es' : List Ed) (ve : Value) (_ : Unit) => [(0, .pt u 0 0 0), (2, AI a), (3, AI b), (5, .pt ug 0 0 0), (8, .pt U8 0 0 0), (9, AI n), (10, AI la), (11, AI i)]) (fun i bad q la es' ve _ => [(u, .box [ints c, AI q, AB bad]), (ve, .row 60 3 (es'.map cEd)), (U8, .box [nilA, nilA]), (ug, .box [.lit vn, .lit ve])]) (fun i bad q la es' ve _ => i ≤ n ∧ q ≤ c.length ∧ ve.oneCell' = true ∧ (c.drop q).length ≤ r.length ∧ es'.length = es.length + i ∧ (bad = true → rdT n 0 r = none) ∧ (bad = false → i ≤ r.length ∧ c.drop q = r.drop i ∧ la = (0 :: r).getD i 0 ∧ es' = es ++ (r.take i).map (fun t => ⟨t, a, b⟩) ∧ rdT n 0 r = (rdT (n - i) ((0 :: r).getD i 0) (r.drop i)).map fun p => (r.take i ++ p.1, p.2))) (fun i _ _ _ _ _ _ => n - i) 0 false p1 0 es ve () ⟨Nat.zero_le _, hp1, hve, by rw [hq1]; exact Nat.le_refl _, by omega, fun h => (by cases h), fun _ => ⟨Nat.zero_le _, hq1, rfl, by simp, by simp⟩⟩ (.sub (by exact subQ) (OSub.refl _)) ?_
    clear s1 hp1 hq1 hve ve p1
    rintro i bad q la es1 ve _ ⟨hi, hqc, hve, hql, hle, hT, hF⟩
    have le1 : (es1.map cEd).length = es.length + i := by rw [List.length_map, hle]
    cases bad with
    | true =>
      have hO := hout true q es1 (by omega) hql (by rw [hT rfl])
      rcases Nat.lt_or_ge i n with h | h
      all_goals
        repeat (first | refine gV pk ?_ | (show AL _ _ _ _ _ _ _; first | refine jO tok 0 ?_ | refine jO tok 3 ?_ | refine s_store (a := .agg [.lit vn, .lit ve]) tok 2 rfl rfl rfl rfl rfl rfl (by simp [AV.storable, AV.cell, hvn, hve]) rfl (by decide) rfl rfl rfl (Nat.le_of_ble_eq_true rfl) ?_))
        refine a_frzBox 2 8 rfl rfl ?_
        refine a_ret ?_
        exact ⟨.inr rfl, _, _, _, _, rfl, rfl, Turn.of (Sub.of_eq rfl) (.keep (.keep (.drop (OSub.refl _)))), true, q, es1, ve, hve, hqc, hO, rfl, rfl⟩
    | false =>
      obtain ⟨hir, hqr, hla, hes, hT2⟩ := hF rfl
      clear hT hF
      rcases Nat.lt_or_ge i n with h | h
      · have s2 := gnext_spec u c q 99 false hc hqc
        obtain ⟨m, hm⟩ : ∃ m, n - i = m + 1 := ⟨n - i - 1, by omega⟩
        rw [hm, rdT_step, ← hla, ← hqr] at hT2
        rcases numR_cases 99 (c.drop q) with ⟨g1, g2⟩ | ⟨x, r', g1, g0, g3, g4, g5⟩
        · rw [g2] at s2
          rw [g1] at hT2
          have hes2 : ∀ z : Int, es1.map cEd ++ [[AI z, AI a, AI b]] = (es1 ++ [(⟨z, a, b⟩ : Ed)]).map cEd := fun z => by simp [cEd]
          have hsn : ∀ z : Int, (es1 ++ [(⟨z, a, b⟩ : Ed)]).length = es.length + (i + 1) := fun z => by simp [hle]; omega
          by_cases hlt : 0 < la
          all_goals
            repeat (first | refine gA pk ?_ | (show AL _ _ _ _ _ _ _; first | refine s_call (Lc := [(u, .box [ints c, AI q, AB false])]) (Lr := [(ve, .row 60 3 (es1.map cEd)), (U8, .box [nilA, nilA]), (ug, .box [.lit vn, .lit ve])]) rfl rfl rfl rfl rfl s2 (SubL.of_eq rfl) (List.Perm.refl _) ?_; rintro _ _ ⟨q2, hq2, hd2, rfl, rfl⟩ | refine jO tok 0 ?_ | refine jO tok 3 ?_ | refine jS tok 0 ?_ | refine s_build1A tok rfl rfl rfl rfl rfl rfl rfl rfl (by decide) (fun lv => ?_) | refine s_append1K tok 1 rfl rfl rfl rfl rfl rfl (by decide) rfl rfl rfl rfl (by omega) (by omega) (fun w hw => ?_) | refine s_storeB tok 3 rfl rfl rfl rfl rfl rfl rfl (by assumption) rfl (Nat.le_of_ble_eq_true rfl) rfl ?_))
            rw [hes2]
            exact ⟨i + 1, true, q2, 0, es1 ++ [⟨0, a, b⟩], w, (), ⟨by omega, hq2, by assumption, by rw [hd2]; exact hql, hsn 0, fun _ => hT2, fun h => (by cases h)⟩, by omega, .sub (by exact subQ) (OSub.refl _)⟩
        · rw [g5] at s2
          rw [g1] at hT2
          simp only at hT2
          have hx : r[i]? = some x := by rw [← List.head?_drop, ← hqr, g0]; rfl
          have hil : i < r.length := (List.getElem?_eq_some_iff.1 hx).1
          have hd1 : r.drop (i + 1) = r' := by rw [← List.drop_drop, ← hqr, g0]; rfl
          have hla1 : (0 :: r).getD (i + 1) 0 = x := by simp [List.getD_eq_getElem?_getD, hx]
          have hta : r.take (i + 1) = r.take i ++ [x] := by rw [List.take_add_one, hx]; rfl
          have lr' : r'.length = r.length - (i + 1) := by rw [← hd1, List.length_drop]
          have hes2 : es1.map cEd ++ [[AI x, AI a, AI b]] = (es1 ++ [(⟨x, a, b⟩ : Ed)]).map cEd := by simp [cEd]
          have hsn : (es1 ++ [(⟨x, a, b⟩ : Ed)]).length = es.length + (i + 1) := by simp [hle]; omega
          by_cases hlt : x < la
          · rw [if_pos hlt] at hT2
            repeat (first | refine gA pk ?_ | (show AL _ _ _ _ _ _ _; first | refine s_call (Lc := [(u, .box [ints c, AI q, AB false])]) (Lr := [(ve, .row 60 3 (es1.map cEd)), (U8, .box [nilA, nilA]), (ug, .box [.lit vn, .lit ve])]) rfl rfl rfl rfl rfl s2 (SubL.of_eq rfl) (List.Perm.refl _) ?_; rintro _ _ ⟨q2, hq2, hd2, rfl, rfl⟩ | refine jO tok 0 ?_ | refine jO tok 3 ?_ | refine jS tok 0 ?_ | refine s_build1A tok rfl rfl rfl rfl rfl rfl rfl rfl (by decide) (fun lv => ?_) | refine s_append1K tok 1 rfl rfl rfl rfl rfl rfl (by decide) rfl rfl rfl rfl (by omega) (by omega) (fun w hw => ?_) | refine s_storeB tok 3 rfl rfl rfl rfl rfl rfl rfl (by assumption) rfl (Nat.le_of_ble_eq_true rfl) rfl ?_))
            rw [hes2]
            exact ⟨i + 1, true, q2, x, es1 ++ [⟨x, a, b⟩], w, (), ⟨by omega, hq2, by assumption, by rw [hd2]; show r'.length ≤ r.length; omega, hsn, fun _ => hT2, fun h => (by cases h)⟩, by omega, .sub (by exact subQ) (OSub.refl _)⟩
          · rw [if_neg hlt] at hT2
            have hT3 : rdT n 0 r = (rdT (n - (i + 1)) ((0 :: r).getD (i + 1) 0) (r.drop (i + 1))).map fun p => (r.take (i + 1) ++ p.1, p.2) := by
              rw [hT2, hla1, hd1, hta, show n - (i + 1) = m by omega]
              cases rdT m x r' with
              | none => rfl
              | some q => simp
            have hes3 : es1 ++ [(⟨x, a, b⟩ : Ed)] = es ++ (r.take (i + 1)).map (fun t => ⟨t, a, b⟩) := by rw [hta, hes]; simp
            repeat (first | refine gA pk ?_ | (show AL _ _ _ _ _ _ _; first | refine s_call (Lc := [(u, .box [ints c, AI q, AB false])]) (Lr := [(ve, .row 60 3 (es1.map cEd)), (U8, .box [nilA, nilA]), (ug, .box [.lit vn, .lit ve])]) rfl rfl rfl rfl rfl s2 (SubL.of_eq rfl) (List.Perm.refl _) ?_; rintro _ _ ⟨q2, hq2, hd2, rfl, rfl⟩ | refine jO tok 0 ?_ | refine jO tok 3 ?_ | refine jS tok 0 ?_ | refine s_build1A tok rfl rfl rfl rfl rfl rfl rfl rfl (by decide) (fun lv => ?_) | refine s_append1K tok 1 rfl rfl rfl rfl rfl rfl (by decide) rfl rfl rfl rfl (by omega) (by omega) (fun w hw => ?_) | refine s_storeB tok 3 rfl rfl rfl rfl rfl rfl rfl (by assumption) rfl (Nat.le_of_ble_eq_true rfl) rfl ?_))
            rw [hes2]
            exact ⟨i + 1, false, q2, x, es1 ++ [⟨x, a, b⟩], w, (), ⟨by omega, hq2, by assumption, by rw [hd2]; show r'.length ≤ r.length; omega, hsn, fun h => (by cases h), fun _ => ⟨hil, by rw [hd2, hd1], hla1.symm, hes3, hT3⟩⟩, by omega, .sub (by exact subQ) (OSub.refl _)⟩
      · obtain rfl : i = n := by omega
        rw [Nat.sub_self] at hT2
        have hO := hout false q es1 (by omega) hql (by rw [hT2, hqr, hes]; simp [rdT])
        repeat (first | refine gV pk ?_ | (show AL _ _ _ _ _ _ _; first | refine jO tok 0 ?_ | refine jO tok 3 ?_ | refine s_store (a := .agg [.lit vn, .lit ve]) tok 2 rfl rfl rfl rfl rfl rfl (by simp [AV.storable, AV.cell, hvn, hve]) rfl (by decide) rfl rfl rfl (Nat.le_of_ble_eq_true rfl) ?_))
        refine a_frzBox 2 8 rfl rfl ?_
        refine a_ret ?_
        exact ⟨.inr rfl, _, _, _, _, rfl, rfl, Turn.of (Sub.of_eq rfl) (.keep (.keep (.drop (OSub.refl _)))), false, q, es1, ve, hve, hqc, hO, rfl, rfl⟩
end Go.Proofs.Ytoaenbfidlgjhaa
