/-
  Codes that are read: the program's reader, and what a step of reading says. No condition but lengths.
-/
import Derived.Test.YtoaenbfidlgjhaaSjQ8
import Derived.Test.YtoaenbfidlgjhaaW10
import Derived.Test.YtoaenbfidlgjhaaSjQC
namespace Go.Proofs.Ytoaenbfidlgjhaa
open Go.Sj Go.Sj.Typ Go.Sj.Sta Go.Sj.Can
set_option linter.unusedVariables false
set_option linter.unusedSimpArgs false
set_option maxHeartbeats 16000000

section
variable {P : Program} {N : Nat} {c : Code} {Q : Exit → St → Own → Prop} {st : St} {L : Own} {T1 T2 T3 T4 T5 T6 T7 : Type}
theorem a_loopG7 (sx : T1 → T2 → T3 → T4 → T5 → T6 → T7 → List (Nat × AV)) (lx : T1 → T2 → T3 → T4 → T5 → T6 → T7 → Own) (px : T1 → T2 → T3 → T4 → T5 → T6 → T7 → Prop) (m : T1 → T2 → T3 → T4 → T5 → T6 → T7 → Nat) (z1 : T1) (z2 : T2) (z3 : T3) (z4 : T4) (z5 : T5) (z6 : T6) (z7 : T7)
    (h0 : px z1 z2 z3 z4 z5 z6 z7) (hs : GoTo N st L (lk (sx z1 z2 z3 z4 z5 z6 z7)) (lx z1 z2 z3 z4 z5 z6 z7))
    (round : ∀ a1 a2 a3 a4 a5 a6 a7, px a1 a2 a3 a4 a5 a6 a7 → AWp P N c (thenA (fun st' L' => ∃ a1' a2' a3' a4' a5' a6' a7', px a1' a2' a3' a4' a5' a6' a7' ∧ m a1' a2' a3' a4' a5' a6' a7' < m a1 a2 a3 a4 a5 a6 a7 ∧ GoTo N st' L' (lk (sx a1' a2' a3' a4' a5' a6' a7')) (lx a1' a2' a3' a4' a5' a6' a7')) Q) (lk (sx a1 a2 a3 a4 a5 a6 a7)) (lx a1 a2 a3 a4 a5 a6 a7)) : AWp P N (.loop c) Q st L :=
  a_loopG (X := T1 × T2 × T3 × T4 × T5 × T6 × T7) (fun x => sx x.1 x.2.1 x.2.2.1 x.2.2.2.1 x.2.2.2.2.1 x.2.2.2.2.2.1 x.2.2.2.2.2.2) (fun x => lx x.1 x.2.1 x.2.2.1 x.2.2.2.1 x.2.2.2.2.1 x.2.2.2.2.2.1 x.2.2.2.2.2.2) (fun x => px x.1 x.2.1 x.2.2.1 x.2.2.2.1 x.2.2.2.2.1 x.2.2.2.2.2.1 x.2.2.2.2.2.2) (fun x => m x.1 x.2.1 x.2.2.1 x.2.2.2.1 x.2.2.2.2.1 x.2.2.2.2.2.1 x.2.2.2.2.2.2) (z1, z2, z3, z4, z5, z6, z7) h0 hs fun x hx =>
    (round x.1 x.2.1 x.2.2.1 x.2.2.2.1 x.2.2.2.2.1 x.2.2.2.2.2.1 x.2.2.2.2.2.2 hx).mono fun e st' L' h => by
      cases e with
      | normal =>
        obtain ⟨a1', a2', a3', a4', a5', a6', a7', k⟩ := h
        exact ⟨(a1', a2', a3', a4', a5', a6', a7'), k⟩
      | _ => exact h
end
def numR (most : Int) (bad : Bool) (l : List Int) : Int × List Int × Bool :=
  if bad = true then (0, l, true) else match rdN most l with
  | some (x, r) => (x, r, false)
  | none => (0, l, true)
def EOut (bad : Bool) (l : List Int) (es : List Ed) (a b : Nat) (bad' : Bool) (l' : List Int) (es' : List Ed) : Prop :=
  es'.length ≤ 80 ∧ l'.length ≤ l.length ∧ (bad = true → bad' = true) ∧ (bad = false → match rdE (80 - (es.length : Int)) l with
    | none => bad' = true
    | some (ts, r) => bad' = false ∧ l' = r ∧ es' = es ++ ts.map fun t => (⟨t, a, b⟩ : Ed))
def RS (s : Rd) (bad : Bool) (l ns : List Int) (es : List Ed) : Prop := es.length ≤ 80 ∧ match s with
  | none => bad = true
  | some (l', g) => bad = false ∧ l = l' ∧ g = ⟨ns, es⟩
theorem RS.edge {s : Rd} {bad bad' : Bool} {l l' ns : List Int} {es es' : List Ed} {a b : Nat} (h : RS s bad l ns es) (k : EOut bad l es a b bad' l' es') : RS (runE s a b) bad' l' ns es' := by
  obtain ⟨h1, h2⟩ := h
  obtain ⟨k1, k0, k2, k3⟩ := k
  refine ⟨k1, ?_⟩
  cases s with
  | none => exact k2 h2
  | some p =>
    obtain ⟨l0, g⟩ := p
    obtain ⟨rfl, rfl, rfl⟩ := h2
    have k3 := k3 rfl
    unfold runE
    simp only
    cases hr : rdE (80 - (es.length : Int)) l with
    | none => rw [hr] at k3; exact k3
    | some q =>
      obtain ⟨ts, r⟩ := q
      rw [hr] at k3
      obtain ⟨rfl, rfl, rfl⟩ := k3
      exact ⟨rfl, rfl, rfl⟩
theorem RS.num {s : Rd} {bad : Bool} {l ns : List Int} {es : List Ed} (h : RS s bad l ns es) : RS (Can.runN s) (numR 99 bad l).2.2 (numR 99 bad l).2.1 (ns ++ [(numR 99 bad l).1]) es := by
  obtain ⟨h1, h2⟩ := h
  refine ⟨h1, ?_⟩
  cases s with
  | none =>
    have h3 : bad = true := h2
    subst h3
    rfl
  | some p =>
    obtain ⟨l0, g⟩ := p
    obtain ⟨rfl, rfl, rfl⟩ := h2
    unfold Can.runN numR
    simp only
    cases hr : rdN 99 l with
    | none => rfl
    | some q => exact ⟨rfl, rfl, rfl⟩
theorem numR_len (most : Int) (bad : Bool) (l : List Int) : (numR most bad l).2.1.length ≤ l.length := by
  unfold numR
  split
  · exact Nat.le_refl _
  · split
    · rename_i x r h
      rw [(rdN_some h).1]
      simp
    · exact Nat.le_refl _
theorem runP_none {s : Rd} {k : Nat} (h : runP s k = none) : ∀ {n : Nat}, k ≤ n → runP s n = none
  | 0, hn => by
    obtain rfl : k = 0 := by omega
    exact h
  | n + 1, hn => by
    by_cases hk : k = n + 1
    · subst hk; exact h
    · unfold runP
      rw [runP_none h (by omega), show Can.runN none = none from rfl, runS_none, runE_none]
theorem number_spec (u : Value) (X Y : AV) (most : Int) (bad : Bool) (l : List Int) (hl : l.length ≤ 1000) :
    ACalls Try.prog 58 [.pt u 0 0 0, AI most] [(u, .box [ints l, X, Y, AB bad])] (fun y M => y = AI (numR most bad l).1 ∧ M = [(u, .box [ints (numR most bad l).2.1, X, Y, AB (numR most bad l).2.2])]) := by
  have ll : (rowI l).length = l.length := by simp
  cases bad with
  | true =>
    unfold numR
    rw [if_pos rfl]
    refine a_enter Try.func58 (by kernel_rfl) rfl Try.ntmps58 rfl (by simp) ?_
    repeat (first | refine gA pk ?_ | (show AL _ _ _ _ _ _ _; first | refine jO tok 0 ?_ | refine jS tok 0 ?_))
    refine fin (x := .lit _) (.inr rfl) rfl (Sub.refl _) ?_ (OSub.refl _)
    exact ⟨rfl, rfl⟩
  | false =>
    cases l with
    | nil =>
      refine a_enter Try.func58 (by kernel_rfl) rfl Try.ntmps58 rfl (by simp) ?_
      repeat (first | refine gA pk ?_ | (show AL _ _ _ _ _ _ _; first | refine jO tok 0 ?_ | refine jS tok 0 ?_))
      refine fin (x := .lit _) (.inr rfl) rfl (Sub.refl _) ?_ (OSub.refl _)
      exact ⟨rfl, rfl⟩
    | cons x r =>
      have xk : (rowI (x :: r))[(0 : Int).toNat]? = some [AI x] := rfl
      have ep : ((rowI (x :: r)).take (rowI (x :: r)).length).drop 1 = rowI r := by rw [List.take_length]; rfl
      rw [List.length_cons] at hl ll
      by_cases h : 0 ≤ x ∧ x ≤ most
      · have hn : numR most false (x :: r) = (x, r, false) := by unfold numR rdN; simp [h]
        rw [hn]
        refine a_enter Try.func58 (by kernel_rfl) rfl Try.ntmps58 rfl (by simp) ?_
        repeat (first | refine gA pk ?_ | (show AL _ _ _ _ _ _ _; first | refine jO tok 0 ?_ | refine jX tok xk ?_ | refine jS tok 0 ?_ | refine s_slice tok (a := 1) (b := (rowI (x :: r)).length) rfl rfl rfl rfl rfl rfl rfl rfl (by first | exact rfl | exact ⟨_, rfl⟩) (by first | exact rfl | exact ⟨_, rfl⟩) (by omega) (by omega) ?_))
        refine fin (x := .lit _) (.inr rfl) rfl (Sub.refl _) ?_ (OSub.refl _)
        refine ⟨rfl, ?_⟩
        rw [ep]
        rfl
      · have hn : numR most false (x :: r) = (0, x :: r, true) := by unfold numR rdN; simp [h]
        rw [hn]
        by_cases h0 : x < 0
        · refine a_enter Try.func58 (by kernel_rfl) rfl Try.ntmps58 rfl (by simp) ?_
          repeat (first | refine gA pk ?_ | (show AL _ _ _ _ _ _ _; first | refine jO tok 0 ?_ | refine jX tok xk ?_ | refine jS tok 0 ?_))
          refine fin (x := .lit _) (.inr rfl) rfl (Sub.refl _) ?_ (OSub.refl _)
          exact ⟨rfl, rfl⟩
        · refine a_enter Try.func58 (by kernel_rfl) rfl Try.ntmps58 rfl (by simp) ?_
          repeat (first | refine gA pk ?_ | (show AL _ _ _ _ _ _ _; first | refine jO tok 0 ?_ | refine jX tok xk ?_ | refine jS tok 0 ?_))
          refine fin (x := .lit _) (.inr rfl) rfl (Sub.refl _) ?_ (OSub.refl _)
          exact ⟨rfl, rfl⟩
theorem rdT_step {n : Nat} {last : Int} {l : List Int} : rdT (n + 1) last l = match rdN 99 l with
  | none => none
  | some (x, r) => if x < last then none else match rdT n x r with
    | none => none
    | some (ts, r') => some (x :: ts, r') := rfl
theorem numR_cases (most : Int) (l : List Int) : (rdN most l = none ∧ numR most false l = (0, l, true)) ∨ ∃ x r, rdN most l = some (x, r) ∧ l = x :: r ∧ 0 ≤ x ∧ x ≤ most ∧ numR most false l = (x, r, false) := by
  unfold numR
  cases h : rdN most l with
  | none => exact .inl ⟨rfl, by simp⟩
  | some p =>
    obtain ⟨x, r⟩ := p
    obtain ⟨h1, h2, h3⟩ := rdN_some h
    exact .inr ⟨x, r, rfl, h1, h2, h3, by simp⟩
theorem redges_spec (u ve : Value) (X : AV) (bad : Bool) (l : List Int) (hl : l.length ≤ 1000) (es : List Ed) (he : es.length ≤ 80) (a b : Nat) (ha : a ≤ 100) (hb : b ≤ 100) :
    ACalls Try.prog 59 [.pt u 0 0 0, AI a, AI b] [(u, .box [ints l, X, .lit ve, AB bad]), (ve, .row 60 3 (es.map cEd))] (fun y M => ∃ bad' l' es' ve', EOut bad l es a b bad' l' es' ∧ y = .tup [] ∧ M = [(u, .box [ints l', X, .lit ve', AB bad']), (ve', .row 60 3 (es'.map cEd))]) := by
  have le : (es.map cEd).length = es.length := by simp
  have s1 := number_spec u X (.lit ve) (80 - (es.length : Int)) bad l hl
  by_cases hz : (numR (80 - (es.length : Int)) bad l).2.2 = true
  · have h0 : (numR (80 - (es.length : Int)) bad l).1 = 0 := by
      unfold numR at hz ⊢
      split
      · rfl
      · split
        · rename_i h1 _ _ _ h2
          rw [if_neg h1, h2] at hz
          cases hz
        · rfl
    have hE : EOut bad l es a b true (numR (80 - (es.length : Int)) bad l).2.1 es := by
      refine ⟨he, numR_len _ _ _, fun _ => rfl, fun hb => ?_⟩
      subst hb
      unfold rdE
      rcases numR_cases (80 - (es.length : Int)) l with ⟨h1, h2⟩ | ⟨x, r, h1, h2, h3, h4, h5⟩
      · rw [h1]
      · rw [h5] at hz; cases hz
    rw [h0, hz] at s1
    generalize (numR (80 - (es.length : Int)) bad l).2.1 = l1 at *
    rw [← le] at s1
    refine a_enter Try.func59 (by kernel_rfl) rfl Try.ntmps59 rfl (by simp) ?_
    repeat (first | refine gA pk ?_ | (show AL _ _ _ _ _ _ _; first | refine jO tok 0 ?_ | refine s_ownLen tok 1 rfl rfl rfl rfl (by decide) rfl rfl rfl ?_ | refine s_call (Lc := [(u, .box [ints l, X, .lit ve, AB bad])]) (Lr := [(ve, .row 60 3 (es.map cEd))]) rfl rfl rfl rfl rfl s1 (SubL.of_eq rfl) (List.Perm.refl _) ?_; rintro _ _ ⟨rfl, rfl⟩))
    refine a_loopG2 (fun (i : Nat) (_ : Nat) => [(16, AI 0), (17, AI i)]) (fun _ _ => [(u, .box [ints l1, X, .lit ve, AB true]), (ve, .row 60 3 (es.map cEd))]) (fun i _ => i = 0) (fun _ _ => 0) 0 0 rfl (.sub (by exact subQ) (OSub.refl _)) ?_
    rintro i j rfl
    repeat (first | refine gA pk ?_)
    exact fin (x := .tup []) (.inl rfl) rfl (Sub.refl _) ⟨_, _, _, _, hE, rfl, rfl⟩ (OSub.refl _)
  · have hb0 : bad = false := by
      cases bad with
      | false => rfl
      | true => exact absurd (by unfold numR; rfl) hz
    subst hb0
    rcases numR_cases (80 - (es.length : Int)) l with ⟨h1, h2⟩ | ⟨x, r, h1, rfl, h3, h4, h5⟩
    · rw [h2] at hz; exact absurd rfl hz
    rw [h5] at s1
    clear hz
    obtain ⟨n, rfl⟩ : ∃ n : Nat, x = n := ⟨x.toNat, by omega⟩
    have hE : rdE (80 - (es.length : Int)) ((n : Int) :: r) = rdT n 0 r := by
      unfold rdE
      rw [h1]
      simp
    rw [List.length_cons] at hl
    have hout : ∀ (bad' : Bool) (l' : List Int) (ts : List Int), es.length + ts.length ≤ 80 → l'.length ≤ r.length → (match rdT n 0 r with
        | none => bad' = true
        | some (ts', r') => bad' = false ∧ l' = r' ∧ ts = ts') → EOut false ((n : Int) :: r) es a b bad' l' (es ++ ts.map fun t => (⟨t, a, b⟩ : Ed)) := fun bad' l' ts q1 q2 q3 => by
      refine ⟨by rw [List.length_append, List.length_map]; exact q1, by rw [List.length_cons]; omega, fun h => (by cases h), fun _ => ?_⟩
      rw [hE]
      cases hr : rdT n 0 r with
      | none => rw [hr] at q3; exact q3
      | some q => obtain ⟨ts', r'⟩ := q; rw [hr] at q3; obtain ⟨rfl, rfl, rfl⟩ := q3; exact ⟨rfl, rfl, rfl⟩
    rw [← le] at s1
    simp only at s1
    clear h1 h5 hE
    refine a_enter Try.func59 (by kernel_rfl) rfl Try.ntmps59 rfl (by simp) ?_
    repeat (first | refine gA pk ?_ | (show AL _ _ _ _ _ _ _; first | refine jO tok 0 ?_ | refine s_ownLen tok 1 rfl rfl rfl rfl (by decide) rfl rfl rfl ?_ | refine s_call (Lc := [(u, .box [ints ((n : Int) :: r), X, .lit ve, AB false])]) (Lr := [(ve, .row 60 3 (es.map cEd))]) rfl rfl rfl rfl rfl s1 (SubL.of_eq rfl) (List.Perm.refl _) ?_; rintro _ _ ⟨rfl, rfl⟩))
    refine a_loopG2 (fun (i : Nat) (ve : Value) => [(0, .pt u 0 0 0), (1, AI a), (2, AI b), (6, AI ((0 :: r).getD i 0)), (16, AI n), (17, AI i)]) (fun i ve => [(u, .box [ints (r.drop i), X, .lit ve, AB false]), (ve, .row 60 3 ((es ++ (r.take i).map fun t => (⟨t, a, b⟩ : Ed)).map cEd))]) (fun i ve => i ≤ n ∧ i ≤ r.length ∧ rdT n 0 r = (rdT (n - i) ((0 :: r).getD i 0) (r.drop i)).map fun p => (r.take i ++ p.1, p.2)) (fun i ve => n - i) 0 ve ⟨Nat.zero_le _, Nat.zero_le _, by simp⟩ (.sub (by exact subQ) (by rw [List.take_zero, List.map_nil, List.append_nil]; exact OSub.refl _)) ?_
    clear ve s1
    rintro i ve ⟨hi, hir, hT⟩
    have lti : (r.take i).length = i := by rw [List.length_take]; omega
    have ldi : (r.drop i).length = r.length - i := List.length_drop
    rcases Nat.lt_or_ge i n with h | h
    · obtain ⟨m, hm⟩ : ∃ m, n - i = m + 1 := ⟨n - i - 1, by omega⟩
      rw [hm, rdT_step] at hT
      have s2 := number_spec u X (.lit ve) 99 false (r.drop i) (by omega)
      rcases numR_cases 99 (r.drop i) with ⟨g1, g2⟩ | ⟨x, r', g1, g0, g3, g4, g5⟩
      · rw [g2] at s2
        rw [g1] at hT
        have hO := hout true (r.drop i) (r.take i) (by omega) (by omega) (by rw [hT]; rfl)
        repeat (first | refine gA pk ?_ | (show AL _ _ _ _ _ _ _; first | refine s_call (Lc := [(u, .box [ints (r.drop i), X, .lit ve, AB false])]) (Lr := [(ve, .row 60 3 ((es ++ (r.take i).map fun t => (⟨t, a, b⟩ : Ed)).map cEd))]) rfl rfl rfl rfl rfl s2 (SubL.of_eq rfl) (List.Perm.refl _) ?_; rintro _ _ ⟨rfl, rfl⟩ | refine jO tok 0 ?_ | refine jS tok 0 ?_))
        exact fin (x := .tup []) (.inr rfl) rfl (Sub.refl _) ⟨_, _, _, _, hO, rfl, rfl⟩ (OSub.refl _)
      · rw [g5] at s2
        rw [g1] at hT
        simp only at hT
        have hx : r[i]? = some x := by rw [← List.head?_drop, g0]; rfl
        have hil : i < r.length := by have := (List.getElem?_eq_some_iff.1 hx).1; omega
        have hd1 : r.drop (i + 1) = r' := by rw [← List.drop_drop, g0]; rfl
        have hla : (0 :: r).getD (i + 1) 0 = x := by simp [List.getD_eq_getElem?_getD, hx]
        have hta : r.take (i + 1) = r.take i ++ [x] := by rw [List.take_add_one, hx]; rfl
        have lr' : r'.length = r.length - (i + 1) := by rw [← hd1, List.length_drop]
        have hes : (es ++ (r.take (i + 1)).map fun t => (⟨t, a, b⟩ : Ed)).map cEd = (es ++ (r.take i).map fun t => (⟨t, a, b⟩ : Ed)).map cEd ++ [[AI x, AI a, AI b]] := by rw [hta]; simp [cEd]
        have lE : ((es ++ (r.take i).map fun t => (⟨t, a, b⟩ : Ed)).map cEd).length = es.length + i := by rw [List.length_map, List.length_append, List.length_map, lti]
        rw [g0]
        by_cases hlt : x < (0 :: r).getD i 0
        · rw [if_pos hlt] at hT
          have hO := hout true r' (r.take i) (by omega) (by omega) (by rw [hT]; rfl)
          rw [g0] at s2
          generalize (0 :: r).getD i 0 = la at *
          repeat (first | refine gA pk ?_ | (show AL _ _ _ _ _ _ _; first | refine s_call (Lc := [(u, .box [ints (x :: r'), X, .lit ve, AB false])]) (Lr := [(ve, .row 60 3 ((es ++ (r.take i).map fun t => (⟨t, a, b⟩ : Ed)).map cEd))]) rfl rfl rfl rfl rfl s2 (SubL.of_eq rfl) (List.Perm.refl _) ?_; rintro _ _ ⟨rfl, rfl⟩ | refine jO tok 0 ?_ | refine jS tok 0 ?_))
          exact fin (x := .tup []) (.inr rfl) rfl (Sub.refl _) ⟨_, _, _, _, hO, rfl, rfl⟩ (OSub.refl _)
        · rw [if_neg hlt] at hT
          rw [g0] at s2
          have hT2 : rdT n 0 r = (rdT (n - (i + 1)) ((0 :: r).getD (i + 1) 0) (r.drop (i + 1))).map fun p => (r.take (i + 1) ++ p.1, p.2) := by
            rw [hT, hla, hd1, hta, show n - (i + 1) = m by omega]
            cases rdT m x r' with
            | none => rfl
            | some q => simp
          generalize (0 :: r).getD i 0 = la at *
          generalize hEs : (es ++ (r.take i).map fun t => (⟨t, a, b⟩ : Ed)).map cEd = Es at *
          repeat (first | refine gA pk ?_ | (show AL _ _ _ _ _ _ _; first | refine s_call (Lc := [(u, .box [ints (x :: r'), X, .lit ve, AB false])]) (Lr := [(ve, .row 60 3 Es)]) rfl rfl rfl rfl rfl s2 (SubL.of_eq rfl) (List.Perm.refl _) ?_; rintro _ _ ⟨rfl, rfl⟩ | refine jO tok 0 ?_ | refine s_build1A tok rfl rfl rfl rfl rfl rfl rfl rfl (by decide) (fun lv => ?_) | refine s_append1K tok 1 rfl rfl rfl rfl rfl rfl (by decide) rfl rfl rfl rfl (by omega) (by omega) (fun w hw => ?_) | refine s_storeB tok 0 rfl rfl rfl rfl rfl rfl rfl (by assumption) rfl (Nat.le_of_ble_eq_true rfl) rfl ?_))
          refine ⟨i + 1, w, ⟨by omega, by omega, hT2⟩, by omega, .sub (by rw [hla]; exact subQ) ?_⟩
          rw [hes, hd1]
          exact OSub.refl _
    · obtain rfl : i = n := by omega
      rw [Nat.sub_self] at hT
      have hO := hout false (r.drop i) (r.take i) (by omega) (by omega) (by rw [hT]; simp [rdT])
      repeat (first | refine gA pk ?_)
      exact fin (x := .tup []) (.inl rfl) rfl (Sub.refl _) ⟨_, _, _, _, hO, rfl, rfl⟩ (OSub.refl _)
end Go.Proofs.Ytoaenbfidlgjhaa
