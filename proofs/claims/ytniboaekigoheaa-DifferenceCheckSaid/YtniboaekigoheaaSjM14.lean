/-
  Refutations that are given: what makes them right: plain mathematics.
-/
import Derived.Test.YtniboaekigoheaaSjM12
namespace Go.Sj.Dif
set_option linter.unusedVariables false
set_option linter.unusedSimpArgs false

def cQ (q : Int × Int) : List AV := [AI q.1, AI q.2]
def toQ (a : Ar) : Int × Int := (a.u, a.s)
def isU (u : Int × Int) (a : Ar) : Bool := decide (a.u = u.1 ∧ a.s = u.2)
def lstU (A : List Ar) : List (Int × Int) → Option (List Ar)
  | [] => some []
  | u :: r => match A.find? (isU u), lstU A r with
    | some a, some L => some (a :: L)
    | _, _ => none
def cycB : Nat → List Ar → Bool
  | _, [] => true
  | p, a :: L => decide (a.f = p) && cycB a.t L
def checkR (n : Int) (l : List Tst) (r : List (Int × Int)) : Bool := decide (validT n l = 0 ∧ 0 < r.length ∧ r.length ≤ 40) && match lstU (arcsOf l) r with
  | some L => cycB (enP L) L && decide (wt L < 0)
  | none => false

/-- Uses differ. -/
def Uq (A : List Ar) : Prop := A.Pairwise fun a b => ¬ (a.u = b.u ∧ a.s = b.s)
theorem uq_arcs : ∀ (i : Nat) (l : List Tst), Uq (arcsF i l) ∧ ∀ a ∈ arcsF i l, (i : Int) ≤ a.u
  | i, [] => ⟨List.Pairwise.nil, fun a h => by simp [arcsF] at h⟩
  | i, x :: l => by
    obtain ⟨h1, h2⟩ := uq_arcs (i + 1) l
    have hat : ∀ a ∈ arcsAt i x, a.u = i := fun a ha => by
      simp only [arcsAt, List.mem_cons] at ha
      rcases ha with rfl | ha
      · rfl
      · split at ha
        · simp at ha; subst ha; rfl
        · simp at ha
    refine ⟨?_, fun a ha => ?_⟩
    · simp only [arcsF, Uq]
      refine List.pairwise_append.2 ⟨?_, h1, fun a ha b hb => ?_⟩
      · simp only [arcsAt]
        split
        · simp [arcAt, opAt]
        · simp
      · rintro ⟨e, _⟩
        have := hat a ha
        have := h2 b hb
        omega
    · simp only [arcsF, List.mem_append] at ha
      rcases ha with ha | ha
      · rw [hat a ha]; omega
      · have := h2 a ha; omega
theorem uq_of (l : List Tst) : Uq (arcsOf l) := (uq_arcs 0 l).1
theorem uq_get {A : List Ar} (h : Uq A) {i j : Nat} {a b : Ar} (ha : A[i]? = some a) (hb : A[j]? = some b) (e : a.u = b.u ∧ a.s = b.s) : i = j := by
  obtain ⟨hi, rfl⟩ := List.getElem?_eq_some_iff.1 ha
  obtain ⟨hj, rfl⟩ := List.getElem?_eq_some_iff.1 hb
  have hp := List.pairwise_iff_getElem.1 h
  rcases Nat.lt_trichotomy i j with h1 | h1 | h1
  · exact absurd e (hp i j hi hj h1)
  · exact h1
  · exact absurd ⟨e.1.symm, e.2.symm⟩ (hp j i hj hi h1)
theorem find_use {A : List Ar} (h : Uq A) {a : Ar} (ha : a ∈ A) : A.find? (isU (toQ a)) = some a := by
  cases e : A.find? (isU (toQ a)) with
  | none => exact absurd (List.find?_eq_none.1 e a ha) (by simp [isU, toQ])
  | some b =>
    have h1 := List.find?_some e
    have h2 := List.mem_of_find?_eq_some e
    have h1 : b.u = a.u ∧ b.s = a.s := of_decide_eq_true h1
    obtain ⟨i, hi⟩ := List.getElem?_of_mem ha
    obtain ⟨j, hj⟩ := List.getElem?_of_mem h2
    have := uq_get h hj hi h1
    subst this
    rw [hi] at hj
    exact hj.symm
theorem lst_self {A : List Ar} (h : Uq A) : ∀ {ps : List Ar}, (∀ a ∈ ps, a ∈ A) → lstU A (ps.map toQ) = some ps
  | [], _ => rfl
  | a :: ps, hm => by
    have h1 := find_use h (hm a (by simp))
    have h2 := lst_self h (ps := ps) (fun b hb => hm b (List.mem_cons_of_mem _ hb))
    simp only [List.map_cons, lstU, h1, h2]
theorem wk_mem {A : List Ar} : ∀ {w : List Ar} {i j : Nat}, Wk A i w j → ∀ a ∈ w, a ∈ A
  | [], _, _, _, a, h => by simp at h
  | b :: w, _, _, ⟨h1, _, h3⟩, a, h => by
    rcases List.mem_cons.1 h with rfl | h
    · exact h1
    · exact wk_mem h3 a h
theorem wk_cyc {A : List Ar} : ∀ {w : List Ar} {i j : Nat}, Wk A i w j → cycB i w = true
  | [], _, _, _ => rfl
  | a :: w, i, j, ⟨_, h2, h3⟩ => by simp only [cycB, h2, decide_true, Bool.true_and]; exact wk_cyc h3
theorem cyc_wk {A : List Ar} : ∀ {w : List Ar} {i : Nat}, (∀ a ∈ w, a ∈ A) → cycB i w = true → w ≠ [] → Wk A i w (enP w)
  | [], _, _, _, h => absurd rfl h
  | [a], i, hm, h, _ => by
    simp only [cycB, Bool.and_true, decide_eq_true_eq] at h
    exact ⟨hm a (by simp), h, rfl⟩
  | a :: b :: w, i, hm, h, _ => by
    simp only [cycB, Bool.and_eq_true, decide_eq_true_eq] at h
    refine ⟨hm a (by simp), h.1, ?_⟩
    have := cyc_wk (w := b :: w) (i := a.t) (fun x hx => hm x (List.mem_cons_of_mem _ hx)) (by simp only [cycB, Bool.and_eq_true, decide_eq_true_eq]; exact h.2) (by simp)
    simpa only [enP] using this
theorem lst_mem {A : List Ar} : ∀ {r : List (Int × Int)} {L : List Ar}, lstU A r = some L → (∀ a ∈ L, a ∈ A) ∧ L.length = r.length
  | [], L, h => by simp only [lstU, Option.some.injEq] at h; subst h; simp
  | u :: r, L, h => by
    simp only [lstU] at h
    split at h
    · rename_i a L' h1 h2
      simp only [Option.some.injEq] at h
      subst h
      obtain ⟨k1, k2⟩ := lst_mem h2
      exact ⟨fun b hb => by
        rcases List.mem_cons.1 hb with rfl | hb
        · exact List.mem_of_find?_eq_some h1
        · exact k1 b hb, by simp [k2]⟩
    · cases h
theorem lst_snoc {A : List Ar} {u : Int × Int} : ∀ {r : List (Int × Int)}, lstU A (r ++ [u]) = match lstU A r, A.find? (isU u) with
    | some L, some a => some (L ++ [a])
    | _, _ => none
  | [] => by
    simp only [List.nil_append, lstU]
    cases A.find? (isU u) <;> rfl
  | v :: r => by
    simp only [List.cons_append, lstU, lst_snoc (r := r)]
    cases A.find? (isU v) <;> cases lstU A r <;> cases A.find? (isU u) <;> rfl
theorem lst_none {A : List Ar} {u : Int × Int} {r s : List (Int × Int)} (h : lstU A (r ++ [u]) = none) : lstU A (r ++ u :: s) = none := by
  induction r with
  | nil =>
    simp only [List.nil_append, lstU] at h ⊢
    cases e : A.find? (isU u) with
    | none => rfl
    | some a => rw [e] at h; cases h
  | cons v r ih =>
    simp only [List.cons_append, lstU] at h ⊢
    cases e : A.find? (isU v) with
    | none => rfl
    | some a =>
      rw [e] at h
      cases e2 : lstU A (r ++ [u]) with
      | none => rw [ih e2]
      | some L => rw [e2] at h; cases h
/-- A right refutation refutes. -/
theorem check_unsat {n : Int} {l : List Tst} {r : List (Int × Int)} (h : checkR n l r = true) : validT n l = 0 ∧ ¬ Sat (arcsOf l) := by
  simp only [checkR, Bool.and_eq_true, decide_eq_true_eq] at h
  obtain ⟨⟨h1, h2, h3⟩, h4⟩ := h
  cases e : lstU (arcsOf l) r with
  | none => rw [e] at h4; cases h4
  | some L =>
    rw [e] at h4
    simp only [Bool.and_eq_true, decide_eq_true_eq] at h4
    obtain ⟨k1, k2⟩ := lst_mem e
    have hne : L ≠ [] := fun he => by rw [he] at k2; simp at k2; omega
    have hw := cyc_wk k1 h4.1 hne
    exact ⟨h1, fun hs => by have := sat_closed hs hw; omega⟩
/-- The refutation that is found is right. -/
theorem check_refute {n : Int} {l : List Tst} (h : (refuteR n l).2 = 0) : checkR n l ((refuteR n l).1.map toQ) = true := by
  unfold refuteR at h ⊢
  split at h
  · rename_i h0
    simp only at h
    exact absurd h h0
  · rename_i h0
    have h0' : validT n l = 0 := Classical.byContradiction h0
    obtain ⟨⟨n0, n12⟩, hlen, hl⟩ := validT_zero.1 h0'
    obtain ⟨m, rfl⟩ : ∃ m : Nat, n = m := ⟨n.toNat, by omega⟩
    simp only [Int.toNat_natCast] at h ⊢
    split at h
    · cases h
    · rename_i hd
      rw [if_neg h0, if_neg hd]
      have hok := arcsOf_ok hl
      have hs : ¬ Sat (arcsOf l) := fun k => hd ((distR_facts (aok_inr hok)).1.2 k)
      obtain ⟨k1, k2, k3, k4⟩ := refute_spec hok (by omega) hs
      simp only
      generalize runP (m + 1) (arcsOf l) (fstN (m + 1) (arcsOf l)) [] = ps at *
      have hpos := List.length_pos_iff.2 k1
      have hen := (wk_ends k2 k1).2
      simp only [checkR, lst_self (uq_of l) (wk_mem k2), h0', List.length_map, Bool.and_eq_true, decide_eq_true_eq, hen]
      exact ⟨⟨trivial, hpos, by omega⟩, wk_cyc k2, k3⟩
theorem cyc_snoc {a : Ar} : ∀ {L : List Ar} {p : Nat}, L ≠ [] → cycB p (L ++ [a]) = (cycB p L && decide (a.f = enP L))
  | [], _, h => absurd rfl h
  | [b], p, _ => Bool.eq_iff_iff.2 (by
    simp [cycB, enP]
    exact fun _ => ⟨fun h => decide_eq_true h, fun h => of_decide_eq_true h⟩)
  | b :: c :: L, p, _ => by
    have := cyc_snoc (a := a) (L := c :: L) (p := b.t) (by simp)
    simp only [List.cons_append, cycB] at this ⊢
    rw [this]
    refine Bool.eq_iff_iff.2 ?_
    simp [enP, and_assoc]
    exact fun _ _ _ => ⟨fun h => decide_eq_true h, fun h => of_decide_eq_true h⟩
end Go.Sj.Dif
