/-
  Difference constraints: walks, potentials, the in-place relaxation: plain mathematics, no program.
-/
import Derived.Test.YtniboaekigoheaaSjK
namespace Go.Sj.Dif
set_option linter.unusedVariables false
set_option linter.unusedSimpArgs false
set_option linter.unusedSectionVars false

/-- An arc: the test and the sign of its use, its places, its number. -/
structure Ar where
  u : Int
  s : Int
  f : Nat
  t : Nat
  c : Int
  deriving DecidableEq

def Sol (l : List Ar) (v : Nat → Int) : Prop := ∀ a ∈ l, v a.f ≤ v a.t + a.c
def Sat (l : List Ar) : Prop := ∃ v, Sol l v
def Inr (N : Nat) (l : List Ar) : Prop := ∀ a ∈ l, a.f < N ∧ a.t < N

def Wk (l : List Ar) : Nat → List Ar → Nat → Prop
  | i, [], j => i = j
  | i, a :: w, j => a ∈ l ∧ a.f = i ∧ Wk l a.t w j
def wt : List Ar → Int
  | [] => 0
  | a :: w => a.c + wt w
theorem wt_append : ∀ (w u : List Ar), wt (w ++ u) = wt w + wt u
  | [], u => by simp [wt]
  | a :: w, u => by simp only [List.cons_append, wt, wt_append w u]; omega
theorem wk_append {l : List Ar} : ∀ {w u : List Ar} {i j k : Nat}, Wk l i w j → Wk l j u k → Wk l i (w ++ u) k
  | [], u, i, j, k, h, h2 => by simp only [Wk] at h; subst h; exact h2
  | a :: w, u, i, j, k, ⟨h1, h2, h3⟩, h4 => ⟨h1, h2, wk_append h3 h4⟩
theorem sol_walk {l : List Ar} {v : Nat → Int} (h : Sol l v) : ∀ {w : List Ar} {i j : Nat}, Wk l i w j → v i ≤ v j + wt w
  | [], i, j, h => by simp only [Wk] at h; subst h; simp [wt]
  | a :: w, i, j, ⟨h1, h2, h3⟩ => by
    have := sol_walk h h3
    have h4 := h a h1
    subst h2
    simp only [wt]; omega
theorem sat_closed {l : List Ar} (h : Sat l) {w : List Ar} {i : Nat} (hw : Wk l i w i) : 0 ≤ wt w := by
  obtain ⟨v, hv⟩ := h
  have := sol_walk hv hw
  omega

/-- The place behind k arcs. -/
def plc : Nat → List Ar → Nat → Nat
  | i, _, 0 => i
  | i, [], _ + 1 => i
  | _, a :: w, k + 1 => plc a.t w k
theorem wk_split {l : List Ar} : ∀ (k : Nat) {w : List Ar} {i j : Nat}, k ≤ w.length → Wk l i w j → Wk l i (w.take k) (plc i w k) ∧ Wk l (plc i w k) (w.drop k) j
  | 0, w, i, j, _, h => by simp only [List.take_zero, List.drop_zero, plc]; exact ⟨rfl, h⟩
  | k + 1, [], i, j, hk, h => by simp at hk
  | k + 1, a :: w, i, j, hk, ⟨h1, h2, h3⟩ => by
    obtain ⟨k1, k2⟩ := wk_split k (by simpa using hk) h3
    simp only [List.take_succ_cons, List.drop_succ_cons, plc]
    exact ⟨⟨h1, h2, k1⟩, k2⟩
theorem plc_drop : ∀ (a b : Nat) (w : List Ar) (i : Nat), a ≤ w.length → plc (plc i w a) (w.drop a) b = plc i w (a + b)
  | 0, b, w, i, _ => by simp [plc]
  | a + 1, b, [], i, h => by simp at h
  | a + 1, b, x :: w, i, h => by
    simp only [plc, List.drop_succ_cons]
    rw [plc_drop a b w x.t (by simpa using h), show a + 1 + b = (a + b) + 1 by omega]
    rfl
theorem plc_lt {N : Nat} {l : List Ar} (hl : Inr N l) : ∀ (k : Nat) {w : List Ar} {i j : Nat}, i < N → Wk l i w j → plc i w k < N
  | 0, w, i, j, hi, _ => by simpa [plc] using hi
  | k + 1, [], i, j, hi, _ => by simpa [plc] using hi
  | k + 1, a :: w, i, j, hi, ⟨h1, h2, h3⟩ => by
    simp only [plc]
    exact plc_lt hl k (hl a h1).2 h3
theorem pigeon : ∀ (N : Nat) (f : Nat → Nat), (∀ k, k ≤ N → f k < N) → ∃ a b, a < b ∧ b ≤ N ∧ f a = f b
  | 0, f, h => by have := h 0 (Nat.le_refl _); omega
  | N + 1, f, h => by
    by_cases hx : ∃ a, a ≤ N ∧ f a = f (N + 1)
    · obtain ⟨a, ha, he⟩ := hx
      exact ⟨a, N + 1, by omega, Nat.le_refl _, he⟩
    · have hne : ∀ a, a ≤ N → f a ≠ f (N + 1) := fun a ha he => hx ⟨a, ha, he⟩
      have hl := h (N + 1) (Nat.le_refl _)
      obtain ⟨a, b, h1, h2, h3⟩ := pigeon N (fun k => if f k = N then f (N + 1) else f k) (fun k hk => by
        have h4 := h k (by omega)
        have h5 := hne k hk
        by_cases e : f k = N
        · simp only [if_pos e]; omega
        · simp only [if_neg e]; omega)
      refine ⟨a, b, h1, by omega, ?_⟩
      have ha := hne a (by omega)
      have hb := hne b (by omega)
      by_cases e1 : f a = N <;> by_cases e2 : f b = N
      · omega
      · simp only [if_pos e1, if_neg e2] at h3; exact absurd h3.symm hb
      · simp only [if_neg e1, if_pos e2] at h3; exact absurd h3 ha
      · simpa only [if_neg e1, if_neg e2] using h3

/-- A long walk goes through a short closed one. -/
theorem wk_loop {N : Nat} {l : List Ar} (hl : Inr N l) {w : List Ar} {i j : Nat} (hi : i < N) (hw : Wk l i w j) (hlen : N ≤ w.length) :
    ∃ w1 w2 w3 k, w = w1 ++ (w2 ++ w3) ∧ w2 ≠ [] ∧ w2.length ≤ N ∧ k < N ∧ Wk l i w1 k ∧ Wk l k w2 k ∧ Wk l k w3 j := by
  obtain ⟨a, b, h1, h2, h3⟩ := pigeon N (plc i w) (fun k _ => plc_lt hl k hi hw)
  obtain ⟨s1, s2⟩ := wk_split a (by omega) hw
  obtain ⟨s3, s4⟩ := wk_split (w := w.drop a) (b - a) (by simp; omega) s2
  rw [plc_drop a (b - a) w i (by omega), show a + (b - a) = b by omega, ← h3] at s3 s4
  refine ⟨_, _, _, _, ?_, ?_, ?_, plc_lt hl a hi hw, s1, s3, s4⟩
  · rw [List.take_append_drop, List.take_append_drop]
  · intro e
    have := congrArg List.length e
    simp at this
    omega
  · simp; omega

def NonNeg (N : Nat) (l : List Ar) : Prop := ∀ (k : Nat) (w : List Ar), k < N → Wk l k w k → w.length ≤ N → 0 ≤ wt w

theorem shorten {N : Nat} {l : List Ar} (hl : Inr N l) (H : NonNeg N l) : ∀ (n : Nat) (w : List Ar), w.length ≤ n → ∀ {i j : Nat}, i < N → Wk l i w j → ∃ w', Wk l i w' j ∧ w'.length < N ∧ wt w' ≤ wt w
  | 0, w, hn, i, j, hi, hw => ⟨w, hw, by omega, Int.le_refl _⟩
  | n + 1, w, hn, i, j, hi, hw => by
    by_cases hlen : w.length < N
    · exact ⟨w, hw, hlen, Int.le_refl _⟩
    · obtain ⟨w1, w2, w3, k, rfl, h1, h2, hk, h3, h4, h5⟩ := wk_loop hl hi hw (by omega)
      have h6 := H k w2 hk h4 h2
      have h7 : 0 < w2.length := List.length_pos_iff.2 h1
      obtain ⟨w', k1, k2, k3⟩ := shorten hl H n (w1 ++ w3) (by simp at hn ⊢; omega) hi (wk_append h3 h5)
      refine ⟨w', k1, k2, ?_⟩
      rw [wt_append] at k3
      rw [wt_append, wt_append]
      omega

/-- The least weights of walks from each place. -/
def IsMin (N : Nat) (l : List Ar) (d : Nat → Int) : Prop := ∀ i, i < N → (∃ w j, Wk l i w j ∧ wt w = d i) ∧ ∀ w j, Wk l i w j → d i ≤ wt w
theorem isMin_unique {N : Nat} {l : List Ar} {d e : Nat → Int} (h : IsMin N l d) (k : IsMin N l e) : ∀ i, i < N → d i = e i := fun i hi => by
  obtain ⟨⟨w, j, h1, h2⟩, h3⟩ := h i hi
  obtain ⟨⟨w', j', k1, k2⟩, k3⟩ := k i hi
  have := h3 w' j' k1
  have := k3 w j h1
  omega
theorem isMin_sol {N : Nat} {l : List Ar} (hl : Inr N l) {d : Nat → Int} (h : IsMin N l d) : Sol l d := fun a ha => by
  obtain ⟨h1, h2⟩ := hl a ha
  obtain ⟨w, j, h3, h4⟩ := (h a.t h2).1
  have := (h a.f h1).2 (a :: w) j ⟨ha, rfl, h3⟩
  simp only [wt] at this
  omega

/-! ### The relaxation in place -/

def gd (d : List Int) (i : Nat) : Int := d.getD i 0
theorem gd_set {d : List Int} {i j : Nat} {x : Int} (hi : i < d.length) : gd (d.set i x) j = if i = j then x else gd d j := by
  simp only [gd, List.getD_eq_getElem?_getD, List.getElem?_set]
  by_cases e : i = j
  · subst e; simp [hi]
  · simp [e]
def rel1 (d : List Int) (a : Ar) : List Int := if gd d a.t + a.c < gd d a.f then d.set a.f (gd d a.t + a.c) else d
def chg1 (d : List Int) (a : Ar) : Bool := decide (gd d a.t + a.c < gd d a.f)
/-- A round: the distances, and whether something was changed. -/
def rnd : List Ar → List Int × Bool → List Int × Bool
  | [], p => p
  | a :: l, (d, b) => rnd l (rel1 d a, b || chg1 d a)
def bf (l : List Ar) : Nat → List Int → Option (List Int)
  | 0, _ => none
  | k + 1, d => let p := rnd l (d, false); if p.2 then bf l k p.1 else some p.1

theorem rel1_length (d : List Int) (a : Ar) : (rel1 d a).length = d.length := by
  unfold rel1; split <;> simp
theorem rnd_length : ∀ (l : List Ar) (p : List Int × Bool), (rnd l p).1.length = p.1.length
  | [], p => rfl
  | a :: l, (d, b) => by rw [rnd, rnd_length l, rel1_length]
theorem rel1_get {d : List Int} {a : Ar} (ha : a.f < d.length) (i : Nat) : gd (rel1 d a) i = if i = a.f ∧ gd d a.t + a.c < gd d a.f then gd d a.t + a.c else gd d i := by
  unfold rel1
  by_cases h : gd d a.t + a.c < gd d a.f
  · rw [if_pos h, gd_set ha]
    by_cases e : a.f = i
    · rw [if_pos e, if_pos ⟨e.symm, h⟩]
    · rw [if_neg e, if_neg (fun k => e k.1.symm)]
  · rw [if_neg h, if_neg (fun k => h k.2)]
theorem rel1_le {d : List Int} {a : Ar} (ha : a.f < d.length) (i : Nat) : gd (rel1 d a) i ≤ gd d i := by
  rw [rel1_get ha]
  split
  · rename_i h; rw [h.1]; omega
  · omega
theorem rel1_arc {d : List Int} {a : Ar} (ha : a.f < d.length) : gd (rel1 d a) a.f ≤ gd d a.t + a.c := by
  rw [rel1_get ha]
  split
  · omega
  · rename_i h; simp only [true_and] at h; omega
theorem chg1_false {d : List Int} {a : Ar} (h : chg1 d a = false) : rel1 d a = d ∧ gd d a.f ≤ gd d a.t + a.c := by
  simp only [chg1, decide_eq_false_iff_not] at h
  exact ⟨by simp [rel1, h], by omega⟩

theorem rnd_mono : ∀ (l : List Ar) (p : List Int × Bool), p.2 = true → (rnd l p).2 = true
  | [], p, h => h
  | a :: l, (d, b), h => by
    simp only at h; subst h
    rw [rnd]; exact rnd_mono l _ rfl
theorem rnd_same : ∀ (l : List Ar) (d : List Int), (rnd l (d, false)).2 = false → (rnd l (d, false)).1 = d ∧ Sol l (gd d)
  | [], d, _ => ⟨rfl, fun a h => by simp at h⟩
  | a :: l, d, h => by
    rw [rnd] at h ⊢
    by_cases e : chg1 d a = true
    · rw [e, Bool.or_true, rnd_mono l _ rfl] at h
      cases h
    · have e' : chg1 d a = false := by simpa using e
      obtain ⟨h1, h2⟩ := chg1_false e'
      rw [h1, e', Bool.or_false] at h ⊢
      obtain ⟨h3, h4⟩ := rnd_same l d h
      refine ⟨h3, fun b hb => ?_⟩
      rcases List.mem_cons.1 hb with rfl | hb
      · exact h2
      · exact h4 b hb
theorem rnd_sol : ∀ (l : List Ar) (d : List Int), Sol l (gd d) → (rnd l (d, false)).2 = false
  | [], d, _ => rfl
  | a :: l, d, h => by
    have h1 := h a (by simp)
    have e : chg1 d a = false := by simp only [chg1, decide_eq_false_iff_not]; omega
    rw [rnd, (chg1_false e).1, e]
    exact rnd_sol l d fun b hb => h b (by simp [hb])

section
variable {N : Nat} {l : List Ar} (hl : Inr N l)
include hl
/-- A round over part of the arcs. -/
theorem rnd_part : ∀ (m : List Ar) (p : List Int × Bool), (∀ a ∈ m, a ∈ l) → p.1.length = N →
    (∀ i, gd (rnd m p).1 i ≤ gd p.1 i) ∧ (∀ a ∈ m, gd (rnd m p).1 a.f ≤ gd p.1 a.t + a.c) ∧
    ((∀ i, i < N → ∃ w j, Wk l i w j ∧ wt w = gd p.1 i) → ∀ i, i < N → ∃ w j, Wk l i w j ∧ wt w = gd (rnd m p).1 i)
  | [], p, _, _ => ⟨fun i => Int.le_refl _, fun a h => by simp at h, fun h => h⟩
  | a :: m, (d, b), hm, hn => by
    have ha := hl a (hm a (by simp))
    simp only at hn
    have haf : a.f < d.length := by omega
    obtain ⟨h1, h2, h3⟩ := rnd_part m (rel1 d a, b || chg1 d a) (fun x hx => hm x (by simp [hx])) (by rw [rel1_length]; exact hn)
    rw [rnd]
    refine ⟨fun i => Int.le_trans (h1 i) (rel1_le haf i), fun x hx => ?_, fun hw => h3 fun i hi => ?_⟩
    · rcases List.mem_cons.1 hx with rfl | hx
      · exact Int.le_trans (h1 _) (rel1_arc haf)
      · have := h2 x hx
        have := rel1_le (d := d) (a := a) haf x.t
        simp only at *
        omega
    · simp only
      rw [rel1_get haf]
      split
      · rename_i h
        obtain ⟨w, j, k1, k2⟩ := hw a.t ha.2
        refine ⟨a :: w, j, ⟨hm a (by simp), h.1.symm, k1⟩, ?_⟩
        simp only [wt, k2]; omega
      · exact hw i hi

def Low (l : List Ar) (N k : Nat) (d : List Int) : Prop := d.length = N ∧ (∀ i, gd d i ≤ 0) ∧ (∀ i, i < N → ∃ w j, Wk l i w j ∧ wt w = gd d i) ∧ ∀ i w j, i < N → Wk l i w j → w.length ≤ k → gd d i ≤ wt w
theorem low_zero : Low l N 0 (List.replicate N 0) := by
  have g : ∀ i, gd (List.replicate N 0) i = 0 := fun i => by
    simp only [gd, List.getD_eq_getElem?_getD, List.getElem?_replicate]
    split <;> rfl
  refine ⟨by simp, fun i => by rw [g]; omega, fun i _ => ⟨[], i, rfl, by rw [g]; rfl⟩, fun i w j _ hw hk => ?_⟩
  obtain rfl : w = [] := List.length_eq_zero_iff.1 (by omega)
  rw [g]; simp [wt]
theorem low_succ {k : Nat} {d : List Int} {b : Bool} (h : Low l N k d) : Low l N (k + 1) (rnd l (d, b)).1 := by
  obtain ⟨h0, h1, h2, h3⟩ := h
  obtain ⟨k1, k2, k3⟩ := rnd_part hl l (d, b) (fun _ h => h) h0
  refine ⟨by rw [rnd_length]; exact h0, fun i => Int.le_trans (k1 i) (h1 i), k3 h2, fun i w j hi hw hk => ?_⟩
  cases w with
  | nil => exact Int.le_trans (k1 i) (Int.le_trans (h3 i [] j hi hw (by simp)) (Int.le_refl _))
  | cons a w =>
    obtain ⟨e1, rfl, e3⟩ := hw
    have h4 := k2 a e1
    have h5 := h3 a.t w j (hl a e1).2 e3 (by simpa using hk)
    simp only [wt] at *
    omega
theorem low_min {d : List Int} {k : Nat} (h : Low l N k d) (hs : Sol l (gd d)) : IsMin N l (gd d) := fun i hi => by
  refine ⟨h.2.2.1 i hi, fun w j hw => ?_⟩
  have := sol_walk hs hw
  have := h.2.1 j
  omega
theorem low_full (H : NonNeg N l) {k : Nat} (hk : N ≤ k + 1) {d : List Int} (h : Low l N k d) : IsMin N l (gd d) := fun i hi => by
  refine ⟨h.2.2.1 i hi, fun w j hw => ?_⟩
  obtain ⟨w', h1, h2, h3⟩ := shorten hl H w.length w (Nat.le_refl _) hi hw
  have := h.2.2.2 i w' j hi h1 (by omega)
  omega
theorem bf_some : ∀ (k m : Nat) (d e : List Int), Low l N m d → bf l k d = some e → (∃ m', Low l N m' e) ∧ Sol l (gd e)
  | 0, m, d, e, _, h => by cases h
  | k + 1, m, d, e, hlow, h => by
    simp only [bf] at h
    by_cases hc : (rnd l (d, false)).2 = true
    · rw [if_pos hc] at h
      exact bf_some k (m + 1) _ e (low_succ hl hlow) h
    · rw [if_neg hc] at h
      simp only [Option.some.injEq] at h
      obtain ⟨h1, h2⟩ := rnd_same l d (by simpa using hc)
      rw [h1] at h
      subst h
      exact ⟨⟨m, hlow⟩, h2⟩
theorem bf_isSome (H : NonNeg N l) : ∀ (k m : Nat) (d : List Int), Low l N m d → 0 < k → N ≤ m + k → (bf l k d).isSome = true
  | 0, m, d, _, h, _ => by omega
  | k + 1, m, d, hlow, _, hk => by
    simp only [bf]
    by_cases hc : (rnd l (d, false)).2 = true
    · rw [if_pos hc]
      by_cases hn : N ≤ m + 1
      · have := rnd_sol l d (isMin_sol hl (low_full hl H hn hlow))
        rw [this] at hc; cases hc
      · exact bf_isSome H k (m + 1) _ (low_succ hl hlow) (by omega) (by omega)
    · rw [if_neg hc]; rfl
theorem sat_of_nonneg (H : NonNeg N l) : Sat l := by
  have h := bf_isSome hl H (N + 1) 0 _ (low_zero hl) (by omega) (by omega)
  cases e : bf l (N + 1) (List.replicate N 0) with
  | none => rw [e] at h; cases h
  | some d => exact ⟨_, (bf_some hl _ _ _ _ (low_zero hl) e).2⟩
theorem nonneg_iff : NonNeg N l ↔ Sat l := ⟨sat_of_nonneg hl, fun h k w _ hw _ => sat_closed h hw⟩
/-- The relaxation gives the least weights, or nothing where there is no solution. -/
theorem bf_spec : (∀ d, bf l (N + 1) (List.replicate N 0) = some d → d.length = N ∧ IsMin N l (gd d) ∧ Sat l) ∧ (bf l (N + 1) (List.replicate N 0) = none → ¬ Sat l) := by
  refine ⟨fun d h => ?_, fun h hs => ?_⟩
  · obtain ⟨⟨m, h1⟩, h2⟩ := bf_some hl _ _ _ _ (low_zero hl) h
    exact ⟨h1.1, low_min hl h1 h2, _, h2⟩
  · have := bf_isSome hl ((nonneg_iff hl).2 hs) (N + 1) 0 _ (low_zero hl) (by omega) (by omega)
    rw [h] at this; cases this
end

/-! ### One arc more -/

theorem wk_sub {l m : List Ar} (h : ∀ a ∈ l, a ∈ m) : ∀ {w : List Ar} {i j : Nat}, Wk l i w j → Wk m i w j
  | [], _, _, k => k
  | a :: w, _, _, ⟨h1, h2, h3⟩ => ⟨h a h1, h2, wk_sub h h3⟩
theorem sat_sub {l m : List Ar} (h : ∀ a ∈ l, a ∈ m) (k : Sat m) : Sat l := by
  obtain ⟨v, hv⟩ := k
  exact ⟨v, fun a ha => hv a (h a ha)⟩
theorem opp_walk {l : List Ar} {b : Ar} {c : Int} (hb : ∀ w, Wk l b.t w b.f → c + 1 ≤ wt w) (hc : b.c = -c - 1) : ∀ {w : List Ar} {i j : Nat}, Wk (l ++ [b]) i w j →
    Wk l i w j ∨ ∃ p q, Wk l i p b.f ∧ Wk l b.t q j ∧ wt p - c - 1 + wt q ≤ wt w
  | [], i, j, h => .inl h
  | a :: w, i, j, ⟨h1, h2, h3⟩ => by
    rcases List.mem_append.1 h1 with h1 | h1
    · rcases opp_walk hb hc h3 with h4 | ⟨p, q, h5, h6, h7⟩
      · exact .inl ⟨h1, h2, h4⟩
      · refine .inr ⟨a :: p, q, ⟨h1, h2, h5⟩, h6, ?_⟩
        simp only [wt]; omega
    · obtain rfl : a = b := by simpa using h1
      subst h2
      rcases opp_walk hb hc h3 with h4 | ⟨p, q, h5, h6, h7⟩
      · refine .inr ⟨[], w, rfl, h4, ?_⟩
        simp only [wt]; omega
      · refine .inr ⟨[], q, rfl, h6, ?_⟩
        have := hb p h5
        simp only [wt]; omega
/-- With the opposite of an arc there is a solution exactly if no walk is as short as the arc. -/
theorem sat_opp {N : Nat} {l : List Ar} (hl : Inr N l) {b : Ar} (hbf : b.f < N) (hbt : b.t < N) {c : Int} (hc : b.c = -c - 1) : Sat (l ++ [b]) ↔ Sat l ∧ ∀ w, Wk l b.t w b.f → c < wt w := by
  constructor
  · intro h
    refine ⟨sat_sub (fun a ha => by simp [ha]) h, fun w hw => ?_⟩
    obtain ⟨v, hv⟩ := h
    have h1 := hv b (by simp)
    have h2 := sol_walk (l := l ++ [b]) hv (wk_sub (fun a ha => by simp [ha]) hw)
    omega
  · rintro ⟨h1, h2⟩
    have hl' : Inr N (l ++ [b]) := fun a ha => by
      rcases List.mem_append.1 ha with ha | ha
      · exact hl a ha
      · obtain rfl : a = b := by simpa using ha
        exact ⟨hbf, hbt⟩
    refine sat_of_nonneg hl' fun k w hk hw _ => ?_
    rcases opp_walk (c := c) (fun w hw => by have := h2 w hw; omega) hc hw with h3 | ⟨p, q, h4, h5, h6⟩
    · exact sat_closed h1 h3
    · have := h2 (q ++ p) (wk_append h5 h4)
      rw [wt_append] at this
      omega
end Go.Sj.Dif
