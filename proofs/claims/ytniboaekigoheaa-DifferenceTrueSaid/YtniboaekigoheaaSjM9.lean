/-
  Difference constraints: solutions, what is implied: the functions of both texts, and that they agree: plain mathematics.
-/
import Derived.Test.YtniboaekigoheaaSjM8
import Derived.Test.YtniboaekigoheaaSjN2
namespace Go.Sj.Dif
set_option linter.unusedVariables false
set_option linter.unusedSimpArgs false

def solR (d : List Int) (m : Nat) : List Int := (List.range m).map fun i => gd d (i + 1) - gd d 0
def solveR (n : Int) (l : List Tst) : List Int × Int := if validT n l ≠ 0 then ([], validT n l) else if (distR n.toNat (arcsOf l)).2 = true then (solR (distR n.toNat (arcsOf l)).1 n.toNat, 0) else ([], 10)

theorem asm_inr {n : Nat} {l : List Ar} (h : ASm n l) : Inr (n + 1) l := fun a ha => ⟨(h a ha).1, (h a ha).2.1⟩
theorem distR_facts {n : Nat} {l : List Ar} (h : Inr (n + 1) l) : ((distR n l).2 = true ↔ Sat l) ∧ ((distR n l).2 = true → (distR n l).1.length = n + 1 ∧ IsMin (n + 1) l (gd (distR n l).1)) := by
  obtain ⟨h1, h2⟩ := bf_spec h
  unfold distR
  cases e : bf l (n + 2) (List.replicate (n + 1) 0) with
  | none => exact ⟨⟨fun k => (by cases k), fun k => absurd k (h2 e)⟩, fun k => (by cases k)⟩
  | some d =>
    obtain ⟨k1, k2, k3⟩ := h1 d e
    exact ⟨⟨fun _ => k3, fun _ => rfl⟩, fun _ => ⟨k1, k2⟩⟩
theorem distR_none {n : Nat} {l : List Ar} (h : (distR n l).2 = false) : (distR n l).1 = [] := by
  unfold distR at h ⊢
  cases e : bf l (n + 2) (List.replicate (n + 1) 0) with
  | none => rfl
  | some d => rw [e] at h; cases h
theorem ref_ok {n : Nat} (hn : n ≤ 100) {l : List Ar} (h : ∀ a ∈ l, AOk n a) : (refDistR n l).2 = (distR n l).2 := by
  have h1 := (distR_facts (aok_inr h)).1
  have h2 := diag_iff h hn
  unfold refDistR
  by_cases hs : Sat l
  · rw [h1.2 hs, if_pos (h2.2 hs)]
  · have e1 : (distR n l).2 = false := by
      cases e : (distR n l).2 with
      | false => rfl
      | true => exact absurd (h1.1 e) hs
    rw [e1, if_neg (fun k => hs (h2.1 k))]
theorem isMin_bound {n : Nat} (hn : n ≤ 100) {l : List Ar} (h : ∀ a ∈ l, AOk n a) (hs : Sat l) {d : Nat → Int} (hd : IsMin (n + 1) l d) {i : Nat} (hi : i < n + 1) : -2000000000 ≤ d i ∧ d i ≤ 0 := by
  have hr := aok_inr h
  obtain ⟨⟨w, j, h1, h2⟩, h3⟩ := hd i hi
  obtain ⟨w', k1, k2, k3⟩ := shorten hr ((nonneg_iff hr).2 hs) w.length w (Nat.le_refl _) hi h1
  have k4 := wt_bound h k1
  have k5 := h3 w' j k1
  have k6 := h3 [] i rfl
  simp only [wt] at k6
  omega
/-- The values of the reference. -/
theorem ref_values {n : Nat} (hn : n ≤ 100) {l : List Ar} (h : ∀ a ∈ l, AOk n a) (hok : (distR n l).2 = true) : ∀ i, i < n + 1 → minTo (bst (n + 1) l (n + 2) i) (n + 1) = gd (distR n l).1 i := by
  obtain ⟨h1, h2⟩ := distR_facts (aok_inr h)
  exact isMin_unique (bst_min h hn (h1.1 hok)) (h2 hok).2

/-! ### What is implied -/

def oppA (b : Ar) : Ar := ⟨0, 0, b.t, b.f, -b.c - 1⟩
def impB (n : Nat) (l : List Ar) (b : Ar) : Bool := !(distR n (l ++ [oppA b])).2
def impliesR (n : Int) (l : List Tst) (x : Tst) : Bool × Int := if validT n l ≠ 0 then (false, validT n l) else if oneT n x ≠ 0 then (false, oneT n x) else ((arcsAt 0 x).all (impB n.toNat (arcsOf l)), 0)
theorem opp_inr {n : Nat} {l : List Ar} (h : Inr (n + 1) l) {b : Ar} (hb : b.f < n + 1 ∧ b.t < n + 1) : Inr (n + 1) (l ++ [oppA b]) := fun a ha => by
  rcases List.mem_append.1 ha with ha | ha
  · exact h a ha
  · obtain rfl : a = oppA b := by simpa using ha
    exact ⟨hb.2, hb.1⟩
theorem opp_asm {n : Nat} {l : List Ar} (h : ∀ a ∈ l, AOk n a) {b : Ar} (hb : AOk n b) : ASm n (l ++ [oppA b]) := fun a ha => by
  rcases List.mem_append.1 ha with ha | ha
  · have := h a ha
    simp only [AOk] at this
    omega
  · obtain rfl : a = oppA b := by simpa using ha
    simp only [AOk] at hb
    simp only [oppA]
    omega
theorem imp_iff {n : Nat} {l : List Ar} (h : Inr (n + 1) l) {b : Ar} (hb : b.f < n + 1 ∧ b.t < n + 1) : impB n l b = true ↔ ∀ v, Sol l v → v b.f ≤ v b.t + b.c := by
  have h1 := (distR_facts (opp_inr h hb)).1
  have e : impB n l b = true ↔ ¬ Sat (l ++ [oppA b]) := by
    rw [← h1, impB]
    cases (distR n (l ++ [oppA b])).2 <;> simp
  rw [e]
  constructor
  · intro hn v hv
    refine Int.not_lt.1 fun hlt => hn ⟨v, fun a ha => ?_⟩
    rcases List.mem_append.1 ha with ha | ha
    · exact hv a ha
    · obtain rfl : a = oppA b := by simpa using ha
      simp only [oppA]; omega
  · rintro hv ⟨v, h2⟩
    have h3 := hv v (fun a ha => h2 a (by simp [ha]))
    have h4 := h2 (oppA b) (by simp)
    simp only [oppA] at h4
    omega
theorem imp_ref {n : Nat} (hn : n ≤ 100) {l : List Ar} (h : ∀ a ∈ l, AOk n a) (hs : Sat l) {b : Ar} (hb : AOk n b) : impB n l b = decide (bst (n + 1) l (n + 2) b.f b.t ≤ b.c) := by
  have hr := aok_inr h
  have h1 := (distR_facts (opp_inr hr ⟨hb.1, hb.2.1⟩)).1
  have h2 := sat_opp (b := oppA b) hr hb.2.1 hb.1 (c := b.c) rfl
  have hbc := hb.2.2
  by_cases hx : ∃ w, Wk l b.f w b.t ∧ wt w ≤ b.c
  · obtain ⟨w, k1, k2⟩ := hx
    have k3 := bst_le h hn hs hb.1 hb.2.1 k1
    rw [decide_eq_true (by omega), impB]
    have : ¬ Sat (l ++ [oppA b]) := fun k => by
      have := (h2.1 k).2 w k1
      omega
    cases e : (distR n (l ++ [oppA b])).2 with
    | false => rfl
    | true => exact absurd (h1.1 e) this
  · have hall : ∀ w, Wk l b.f w b.t → b.c < wt w := fun w hw => Int.not_le.1 fun k => hx ⟨w, hw, k⟩
    have hnb : ¬ bst (n + 1) l (n + 2) b.f b.t ≤ b.c := fun k => by
      obtain ⟨k1, k2, k3, k4⟩ := bst_spec h (n + 2) (by omega) b.f b.t hb.1 hb.2.1
      obtain ⟨w, e1, e2, e3⟩ := k3 (by unfold far; omega)
      have := hall w e1
      omega
    rw [decide_eq_false hnb, impB, h1.2 (h2.2 ⟨hs, hall⟩)]
    rfl
/-- Whether some values satisfy all arcs of a test. -/
theorem implies_iff {n : Nat} {l : List Ar} (h : Inr (n + 1) l) {m : List Ar} (hm : Inr (n + 1) m) : m.all (impB n l) = true ↔ ∀ v, Sol l v → Sol m v := by
  rw [List.all_eq_true]
  constructor
  · intro k v hv a ha
    exact (imp_iff h (hm a ha)).1 (k a ha) v hv
  · intro k a ha
    exact (imp_iff h (hm a ha)).2 fun v hv => k v hv a ha
end Go.Sj.Dif
