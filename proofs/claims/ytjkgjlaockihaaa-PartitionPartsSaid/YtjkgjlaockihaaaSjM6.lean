/-
  Partitions as a lattice: plain mathematics, no program.
-/
import Derived.Test.YtjkgjlaockihaaaSjM5
namespace Go.Sj.Part
set_option linter.unusedVariables false
set_option linter.unusedSimpArgs false
set_option linter.unusedSectionVars false

/-- Each element has the label of the one that it points to. -/
def Le (p : List Nat) (c : Nat → Nat) : Prop := ∀ i, i < p.length → c (p.getD i 0) = c i
def lab (p : List Nat) (i : Nat) : Nat := p.getD i 0

theorem le_refl {p : List Nat} (h : PartN p) : Le p (lab p) := fun i hi => (h i hi).2
theorem le_get {p q : List Nat} (hp : PartN p) (hq : PartN q) (hl : p.length = q.length) (h : Le p (lab q)) {i : Nat} (hi : i < p.length) : q.getD i 0 ≤ p.getD i 0 := by
  have h1 := h i hi
  have h2 := (hp i hi).1
  have h3 := (hq (p.getD i 0) (by omega)).1
  simp only [lab] at h1
  omega
theorem part_ext {p q : List Nat} (hp : PartN p) (hq : PartN q) (hl : p.length = q.length) (h1 : Le p (lab q)) (h2 : Le q (lab p)) : p = q := by
  apply List.ext_getElem hl
  intro i hi hi'
  have a := le_get hp hq hl h1 hi
  have b := le_get hq hp hl.symm h2 hi'
  have e1 := get_getD hi
  have e2 := get_getD hi'
  rw [List.getElem?_eq_getElem hi] at e1
  rw [List.getElem?_eq_getElem hi'] at e2
  simp only [Option.some.injEq] at e1 e2
  omega
theorem le_trans {q a : List Nat} {c : Nat → Nat} (hq : PartN q) (hl : q.length = a.length) (h : Le q (lab a)) (k : Le a c) : Le q c := fun i hi => by
  have h1 := h i hi
  have h2 := (hq i hi).1
  have h3 := k (q.getD i 0) (by omega)
  have h4 := k i (by omega)
  simp only [lab] at h1
  rw [← h3, h1, h4]

theorem merge_get {p : List Nat} {a b i : Nat} (hi : i < p.length) : (mergeF p a b).getD i 0 = if p.getD i 0 = max (p.getD a 0) (p.getD b 0) then min (p.getD a 0) (p.getD b 0) else p.getD i 0 := by
  have e := get_getD hi
  simp only [mergeF]
  rw [List.getD_eq_getElem?_getD, List.getElem?_map, e]
  rfl
theorem merge_part {p : List Nat} (hp : PartN p) {a b : Nat} (ha : a < p.length) (hb : b < p.length) : PartN (mergeF p a b) := by
  intro i hi
  rw [mergeF_length] at hi
  have h1 := hp a ha
  have h2 := hp b hb
  have h3 := hp i hi
  rw [merge_get hi]
  generalize hx : p.getD a 0 = x at *
  generalize hy : p.getD b 0 = y at *
  by_cases e : p.getD i 0 = max x y
  · rw [if_pos e]
    refine ⟨by omega, ?_⟩
    rw [merge_get (by omega), hx, hy]
    have : p.getD (min x y) 0 = min x y := by
      rcases Nat.le_total x y with h | h
      · rw [Nat.min_eq_left h]; exact h1.2
      · rw [Nat.min_eq_right h]; exact h2.2
    rw [this]
    split <;> rfl
  · rw [if_neg e]
    refine ⟨h3.1, ?_⟩
    rw [merge_get (by omega), hx, hy, h3.2, if_neg e]
theorem le_merge {p : List Nat} (hp : PartN p) {a b : Nat} (ha : a < p.length) (hb : b < p.length) {c : Nat → Nat} : Le (mergeF p a b) c ↔ Le p c ∧ c a = c b := by
  have h1 := hp a ha
  have h2 := hp b hb
  have key : ∀ i, i < p.length → (mergeF p a b).getD i 0 = if p.getD i 0 = max (p.getD a 0) (p.getD b 0) then min (p.getD a 0) (p.getD b 0) else p.getD i 0 := fun i hi => merge_get hi
  have hl := mergeF_length p a b
  generalize hx : p.getD a 0 = x at *
  generalize hy : p.getD b 0 = y at *
  have hcase : (max x y = x ∧ min x y = y) ∨ (max x y = y ∧ min x y = x) := by omega
  constructor
  · intro h
    have hxy : c x = c y := by
      have hm := h (max x y) (by omega)
      rw [key _ (by omega)] at hm
      have hmax : p.getD (max x y) 0 = max x y := by
        rcases hcase with e | e
        · rw [e.1]; exact h1.2
        · rw [e.1]; exact h2.2
      rw [if_pos hmax] at hm
      rcases hcase with e | e <;> rw [e.1, e.2] at hm
      · exact hm.symm
      · exact hm
    have hp' : Le p c := fun i hi => by
      have hm := h i (by omega)
      rw [key i hi] at hm
      split at hm
      · rename_i e
        rw [e]
        rcases hcase with e | e <;> rw [e.2] at hm <;> rw [e.1]
        · rw [hxy]; exact hm
        · rw [← hxy]; exact hm
      · exact hm
    refine ⟨hp', ?_⟩
    have e1 := hp' a ha
    have e2 := hp' b hb
    rw [hx] at e1
    rw [hy] at e2
    rw [← e1, ← e2, hxy]
  · rintro ⟨h, hab⟩ i hi
    have hi' : i < p.length := by omega
    have e1 := h a ha
    have e2 := h b hb
    rw [hx] at e1
    rw [hy] at e2
    have hxy : c x = c y := by rw [e1, e2, hab]
    have hm := h i hi'
    rw [key i hi']
    split
    · rename_i e
      rw [e] at hm
      rcases hcase with e | e <;> rw [e.1] at hm <;> rw [e.2]
      · rw [← hxy]; exact hm
      · rw [hxy]; exact hm
    · exact hm

theorem range_part (n : Nat) : PartN (List.range n) := fun i hi => by
  have hi' : i < n := by simpa using hi
  rw [range_getD hi', range_getD hi']
  exact ⟨Nat.le_refl _, rfl⟩
theorem le_range {n : Nat} {c : Nat → Nat} : Le (List.range n) c := fun i hi => by rw [range_getD (by simpa using hi)]

/-- Pairs of elements. -/
def InP (n : Nat) (l : List (Nat × Nat)) : Prop := ∀ q ∈ l, q.1 < n ∧ q.2 < n
theorem gen_facts {n : Nat} {c : Nat → Nat} : ∀ (l : List (Nat × Nat)) (p : List Nat), PartN p → p.length = n → InP n l →
    PartN (l.foldl (fun p x => mergeF p x.1 x.2) p) ∧ (Le (l.foldl (fun p x => mergeF p x.1 x.2) p) c ↔ Le p c ∧ ∀ q ∈ l, c q.1 = c q.2)
  | [], p, hp, hn, _ => ⟨hp, by simp⟩
  | q :: l, p, hp, hn, hl => by
    obtain ⟨h1, h2⟩ := hl q (by simp)
    obtain ⟨k1, k2⟩ := gen_facts (c := c) l (mergeF p q.1 q.2) (merge_part hp (by omega) (by omega)) (by rw [mergeF_length, hn]) (fun x hx => hl x (by simp [hx]))
    refine ⟨k1, ?_⟩
    rw [List.foldl_cons, k2, le_merge hp (by omega) (by omega)]
    simp [and_assoc]
theorem gen_part {n : Nat} {l : List (Nat × Nat)} (h : InP n l) : PartN (genN n l) := (gen_facts (c := id) l _ (range_part n) (by simp) h).1
theorem le_gen {n : Nat} {l : List (Nat × Nat)} (h : InP n l) {c : Nat → Nat} : Le (genN n l) c ↔ ∀ q ∈ l, c q.1 = c q.2 := by
  have := (gen_facts (c := c) l _ (range_part n) (by simp) h).2
  simp only [genN]
  rw [this]
  exact ⟨fun h => h.2, fun h => ⟨le_range, h⟩⟩

theorem ext_up {p q : List Nat} (hp : PartN p) (hq : PartN q) (hl : p.length = q.length) (h : ∀ c, Le p c ↔ Le q c) : p = q :=
  part_ext hp hq hl ((h _).2 (le_refl hq)) ((h _).1 (le_refl hp))
theorem ext_down {p q : List Nat} (hp : PartN p) (hq : PartN q) (hl : p.length = q.length) (h : ∀ r, PartN r → r.length = p.length → (Le r (lab p) ↔ Le r (lab q))) : p = q :=
  part_ext hp hq hl ((h _ hp rfl).1 (le_refl hp)) ((h _ hq hl.symm).2 (le_refl hq))

/-! ### Join -/

theorem joinTo_facts {a b : List Nat} (ha : PartN a) (hb : PartN b) (hl : a.length = b.length) {c : Nat → Nat} : ∀ k, k ≤ a.length → PartN (joinTo a b k) ∧ (Le (joinTo a b k) c ↔ ∀ i, i < k → c (a.getD i 0) = c i ∧ c (b.getD i 0) = c i)
  | 0, _ => ⟨range_part _, ⟨fun _ i hi => (by omega), fun _ => le_range⟩⟩
  | k + 1, hk => by
    obtain ⟨h1, h2⟩ := joinTo_facts ha hb hl (c := c) k (by omega)
    have l1 := joinTo_length a b k
    have a1 := (ha k (by omega)).1
    have b1 := (hb k (by omega)).1
    have m1 := merge_part h1 (a := k) (b := a.getD k 0) (by omega) (by omega)
    have l2 := mergeF_length (joinTo a b k) k (a.getD k 0)
    refine ⟨merge_part m1 (by omega) (by omega), ?_⟩
    simp only [joinTo]
    rw [le_merge m1 (by omega) (by omega), le_merge h1 (by omega) (by omega), h2]
    constructor
    · rintro ⟨⟨e1, e2⟩, e3⟩ i hi
      by_cases h : i < k
      · exact e1 i h
      · obtain rfl : i = k := by omega
        exact ⟨e2.symm, e3.symm⟩
    · intro h
      exact ⟨⟨fun i hi => h i (by omega), (h k (by omega)).1.symm⟩, (h k (by omega)).2.symm⟩
theorem join_part {a b : List Nat} (ha : PartN a) (hb : PartN b) (hl : a.length = b.length) : PartN (joinN a b) := (joinTo_facts ha hb hl (c := id) _ (Nat.le_refl _)).1
theorem le_join {a b : List Nat} (ha : PartN a) (hb : PartN b) (hl : a.length = b.length) {c : Nat → Nat} : Le (joinN a b) c ↔ Le a c ∧ Le b c := by
  rw [joinN, (joinTo_facts ha hb hl (c := c) _ (Nat.le_refl _)).2]
  exact ⟨fun h => ⟨fun i hi => (h i hi).1, fun i hi => (h i (by omega)).2⟩, fun h i hi => ⟨h.1 i hi, h.2 i (by omega)⟩⟩
theorem joinN_len (a b : List Nat) : (joinN a b).length = a.length := joinTo_length a b _

/-! ### Meet -/

theorem meetN_getD {a b : List Nat} {k : Nat} (hk : k < a.length) : (meetN a b).getD k 0 = fstF a b k := by
  simp [meetN, List.getD_eq_getElem?_getD, hk]
theorem meet_part (a b : List Nat) : PartN (meetN a b) := fun i hi => by
  rw [meetN_length] at hi
  have h := (fstF_spec a b i).1
  rw [meetN_getD hi, meetN_getD (by omega)]
  exact ⟨h, fstF_idem a b i⟩
theorem meet_eq {a b : List Nat} {i j : Nat} (hi : i < a.length) (hj : j < a.length) : (meetN a b).getD i 0 = (meetN a b).getD j 0 ↔ a.getD i 0 = a.getD j 0 ∧ b.getD i 0 = b.getD j 0 := by
  rw [meetN_getD hi, meetN_getD hj, ← keyI_eq]
  constructor
  · intro h
    rw [← (fstF_spec a b i).2.1, h, (fstF_spec a b j).2.1]
  · intro h
    exact fstF_key h
theorem le_meet {a b q : List Nat} (hq : PartN q) (hl : q.length = a.length) : Le q (lab (meetN a b)) ↔ Le q (lab a) ∧ Le q (lab b) := by
  constructor
  · intro h
    refine ⟨fun i hi => ?_, fun i hi => ?_⟩
    · exact ((meet_eq (by have := (hq i hi).1; omega) (by omega)).1 (h i hi)).1
    · exact ((meet_eq (by have := (hq i hi).1; omega) (by omega)).1 (h i hi)).2
  · rintro ⟨h1, h2⟩ i hi
    exact (meet_eq (by have := (hq i hi).1; omega) (by omega)).2 ⟨h1 i hi, h2 i hi⟩

/-! ### The laws -/
section
variable {a b c : List Nat} (ha : PartN a) (hb : PartN b) (hc : PartN c) (hab : a.length = b.length) (hac : a.length = c.length)
include ha hb hab
theorem join_comm : joinN a b = joinN b a :=
  ext_up (join_part ha hb hab) (join_part hb ha hab.symm) (by simp only [joinN_len]; omega) fun c => by rw [le_join ha hb hab, le_join hb ha hab.symm, and_comm]
theorem meet_comm : meetN a b = meetN b a :=
  ext_down (meet_part a b) (meet_part b a) (by simp only [meetN_length]; omega) fun r hr hl => by
    rw [meetN_length] at hl
    rw [le_meet hr (by omega), le_meet hr (by omega), and_comm]
include hc hac
theorem join_assoc : joinN (joinN a b) c = joinN a (joinN b c) := by
  have h1 := join_part ha hb hab
  have h2 := join_part hb hc (by omega)
  have l1 := joinN_len a b
  have l2 := joinN_len b c
  refine ext_up (join_part h1 hc (by omega)) (join_part ha h2 (by omega)) (by simp only [joinN_len]) fun d => ?_
  rw [le_join h1 hc (by omega), le_join ha hb hab, le_join ha h2 (by omega), le_join hb hc (by omega), and_assoc]
theorem meet_assoc : meetN (meetN a b) c = meetN a (meetN b c) := by
  have l1 := meetN_length a b
  have l2 := meetN_length b c
  refine ext_down (meet_part _ _) (meet_part _ _) (by simp only [meetN_length]) fun r hr hl => ?_
  rw [meetN_length] at hl
  rw [le_meet hr (by omega), le_meet hr (by omega), le_meet hr (by omega), le_meet hr (by omega), and_assoc]
omit hc hac
theorem le_join_left : Le a (lab (joinN a b)) := ((le_join ha hb hab).1 (le_refl (join_part ha hb hab))).1
theorem le_join_right : Le b (lab (joinN a b)) := ((le_join ha hb hab).1 (le_refl (join_part ha hb hab))).2
omit ha hb hab
theorem le_meet_left : Le (meetN a b) (lab a) := ((le_meet (meet_part a b) (meetN_length a b)).1 (le_refl (meet_part a b))).1
theorem le_meet_right : Le (meetN a b) (lab b) := ((le_meet (meet_part a b) (meetN_length a b)).1 (le_refl (meet_part a b))).2
include ha hb hab
theorem meet_absorb : meetN a (joinN a b) = a := by
  have l1 := joinN_len a b
  refine ext_down (meet_part _ _) ha (meetN_length _ _) fun r hr hl => ?_
  rw [meetN_length] at hl
  rw [le_meet hr hl]
  exact ⟨fun h => h.1, fun h => ⟨h, le_trans hr hl h (le_join_left ha hb hab)⟩⟩
theorem join_absorb : joinN a (meetN a b) = a := by
  have l1 := meetN_length a b
  refine ext_up (join_part ha (meet_part a b) l1.symm) ha (joinN_len _ _) fun c => ?_
  rw [le_join ha (meet_part a b) l1.symm]
  exact ⟨fun h => h.1, fun h => ⟨h, le_trans (meet_part a b) l1 le_meet_left h⟩⟩
end

theorem finer_iff {p r : List Nat} : finerN p r = true ↔ Le p (lab r) := by
  simp only [finerN, List.all_eq_true, List.mem_range, beq_iff_eq, Le, lab]
  exact ⟨fun h i hi => (h i hi).symm, fun h i hi => (h i hi).symm⟩
theorem right_of_part {p : List Nat} (h : PartN p) : rightB (nI p) = true := rightB_true fun i hi => by
  rw [nI_length] at hi
  obtain ⟨h1, h2⟩ := h i hi
  refine okB_of (nI_get (get_getD hi)) (by omega) (by omega) ?_
  rw [Int.toNat_natCast]
  have := nI_get (get_getD (p := p) (i := p.getD i 0) (by omega))
  rw [h2] at this
  exact this
theorem twoE_part {p r : List Nat} (hp : PartN p) (hr : PartN r) (hl : p.length = r.length) (h80 : p.length ≤ 80) : twoE (nI p) (nI r) = 0 := by
  simp [twoE, right_of_part hp, right_of_part hr, nI_length, ← hl, show ¬ 80 < p.length by omega]
theorem joinR_part {p r : List Nat} (hp : PartN p) (hr : PartN r) (hl : p.length = r.length) (h80 : p.length ≤ 80) : joinR (nI p) (nI r) = (nI (joinN p r), 0) := by
  simp only [joinR, if_pos (twoE_part hp hr hl h80), toN_nI]
theorem meetR_part {p r : List Nat} (hp : PartN p) (hr : PartN r) (hl : p.length = r.length) (h80 : p.length ≤ 80) : meetR (nI p) (nI r) = (nI (meetN p r), 0) := by
  simp only [meetR, if_pos (twoE_part hp hr hl h80), toN_nI]
theorem finerR_part {p r : List Nat} (hp : PartN p) (hr : PartN r) (hl : p.length = r.length) (h80 : p.length ≤ 80) : finerR (nI p) (nI r) = finerN p r := by
  simp [finerR, twoE_part hp hr hl h80, toN_nI]

/-! ### What numbers describe -/

def madeStep (l : List Nat) (p : List Nat) : List Nat :=
  let i := p.length
  let k := min (l.getD i 0 % (i + 2)) i
  p ++ [if k < i then p.getD k 0 else k]
def madeTo (l : List Nat) : Nat → List Nat
  | 0 => []
  | k + 1 => madeStep l (madeTo l k)
theorem madeTo_length (l : List Nat) : ∀ k, (madeTo l k).length = k
  | 0 => rfl
  | k + 1 => by simp [madeTo, madeStep, madeTo_length l k]
theorem part_snoc {p : List Nat} (h : PartN p) {x : Nat} (hx : x ≤ p.length) (hxx : x < p.length → p.getD x 0 = x) : PartN (p ++ [x]) := by
  have g : ∀ j, j < p.length → (p ++ [x]).getD j 0 = p.getD j 0 := fun j hj => by
    simp only [List.getD_eq_getElem?_getD, List.getElem?_append_left hj]
  have gl : (p ++ [x]).getD p.length 0 = x := by simp [List.getD_eq_getElem?_getD]
  intro i hi
  simp only [List.length_append, List.length_singleton] at hi
  by_cases e : i < p.length
  · have h1 := h i e
    rw [g i e, g _ (by omega)]
    exact h1
  · obtain rfl : i = p.length := by omega
    rw [gl]
    refine ⟨hx, ?_⟩
    by_cases e2 : x < p.length
    · rw [g x e2, hxx e2]
    · obtain rfl : x = p.length := by omega
      exact gl
theorem madeTo_part (l : List Nat) : ∀ k, PartN (madeTo l k)
  | 0 => fun i hi => by simp [madeTo] at hi
  | k + 1 => by
    have h := madeTo_part l k
    have hl := madeTo_length l k
    simp only [madeTo, madeStep]
    refine part_snoc h ?_ ?_
    · split
      · rename_i h1
        have := (h _ h1).1
        omega
      · omega
    · intro h2
      split
      · rename_i h1
        exact (h _ h1).2
      · rename_i h1
        rw [if_neg h1] at h2
        omega
def madeN (l : List Nat) : List Nat := madeTo l (min l.length 12)
theorem madeN_part (l : List Nat) : PartN (madeN l) := madeTo_part l _
theorem madeN_length (l : List Nat) : (madeN l).length = min l.length 12 := madeTo_length l _
end Go.Sj.Part
