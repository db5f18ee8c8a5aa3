/-
  Partitions of small sets, as lists of numbers: plain mathematics, no program.
-/
namespace Go.Sj.Part
set_option linter.unusedVariables false
set_option linter.unusedSimpArgs false

def okB (xs : List Int) (i : Nat) : Bool := match xs[i]? with
  | some x => decide (0 ≤ x) && decide (x ≤ i) && (xs[x.toNat]? == some x)
  | none => false
/-- Whether a list is a partition. -/
def rightB (xs : List Int) : Bool := (List.range xs.length).all (okB xs)

theorem rightB_true {xs : List Int} (h : ∀ i, i < xs.length → okB xs i = true) : rightB xs = true := by
  simp only [rightB, List.all_eq_true, List.mem_range]; exact h
theorem rightB_false {xs : List Int} {i : Nat} (hi : i < xs.length) (h : okB xs i = false) : rightB xs = false := by
  cases e : rightB xs with
  | false => rfl
  | true =>
    simp only [rightB, List.all_eq_true, List.mem_range] at e
    rw [e i hi] at h; cases h
theorem okB_of {xs : List Int} {i : Nat} {x : Int} (h : xs[i]? = some x) (h0 : 0 ≤ x) (h1 : x ≤ i) (h2 : xs[x.toNat]? = some x) : okB xs i = true := by
  simp [okB, h, h0, h1, h2]
theorem okB_not {xs : List Int} {i : Nat} {x : Int} (h : xs[i]? = some x) (hn : x < 0 ∨ (i : Int) < x ∨ xs[x.toNat]? ≠ some x) : okB xs i = false := by
  simp only [okB, h]
  rcases hn with h0 | h0 | h0
  · simp [show ¬ (0 ≤ x) by omega]
  · simp [show ¬ (x ≤ (i : Int)) by omega]
  · simp [h0]

/-- The error of one partition, of two. -/
def oneE (xs : List Int) : Int := if 80 < xs.length then 3 else if rightB xs then 0 else 1
def twoE (a b : List Int) : Int := if 80 < a.length ∨ 80 < b.length then 3 else if rightB a = false ∨ rightB b = false then 1 else if a.length ≠ b.length then 20 else 0


/-! ### Forests: each element points to a lesser one or to itself -/

def rootF (p : List Nat) : Nat → Nat → Nat
  | 0, i => i
  | f + 1, i => if p.getD i 0 = i then i else rootF p f (p.getD i 0)
def root (p : List Nat) (i : Nat) : Nat := rootF p i i
def Forest (p : List Nat) : Prop := ∀ i, i < p.length → p.getD i 0 ≤ i

theorem rootF_fuel {p : List Nat} (hp : Forest p) : ∀ (f i g : Nat), i < p.length → i ≤ f → i ≤ g → rootF p f i = rootF p g i
  | 0, i, 0, _, _, _ => rfl
  | 0, i, g + 1, hi, hf, hg => by
    obtain rfl : i = 0 := by omega
    have := hp 0 hi
    simp only [rootF]
    rw [if_pos (by omega)]
  | f + 1, i, 0, hi, hf, hg => by
    obtain rfl : i = 0 := by omega
    have := hp 0 hi
    simp only [rootF]
    rw [if_pos (by omega)]
  | f + 1, i, g + 1, hi, hf, hg => by
    have := hp i hi
    simp only [rootF]
    by_cases e : p.getD i 0 = i
    · rw [if_pos e, if_pos e]
    · rw [if_neg e, if_neg e]
      exact rootF_fuel hp f _ g (by omega) (by omega) (by omega)

theorem root_self {p : List Nat} {i : Nat} (h : p.getD i 0 = i) : root p i = i := by
  unfold root
  cases i with
  | zero => rfl
  | succ i => simp only [rootF]; rw [if_pos h]
theorem root_step {p : List Nat} (hp : Forest p) {i : Nat} (hi : i < p.length) (h : p.getD i 0 ≠ i) : root p i = root p (p.getD i 0) := by
  have := hp i hi
  unfold root
  cases i with
  | zero => omega
  | succ i =>
    simp only [rootF]
    rw [if_neg h]
    exact rootF_fuel hp _ _ _ (by omega) (by omega) (by omega)
theorem root_spec {p : List Nat} (hp : Forest p) : ∀ (i : Nat), i < p.length → root p i ≤ i ∧ p.getD (root p i) 0 = root p i := by
  intro i
  induction i using Nat.strongRecOn with
  | _ i ih =>
    intro hi
    by_cases h : p.getD i 0 = i
    · rw [root_self h]; exact ⟨Nat.le_refl _, h⟩
    · have h1 := hp i hi
      rw [root_step hp hi h]
      have := ih (p.getD i 0) (by omega) (by omega)
      omega

/-- Two elements made equivalent. -/
def uniteF (p : List Nat) (a b : Nat) : List Nat := p.set (max (root p a) (root p b)) (min (root p a) (root p b))
/-- Each element points to the least one of its class. -/
def flatF (p : List Nat) : List Nat := (List.range p.length).map (root p)
/-- The same in a flat list. -/
def mergeF (p : List Nat) (a b : Nat) : List Nat := p.map fun k => if k = max (p.getD a 0) (p.getD b 0) then min (p.getD a 0) (p.getD b 0) else k

theorem getD_set {p : List Nat} {i j x : Nat} (hi : i < p.length) : (p.set i x).getD j 0 = if i = j then x else p.getD j 0 := by
  simp only [List.getD_eq_getElem?_getD, List.getElem?_set]
  by_cases e : i = j
  · subst e; simp [hi]
  · simp [e]

theorem unite_forest {p : List Nat} (hp : Forest p) {a b : Nat} (ha : a < p.length) (hb : b < p.length) : Forest (uniteF p a b) ∧ (uniteF p a b).length = p.length := by
  have h1 := root_spec hp a ha
  have h2 := root_spec hp b hb
  refine ⟨fun i hi => ?_, by simp [uniteF]⟩
  simp only [uniteF, List.length_set] at hi ⊢
  rw [getD_set (by omega)]
  split
  · omega
  · exact hp i hi

theorem root_unite {p : List Nat} (hp : Forest p) {a b : Nat} (ha : a < p.length) (hb : b < p.length) : ∀ i, i < p.length →
    root (uniteF p a b) i = if root p i = max (root p a) (root p b) then min (root p a) (root p b) else root p i := by
  have h1 := root_spec hp a ha
  have h2 := root_spec hp b hb
  obtain ⟨hf, hl⟩ := unite_forest hp ha hb
  generalize hx : root p a = x at *
  generalize hy : root p b = y at *
  have hget : ∀ j, (uniteF p a b).getD j 0 = if max x y = j then min x y else p.getD j 0 := fun j => by
    simp only [uniteF, hx, hy]; rw [getD_set (by omega)]
  have hlo : p.getD (min x y) 0 = min x y := by
    rcases Nat.le_total x y with h | h
    · rw [Nat.min_eq_left h]; exact h1.2
    · rw [Nat.min_eq_right h]; exact h2.2
  have hhi : p.getD (max x y) 0 = max x y := by
    rcases Nat.le_total x y with h | h
    · rw [Nat.max_eq_right h]; exact h2.2
    · rw [Nat.max_eq_left h]; exact h1.2
  intro i
  induction i using Nat.strongRecOn with
  | _ i ih =>
    intro hi
    by_cases hr : p.getD i 0 = i
    · rw [root_self hr]
      by_cases he : i = max x y
      · rw [if_pos he]
        by_cases hm : min x y = max x y
        · rw [root_self (by rw [hget, if_pos he.symm]; omega)]; omega
        · rw [root_step hf (by omega) (by rw [hget, if_pos he.symm]; omega), hget, if_pos he.symm]
          exact root_self (by rw [hget, if_neg (by omega)]; exact hlo)
      · rw [if_neg he]
        exact root_self (by rw [hget, if_neg (by omega)]; exact hr)
    · have hne : max x y ≠ i := fun e => hr (by rw [← e]; exact hhi)
      have hlt := hp i hi
      have hg : (uniteF p a b).getD i 0 = p.getD i 0 := by rw [hget, if_neg hne]
      rw [root_step hf (by omega) (by rw [hg]; exact hr), hg, root_step hp hi hr]
      exact ih _ (by omega) (by omega)

theorem flatF_length (p : List Nat) : (flatF p).length = p.length := by simp [flatF]
theorem flatF_get {p : List Nat} {i : Nat} (hi : i < p.length) : (flatF p).getD i 0 = root p i := by
  simp [flatF, List.getD_eq_getElem?_getD, hi]

theorem flat_unite {p : List Nat} (hp : Forest p) {a b : Nat} (ha : a < p.length) (hb : b < p.length) : flatF (uniteF p a b) = mergeF (flatF p) a b := by
  have hl := (unite_forest hp ha hb).2
  simp only [mergeF, flatF_get ha, flatF_get hb]
  simp only [flatF, hl, List.map_map]
  apply List.map_congr_left
  intro i hi
  exact root_unite hp ha hb i (by simpa using hi)

theorem range_getD {n i : Nat} (hi : i < n) : (List.range n).getD i 0 = i := by simp [List.getD_eq_getElem?_getD, hi]
theorem range_forest (n : Nat) : Forest (List.range n) := fun i hi => by
  rw [range_getD (by simpa using hi)]; exact Nat.le_refl _
theorem flat_range (n : Nat) : flatF (List.range n) = List.range n := by
  simp only [flatF, List.length_range]
  conv => rhs; rw [← List.map_id (List.range n)]
  apply List.map_congr_left
  intro i hi
  exact root_self (range_getD (by simpa using hi))

/-- After k elements have been made to point to the least ones. -/
def flatTo (p : List Nat) (k : Nat) : List Nat := (List.range p.length).map fun j => if j < k then root p j else p.getD j 0

theorem flatTo_len (p : List Nat) (k : Nat) : (flatTo p k).length = p.length := by simp [flatTo]
theorem flatTo_get {p : List Nat} {k j : Nat} (hj : j < p.length) : (flatTo p k).getD j 0 = if j < k then root p j else p.getD j 0 := by
  simp [flatTo, List.getD_eq_getElem?_getD, hj]
theorem flatTo_zero (p : List Nat) : flatTo p 0 = p := by
  apply List.ext_getElem?
  intro i
  simp only [flatTo, List.getElem?_map, List.getElem?_range']
  by_cases hi : i < p.length
  · simp [hi, List.getD_eq_getElem?_getD]
  · simp [hi]
theorem flatTo_all (p : List Nat) : flatTo p p.length = flatF p := by
  simp only [flatTo, flatF]
  apply List.map_congr_left
  intro i hi
  rw [if_pos (by simpa using hi)]
theorem flatTo_forest {p : List Nat} (hp : Forest p) (k : Nat) : Forest (flatTo p k) := fun i hi => by
  rw [flatTo_len] at hi
  rw [flatTo_get hi]
  split
  · exact (root_spec hp i hi).1
  · exact hp i hi
theorem root_flatTo {p : List Nat} (hp : Forest p) (k : Nat) : ∀ i, i < p.length → root (flatTo p k) i = root p i := by
  intro i
  induction i using Nat.strongRecOn with
  | _ i ih =>
    intro hi
    have hs := root_spec hp i hi
    by_cases hk : i < k
    · by_cases hr : root p i = i
      · rw [hr]; exact root_self (by rw [flatTo_get hi, if_pos hk, hr])
      · rw [root_step (flatTo_forest hp k) (by rw [flatTo_len]; exact hi) (by rw [flatTo_get hi, if_pos hk]; exact hr), flatTo_get hi, if_pos hk, ih _ (by omega) (by omega)]
        exact root_self hs.2
    · by_cases hr : p.getD i 0 = i
      · rw [root_self hr]; exact root_self (by rw [flatTo_get hi, if_neg hk, hr])
      · have := hp i hi
        rw [root_step (flatTo_forest hp k) (by rw [flatTo_len]; exact hi) (by rw [flatTo_get hi, if_neg hk]; exact hr), flatTo_get hi, if_neg hk, ih _ (by omega) (by omega)]
        exact (root_step hp hi hr).symm
theorem flatTo_succ {p : List Nat} (hp : Forest p) {k : Nat} (hk : k < p.length) : (flatTo p k).set k (root p k) = flatTo p (k + 1) := by
  apply List.ext_getElem?
  intro i
  rw [List.getElem?_set]
  by_cases hi : i < p.length
  · simp only [flatTo, List.getElem?_map, List.length_map, List.length_range, List.getElem?_range hi, Option.map_some]
    by_cases e : k = i
    · subst e; simp [hk]
    · rw [if_neg e]
      congr 1
      by_cases h : i < k
      · rw [if_pos h, if_pos (by omega)]
      · rw [if_neg h, if_neg (by omega)]
  · have e1 : (flatTo p k)[i]? = none := by simp [flatTo]; omega
    have e2 : (flatTo p (k + 1))[i]? = none := by simp [flatTo]; omega
    rw [e1, e2, if_neg (by omega)]

/-! ### Join -/

def joinTo (a b : List Nat) : Nat → List Nat
  | 0 => List.range a.length
  | k + 1 => mergeF (mergeF (joinTo a b k) k (a.getD k 0)) k (b.getD k 0)
def joinN (a b : List Nat) : List Nat := joinTo a b a.length

theorem mergeF_length (p : List Nat) (a b : Nat) : (mergeF p a b).length = p.length := by simp [mergeF]
theorem joinTo_length (a b : List Nat) : ∀ k, (joinTo a b k).length = a.length
  | 0 => by simp [joinTo]
  | k + 1 => by simp [joinTo, mergeF_length, joinTo_length a b k]

/-- What a list of pairs generates. -/
def genN (n : Nat) (l : List (Nat × Nat)) : List Nat := l.foldl (fun p x => mergeF p x.1 x.2) (List.range n)

/-- Numbers that are not negative, as numbers. -/
def toN (xs : List Int) : List Nat := xs.map Int.toNat
def nI (p : List Nat) : List Int := p.map Int.ofNat
theorem toN_nI (p : List Nat) : toN (nI p) = p := by
  simp only [toN, nI, List.map_map]
  conv => rhs; rw [← List.map_id p]
  rfl
theorem nI_length (p : List Nat) : (nI p).length = p.length := by simp [nI]
theorem nI_get {p : List Nat} {i x : Nat} (h : p[i]? = some x) : (nI p)[i]? = some (x : Int) := by simp [nI, h]
theorem nI_set (p : List Nat) (i x : Nat) : (nI p).set i (x : Int) = nI (p.set i x) := by simp [nI, List.map_set]

/-- A partition in the sense of the document. -/
def PartN (p : List Nat) : Prop := ∀ i, i < p.length → p.getD i 0 ≤ i ∧ p.getD (p.getD i 0) 0 = p.getD i 0

theorem right_spec {xs : List Int} (h : rightB xs = true) : xs = nI (toN xs) ∧ PartN (toN xs) := by
  simp only [rightB, List.all_eq_true, List.mem_range] at h
  have key : ∀ i, i < xs.length → ∃ x : Nat, xs[i]? = some (x : Int) ∧ x ≤ i ∧ xs[x]? = some (x : Int) := by
    intro i hi
    have := h i hi
    simp only [okB, List.getElem?_eq_getElem hi, Bool.and_eq_true, decide_eq_true_eq, beq_iff_eq] at this
    obtain ⟨⟨h0, h1⟩, h2⟩ := this
    refine ⟨xs[i].toNat, ?_, by omega, ?_⟩
    · rw [List.getElem?_eq_getElem hi]; congr 1; omega
    · rw [h2]; congr 1; omega
  refine ⟨?_, fun i hi => ?_⟩
  · apply List.ext_getElem?
    intro i
    by_cases hi : i < xs.length
    · obtain ⟨x, hx, _⟩ := key i hi
      simp [nI, toN, hx]
    · have e1 : xs[i]? = none := by simp; omega
      simp [nI, toN, e1]
  · have hl : (toN xs).length = xs.length := by simp [toN]
    obtain ⟨x, hx, hle, hxx⟩ := key i (by omega)
    have e1 : (toN xs).getD i 0 = x := by simp [toN, List.getD_eq_getElem?_getD, hx]
    have e2 : (toN xs).getD x 0 = x := by simp [toN, List.getD_eq_getElem?_getD, hxx]
    rw [e1, e2]
    exact ⟨hle, rfl⟩
theorem PartN.forest {p : List Nat} (h : PartN p) : Forest p := fun i hi => (h i hi).1

/-- Join, Meet as the program and the reference have them. -/
def joinR (a b : List Int) : List Int × Int := if twoE a b = 0 then (nI (joinN (toN a) (toN b)), 0) else ([], twoE a b)

theorem twoE_ok {a b : List Int} (h : twoE a b = 0) : a.length ≤ 80 ∧ b.length = a.length ∧ rightB a = true ∧ rightB b = true := by
  unfold twoE at h
  split at h
  · cases h
  · split at h
    · cases h
    · split at h
      · cases h
      · rename_i h1 h2 h3
        simp only [not_or, Bool.not_eq_false] at h1 h2 h3
        exact ⟨by omega, by omega, h2.1, h2.2⟩

end Go.Sj.Part
