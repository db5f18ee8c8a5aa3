/- Parts of a proof. -/
import Derived.Test.YtimfponihbfimaaGreatP11
set_option linter.unusedVariables false
set_option linter.unusedSimpArgs false
section
namespace Go.Sj.Sta
open Go.Sj Go.Sj.Typ
structure Ed where
  ty : Int
  fr : Int
  to : Int
deriving DecidableEq
structure Gr where
  nodes : List Int
  edges : List Ed
def cEd (e : Ed) : List AV := [AI e.ty, AI e.fr, AI e.to]
abbrev edsA (l : List Ed) : AV := .im 3 (l.map cEd)
abbrev grA (g : Gr) : AV := .agg [ints g.nodes, edsA g.edges]
abbrev grP (g : Gr) : AV := .ip [ints g.nodes, edsA g.edges]
structure Cnt where
  ty : Int
  fr : Int
  to : Int
  nu : Int
deriving DecidableEq
def cCnt (c : Cnt) : List AV := [AI c.ty, AI c.fr, AI c.to, AI c.nu]
abbrev cntsA (l : List Cnt) : AV := .im 4 (l.map cCnt)
structure Sta where
  nodes : List Cnt
  edges : List Cnt
abbrev staA (s : Sta) : AV := .agg [cntsA s.nodes, cntsA s.edges]
abbrev staP (s : Sta) : AV := .ip [cntsA s.nodes, cntsA s.edges]
def klt (a b : Cnt) : Prop := a.ty < b.ty ∨ a.ty = b.ty ∧ (a.fr < b.fr ∨ a.fr = b.fr ∧ a.to < b.to)
def keq (a b : Cnt) : Prop := a.ty = b.ty ∧ a.fr = b.fr ∧ a.to = b.to
instance (a b : Cnt) : Decidable (klt a b) := inferInstanceAs (Decidable (_ ∨ _))
instance (a b : Cnt) : Decidable (keq a b) := inferInstanceAs (Decidable (_ ∧ _))
def cmp3 (a b : Cnt) : Int := if a.ty - b.ty ≠ 0 then a.ty - b.ty else if a.fr - b.fr ≠ 0 then a.fr - b.fr else a.to - b.to
theorem cmp3_lt (a b : Cnt) : cmp3 a b < 0 ↔ klt a b := by
  unfold cmp3 klt
  repeat' split
  all_goals omega
theorem cmp3_eq (a b : Cnt) : cmp3 a b = 0 ↔ keq a b := by
  unfold cmp3 keq
  repeat' split
  all_goals omega
theorem klt_trans {a b c : Cnt} (h : klt a b) (k : klt b c) : klt a c := by unfold klt at *; omega
theorem klt_irr {a b : Cnt} (h : klt a b) : ¬ keq a b := by unfold klt keq at *; omega
theorem klt_asym {a b : Cnt} (h : klt a b) : ¬ klt b a := by unfold klt at *; omega
theorem klt_tri (a b : Cnt) : klt a b ∨ keq a b ∨ klt b a := by unfold klt keq; omega
theorem keq_klt {a b c : Cnt} (h : keq a b) (k : klt b c) : klt a c := by unfold klt keq at *; omega
theorem keq_symm {a b : Cnt} (h : keq a b) : keq b a := by unfold keq at *; omega
theorem keq_trans {a b c : Cnt} (h : keq a b) (k : keq b c) : keq a c := by unfold keq at *; omega
abbrev Srt (l : List Cnt) : Prop := l.Pairwise klt
def addN (c x : Cnt) : Cnt := ⟨c.ty, c.fr, c.to, c.nu + x.nu⟩
def addC : List Cnt → Cnt → List Cnt
  | [], x => [x]
  | c :: l, x => if klt c x then c :: addC l x else if keq c x then (if c.nu + x.nu = 0 then l else addN c x :: l) else x :: c :: l
theorem addC_all {a : List Cnt} {x : Cnt} (h : ∀ c ∈ a, klt c x) (b : List Cnt) : addC (a ++ b) x = a ++ addC b x := by
  induction a with
  | nil => rfl
  | cons c a ih =>
    rw [List.cons_append, addC, if_pos (h c (by simp)), ih (fun d hd => h d (List.mem_cons_of_mem _ hd)), List.cons_append]
theorem addC_some {a : List Cnt} {x : Cnt} (h : ∃ c ∈ a, ¬ klt c x) (b : List Cnt) : addC (a ++ b) x = addC a x ++ b := by
  induction a with
  | nil => obtain ⟨c, hc, _⟩ := h; cases hc
  | cons c a ih =>
    rw [List.cons_append, addC, addC]
    by_cases h1 : klt c x
    · rw [if_pos h1, if_pos h1, ih ?_, List.cons_append]
      obtain ⟨d, hd, hx⟩ := h
      rcases List.mem_cons.1 hd with rfl | hd
      · exact absurd h1 hx
      · exact ⟨d, hd, hx⟩
    · rw [if_neg h1, if_neg h1]
      by_cases h2 : keq c x
      · rw [if_pos h2, if_pos h2]
        by_cases h3 : c.nu + x.nu = 0
        · rw [if_pos h3, if_pos h3]
        · rw [if_neg h3, if_neg h3, List.cons_append]
      · rw [if_neg h2, if_neg h2, List.cons_append, List.cons_append]
theorem addC_len (l : List Cnt) (x : Cnt) : (addC l x).length ≤ l.length + 1 := by
  induction l with
  | nil => simp [addC]
  | cons c l ih =>
    rw [addC]
    split
    · simp; omega
    · split
      · split <;> simp
        omega
      · simp
theorem addC_mem {l : List Cnt} {x c : Cnt} (h : c ∈ addC l x) : c ∈ l ∨ c = x ∨ ∃ d ∈ l, keq d x ∧ c = addN d x ∧ c.nu ≠ 0 := by
  induction l with
  | nil => simp [addC] at h; exact .inr (.inl h)
  | cons d l ih =>
    rw [addC] at h
    split at h
    · rcases List.mem_cons.1 h with rfl | h
      · exact .inl (by simp)
      · rcases ih h with h | h | ⟨e, he, k⟩
        · exact .inl (by simp [h])
        · exact .inr (.inl h)
        · exact .inr (.inr ⟨e, by simp [he], k⟩)
    · split at h
      · rename_i hk
        split at h
        · exact .inl (by simp [h])
        · rename_i hz
          rcases List.mem_cons.1 h with rfl | h
          · exact .inr (.inr ⟨d, by simp, hk, rfl, hz⟩)
          · exact .inl (by simp [h])
      · rcases List.mem_cons.1 h with rfl | h
        · exact .inr (.inl rfl)
        · exact .inl h
theorem addC_srt {l : List Cnt} {x : Cnt} (h : Srt l) : Srt (addC l x) := by
  induction l with
  | nil => simp [addC]
  | cons d l ih =>
    obtain ⟨h1, h2⟩ := List.pairwise_cons.1 h
    rw [addC]
    split
    · rename_i hk
      refine List.pairwise_cons.2 ⟨fun c hc => ?_, ih h2⟩
      rcases addC_mem hc with hc | rfl | ⟨e, he, hq, rfl, _⟩
      · exact h1 c hc
      · exact hk
      · exact h1 e he
    · split
      · split
        · exact h2
        · exact List.pairwise_cons.2 ⟨fun c hc => h1 c hc, h2⟩
      · rename_i hk hq
        refine List.pairwise_cons.2 ⟨fun c hc => ?_, h⟩
        have hd : klt x d := by rcases klt_tri d x with a | a | a; exact absurd a hk; exact absurd a hq; exact a
        rcases List.mem_cons.1 hc with rfl | hc
        · exact hd
        · exact klt_trans hd (h1 c hc)
def KP (p : Cnt → Bool) : Prop := ∀ a b, keq a b → p a = p b
def sumP (p : Cnt → Bool) : List Cnt → Int
  | [] => 0
  | c :: l => (if p c = true then c.nu else 0) + sumP p l
theorem sumP_append (p : Cnt → Bool) (a b : List Cnt) : sumP p (a ++ b) = sumP p a + sumP p b := by
  induction a with
  | nil => simp [sumP]
  | cons c a ih => rw [List.cons_append, sumP, sumP, ih]; omega
theorem sumP_addC {p : Cnt → Bool} (hp : KP p) (l : List Cnt) (x : Cnt) : sumP p (addC l x) = sumP p l + if p x = true then x.nu else 0 := by
  induction l with
  | nil => simp [addC, sumP]
  | cons c l ih =>
    rw [addC]
    split
    · rw [sumP, sumP, ih]; omega
    · split
      · rename_i hq
        have := hp c x hq
        split
        · rename_i hz
          rw [sumP, this]
          split <;> omega
        · rw [sumP, sumP, show p (addN c x) = p x from (hp (addN c x) x (keq_trans ⟨rfl, rfl, rfl⟩ hq)), this]
          split
          · simp only [addN]; omega
          · omega
      · rw [sumP, sumP]; omega
def addAll (l : List Cnt) (xs : List Cnt) : List Cnt := xs.foldl addC l
theorem addAll_srt {l : List Cnt} (hs : Srt l) (xs : List Cnt) : Srt (addAll l xs) := by
  induction xs generalizing l with
  | nil => exact hs
  | cons x xs ih => exact ih (addC_srt hs)
theorem addAll_sum {p : Cnt → Bool} (hp : KP p) (l xs : List Cnt) : sumP p (addAll l xs) = sumP p l + sumP p xs := by
  induction xs generalizing l with
  | nil => simp [addAll, sumP]
  | cons x xs ih =>
    show sumP p (addAll (addC l x) xs) = _
    rw [ih, sumP_addC hp, sumP]; omega
theorem addAll_snoc (l xs : List Cnt) (x : Cnt) : addAll l (xs ++ [x]) = addC (addAll l xs) x := by simp [addAll]
abbrev tot (l : List Cnt) : Int := sumP (fun _ => true) l
theorem tot_kp : KP (fun _ => true) := fun _ _ _ => rfl
def numK (l : List Cnt) (k : Cnt) : Int := match l.find? (fun c => decide (keq c k)) with
  | some c => c.nu
  | none => 0
end Go.Sj.Sta
namespace Go.Sj.Sta
open Go.Sj Go.Sj.Typ
def typB (x : Int) : Bool := decide (0 ≤ x ∧ x ≤ 99)
def edB (n : Nat) (e : Ed) : Bool := decide ((0 ≤ e.ty ∧ e.ty ≤ 99) ∧ (0 ≤ e.fr ∧ e.fr < n) ∧ (0 ≤ e.to ∧ e.to < n))
def gvalid (g : Gr) : Int := if 40 < g.nodes.length ∨ 80 < g.edges.length then 3 else if (g.nodes.any fun x => !typB x) = true then 6 else if (g.edges.any fun e => !edB g.nodes.length e) = true then 6 else 0
structure GV (g : Gr) : Prop where
  nl : g.nodes.length ≤ 40
  el : g.edges.length ≤ 80
  nodes : ∀ x ∈ g.nodes, 0 ≤ x ∧ x ≤ 99
  edges : ∀ e ∈ g.edges, (0 ≤ e.ty ∧ e.ty ≤ 99) ∧ (0 ≤ e.fr ∧ e.fr < g.nodes.length) ∧ (0 ≤ e.to ∧ e.to < g.nodes.length)
theorem gvalid_zero {g : Gr} : gvalid g = 0 ↔ GV g := by
  unfold gvalid
  constructor
  · intro h
    split at h
    · cases h
    · rename_i h1
      split at h
      · cases h
      · rename_i h2
        split at h
        · cases h
        · rename_i h3
          simp only [List.any_eq_true, not_exists, not_and, Bool.not_eq_true', Bool.not_eq_false, typB, edB, decide_eq_true_eq] at h2 h3
          exact ⟨by omega, by omega, h2, h3⟩
  · intro h
    rw [if_neg (by have := h.nl; have := h.el; omega), if_neg, if_neg]
    · simp only [List.any_eq_true, not_exists, not_and, Bool.not_eq_true', Bool.not_eq_false, edB, decide_eq_true_eq]
      exact h.edges
    · simp only [List.any_eq_true, not_exists, not_and, Bool.not_eq_true', Bool.not_eq_false, typB, decide_eq_true_eq]
      exact h.nodes
def nodeAt (g : Gr) (i : Int) : Int := g.nodes.getD i.toNat 0
theorem nodeAt_get {g : Gr} {i : Int} (h0 : 0 ≤ i) (h1 : i < g.nodes.length) : g.nodes[i.toNat]? = some (nodeAt g i) := by
  unfold nodeAt
  rw [List.getD_eq_getElem?_getD, List.getElem?_eq_getElem (by omega)]
  rfl
theorem nodeAt_mem {g : Gr} {i : Int} (h0 : 0 ≤ i) (h1 : i < g.nodes.length) : nodeAt g i ∈ g.nodes := List.mem_of_getElem? (nodeAt_get h0 h1)
def tyEd (t : Tys) (g : Gr) (e : Ed) : Int := if (t.edges.length : Int) ≤ e.ty then 6 else if fitsR t e.ty (nodeAt g e.fr) (nodeAt g e.to) = false then 13 else 0
def tyE (t : Tys) (g : Gr) (i : Nat) : Int := match g.edges[i]? with
  | some e => tyEd t g e
  | none => 0
def typedE (t : Tys) (g : Gr) : Int := if (validR t).2 ≠ 0 then (validR t).2 else if gvalid g ≠ 0 then gvalid g else if (g.nodes.any fun n => decide ((t.nodes.length : Int) ≤ n)) = true then 6 else firstN (tyE t g) g.edges.length
structure TV (t : Tys) (g : Gr) : Prop where
  types : (validR t).2 = 0
  graph : GV g
  nodes : ∀ x ∈ g.nodes, 0 ≤ x ∧ x < t.nodes.length
  edges : ∀ e ∈ g.edges, (0 ≤ e.ty ∧ e.ty < t.edges.length) ∧ fitsR t e.ty (nodeAt g e.fr) (nodeAt g e.to) = true
theorem typedE_zero {t : Tys} {g : Gr} : typedE t g = 0 ↔ TV t g := by
  unfold typedE
  constructor
  · intro h
    split at h
    · rename_i h1; exact absurd h h1
    · rename_i h1
      split at h
      · rename_i h2; exact absurd h h2
      · rename_i h2
        have hg := gvalid_zero.1 (Decidable.not_not.1 h2)
        split at h
        · cases h
        · rename_i h3
          simp only [List.any_eq_true, not_exists, not_and, decide_eq_true_eq, Int.not_le] at h3
          refine ⟨Decidable.not_not.1 h1, hg, fun x hx => ⟨(hg.nodes x hx).1, h3 x hx⟩, fun e he => ?_⟩
          obtain ⟨i, hi, rfl⟩ := List.mem_iff_getElem.1 he
          have := firstN_zero.1 h i hi
          have h5 := hg.edges _ he
          simp only [tyE, List.getElem?_eq_getElem hi, tyEd] at this
          split at this
          · cases this
          · split at this
            · cases this
            · rename_i a b
              exact ⟨⟨h5.1.1, by omega⟩, by simpa using b⟩
  · intro h
    rw [if_neg (by rw [h.types]; decide), if_neg (by rw [gvalid_zero.2 h.graph]; decide), if_neg]
    · refine firstN_none fun i hi => ?_
      have := h.edges _ (List.getElem_mem hi)
      simp only [tyE, List.getElem?_eq_getElem hi, tyEd]
      rw [if_neg (by omega), if_neg (by rw [this.2]; decide)]
    · simp only [List.any_eq_true, not_exists, not_and, decide_eq_true_eq, Int.not_le]
      exact fun x hx => (h.nodes x hx).2
def nodeC (n : Int) : Cnt := ⟨n, 0, 0, 1⟩
def edgeC (g : Gr) (e : Ed) : Cnt := ⟨e.ty, nodeAt g e.fr, nodeAt g e.to, 1⟩
def ofN (g : Gr) (l : List Int) : List Cnt := addAll [] (l.map nodeC)
def ofE (g : Gr) (l : List Ed) : List Cnt := addAll [] (l.map (edgeC g))
def ofS (g : Gr) : Sta := ⟨ofN g g.nodes, ofE g g.edges⟩
def ofR (t : Tys) (g : Gr) : Sta × Int := if typedE t g ≠ 0 then (⟨[], []⟩, typedE t g) else (ofS g, 0)
def prevB (l : List Cnt) (i : Nat) (c : Cnt) : Bool := decide (0 < i) && (match l[i - 1]? with
  | some d => !decide (klt d c)
  | none => false)
def nodeOk (n : Nat) (c : Cnt) : Prop := (0 ≤ c.ty ∧ c.ty < n) ∧ c.fr = 0 ∧ c.to = 0 ∧ 1 ≤ c.nu ∧ c.nu ≤ 40
instance (n : Nat) (c : Cnt) : Decidable (nodeOk n c) := inferInstanceAs (Decidable (_ ∧ _))
def edgeOk (n m : Nat) (c : Cnt) : Prop := (0 ≤ c.ty ∧ c.ty < m) ∧ (0 ≤ c.fr ∧ c.fr < n) ∧ (0 ≤ c.to ∧ c.to < n) ∧ 1 ≤ c.nu ∧ c.nu ≤ 80
instance (n m : Nat) (c : Cnt) : Decidable (edgeOk n m c) := inferInstanceAs (Decidable (_ ∧ _))
def hasB (l : List Cnt) (k : Int) : Bool := l.any fun c => decide (c.ty = k)
def vN1 (n : Nat) (l : List Cnt) (i : Nat) (c : Cnt) : Int := if ¬ nodeOk n c then 6 else if prevB l i c = true then 12 else 0
def vN (n : Nat) (l : List Cnt) (i : Nat) : Int := match l[i]? with
  | some c => vN1 n l i c
  | none => 0
def vE1 (t : Tys) (s : Sta) (i : Nat) (c : Cnt) : Int := if ¬ edgeOk t.nodes.length t.edges.length c then 6 else if fitsR t c.ty c.fr c.to = false then 13 else if hasB s.nodes c.fr = false ∨ hasB s.nodes c.to = false then 10 else if prevB s.edges i c = true then 12 else 0
def vE (t : Tys) (s : Sta) (i : Nat) : Int := match s.edges[i]? with
  | some c => vE1 t s i c
  | none => 0
def sValid (t : Tys) (s : Sta) : Int := if (validR t).2 ≠ 0 then (validR t).2 else if firstN (vN t.nodes.length s.nodes) s.nodes.length ≠ 0 then firstN (vN t.nodes.length s.nodes) s.nodes.length else if 40 < tot s.nodes then 3
  else if firstN (vE t s) s.edges.length ≠ 0 then firstN (vE t s) s.edges.length else if 80 < tot s.edges then 3 else 0
structure SN (n : Nat) (l : List Cnt) : Prop where
  ok : ∀ c ∈ l, nodeOk n c
  srt : Srt l
structure SE' (t : Tys) (s : Sta) : Prop where
  ok : ∀ c ∈ s.edges, edgeOk t.nodes.length t.edges.length c
  fits : ∀ c ∈ s.edges, fitsR t c.ty c.fr c.to = true
  has : ∀ c ∈ s.edges, hasB s.nodes c.fr = true ∧ hasB s.nodes c.to = true
  srt : Srt s.edges
structure SV (t : Tys) (s : Sta) : Prop where
  types : (validR t).2 = 0
  nodes : SN t.nodes.length s.nodes
  ntot : tot s.nodes ≤ 40
  edges : SE' t s
  etot : tot s.edges ≤ 80
theorem srt_of_prev {l : List Cnt} : ∀ {k : Nat}, k ≤ l.length → (∀ i c, i < k → l[i]? = some c → prevB l i c = false) → Srt (l.take k)
  | 0, _, _ => by simp
  | k + 1, hk, h => by
    have ih := srt_of_prev (k := k) (by omega) (fun i c hi => h i c (by omega))
    rw [List.take_succ_eq_append_getElem (by omega)]
    refine List.pairwise_append.2 ⟨ih, by simp, fun a ha b hb => ?_⟩
    simp only [List.mem_singleton] at hb
    subst hb
    have hp := h k _ (by omega) (List.getElem?_eq_getElem (by omega))
    obtain ⟨i, hi, rfl⟩ := List.mem_iff_getElem.1 ha
    simp only [List.length_take] at hi
    have hlast : klt l[k - 1] l[k] := by
      rw [prevB, decide_eq_true (by omega), List.getElem?_eq_getElem (by omega)] at hp
      simpa using hp
    rw [List.getElem_take]
    rcases Nat.lt_or_ge i (k - 1) with h1 | h1
    · have := List.pairwise_iff_getElem.1 ih i (k - 1) (by simp; omega) (by simp; omega) h1
      rw [List.getElem_take, List.getElem_take] at this
      exact klt_trans this hlast
    · have : i = k - 1 := by omega
      subst this
      exact hlast
theorem prev_of_srt {l : List Cnt} (h : Srt l) {i : Nat} {c : Cnt} (hc : l[i]? = some c) : prevB l i c = false := by
  unfold prevB
  by_cases h0 : 0 < i
  · obtain ⟨hi, rfl⟩ := List.getElem?_eq_some_iff.1 hc
    rw [decide_eq_true h0, List.getElem?_eq_getElem (by omega)]
    have := List.pairwise_iff_getElem.1 h (i - 1) i (by omega) hi (by omega)
    simpa using this
  · rw [decide_eq_false h0]; rfl
theorem vN_zero {n : Nat} {l : List Cnt} : firstN (vN n l) l.length = 0 ↔ SN n l := by
  rw [firstN_zero]
  constructor
  · intro h
    have h1 : ∀ (i : Nat) (c : Cnt), l[i]? = some c → nodeOk n c ∧ prevB l i c = false := fun i c hc => by
      have := h i (List.getElem?_eq_some_iff.1 hc).1
      simp only [vN, hc, vN1] at this
      split at this
      · cases this
      · split at this
        · cases this
        · rename_i a b; exact ⟨Decidable.not_not.1 a, by simpa using b⟩
    refine ⟨fun c hc => ?_, ?_⟩
    · obtain ⟨i, hi, rfl⟩ := List.mem_iff_getElem.1 hc
      exact (h1 i _ (List.getElem?_eq_getElem hi)).1
    · have := srt_of_prev (l := l) (k := l.length) (Nat.le_refl _) (fun i c _ hc => (h1 i c hc).2)
      rwa [List.take_length] at this
  · intro h i hi
    have hx := List.getElem?_eq_getElem hi
    simp only [vN, hx, vN1]
    rw [if_neg (Decidable.not_not.2 (h.ok _ (List.getElem_mem hi))), if_neg (by rw [prev_of_srt h.srt hx]; decide)]
theorem vE_zero {t : Tys} {s : Sta} : firstN (vE t s) s.edges.length = 0 ↔ SE' t s := by
  rw [firstN_zero]
  constructor
  · intro h
    have h1 : ∀ (i : Nat) (c : Cnt), s.edges[i]? = some c → edgeOk t.nodes.length t.edges.length c ∧ fitsR t c.ty c.fr c.to = true ∧ (hasB s.nodes c.fr = true ∧ hasB s.nodes c.to = true) ∧ prevB s.edges i c = false := fun i c hc => by
      have := h i (List.getElem?_eq_some_iff.1 hc).1
      simp only [vE, hc, vE1] at this
      split at this
      · cases this
      · split at this
        · cases this
        · split at this
          · cases this
          · split at this
            · cases this
            · rename_i a b d e
              exact ⟨Decidable.not_not.1 a, by simpa using b, by simpa [not_or] using d, by simpa using e⟩
    refine ⟨fun c hc => ?_, fun c hc => ?_, fun c hc => ?_, ?_⟩
    · obtain ⟨i, hi, rfl⟩ := List.mem_iff_getElem.1 hc
      exact (h1 i _ (List.getElem?_eq_getElem hi)).1
    · obtain ⟨i, hi, rfl⟩ := List.mem_iff_getElem.1 hc
      exact (h1 i _ (List.getElem?_eq_getElem hi)).2.1
    · obtain ⟨i, hi, rfl⟩ := List.mem_iff_getElem.1 hc
      exact (h1 i _ (List.getElem?_eq_getElem hi)).2.2.1
    · have := srt_of_prev (l := s.edges) (k := s.edges.length) (Nat.le_refl _) (fun i c _ hc => (h1 i c hc).2.2.2)
      rwa [List.take_length] at this
  · intro h i hi
    have hx := List.getElem?_eq_getElem hi
    have hm := List.getElem_mem hi
    have h2 := h.has _ hm
    simp only [vE, hx, vE1]
    rw [if_neg (Decidable.not_not.2 (h.ok _ hm)), if_neg (by rw [h.fits _ hm]; decide), if_neg (by rw [h2.1, h2.2]; decide), if_neg (by rw [prev_of_srt h.srt hx]; decide)]
theorem sValid_zero {t : Tys} {s : Sta} : sValid t s = 0 ↔ SV t s := by
  unfold sValid
  constructor
  · intro h
    split at h
    · rename_i h1; exact absurd h h1
    · rename_i h1
      split at h
      · rename_i h2; exact absurd h h2
      · rename_i h2
        split at h
        · cases h
        · rename_i h3
          split at h
          · rename_i h4; exact absurd h h4
          · rename_i h4
            split at h
            · cases h
            · rename_i h5
              exact ⟨Decidable.not_not.1 h1, vN_zero.1 (Decidable.not_not.1 h2), by omega, vE_zero.1 (Decidable.not_not.1 h4), by omega⟩
  · intro h
    rw [if_neg (Decidable.not_not.2 h.types), if_neg (Decidable.not_not.2 (vN_zero.2 h.nodes)), if_neg (by have := h.ntot; omega), if_neg (Decidable.not_not.2 (vE_zero.2 h.edges)), if_neg (by have := h.etot; omega)]
theorem has_num {n : Nat} {l : List Cnt} (h : ∀ c ∈ l, nodeOk n c) (k : Int) (z : Int) : hasB l k = !decide (numK l ⟨k, 0, 0, z⟩ = 0) := by
  unfold hasB numK
  cases hf : l.find? (fun c => decide (keq c ⟨k, 0, 0, z⟩)) with
  | some c =>
    have h1 := List.mem_of_find?_eq_some hf
    have h2 := List.find?_some hf
    have h3 := h c h1
    have h4 : c.ty = k := (of_decide_eq_true h2).1
    have h5 : ¬ c.nu = 0 := by have := h3.2.2.2.1; omega
    show _ = !decide (c.nu = 0)
    rw [decide_eq_false h5]
    exact List.any_eq_true.2 ⟨c, h1, by simpa using h4⟩
  | none =>
    have h2 := List.find?_eq_none.1 hf
    show _ = !decide ((0 : Int) = 0)
    rw [decide_eq_true rfl]
    refine Bool.eq_false_iff.2 fun h3 => ?_
    obtain ⟨c, hc, hk⟩ := List.any_eq_true.1 h3
    have h4 := h c hc
    exact h2 c hc (decide_eq_true ⟨by simpa using hk, h4.2.1, h4.2.2.1⟩)
def nodesR (t : Tys) (s : Sta) (k : Int) : Int × Int := if sValid t s ≠ 0 then (0, sValid t s) else if ¬ (0 ≤ k ∧ k < t.nodes.length) then (0, 6) else (sumP (fun c => isR t c.ty k) s.nodes, 0)
def edgesR (t : Tys) (s : Sta) (e a b : Int) : Int × Int := if sValid t s ≠ 0 then (0, sValid t s) else if ¬ ((0 ≤ e ∧ e < t.edges.length) ∧ (0 ≤ a ∧ a < t.nodes.length) ∧ (0 ≤ b ∧ b < t.nodes.length)) then (0, 6) else (sumP (fun c => decide (c.ty = e) && isR t c.fr a && isR t c.to b) s.edges, 0)
end Go.Sj.Sta
namespace Go.Sj.Sta
open Go.Sj Go.Sj.Typ
theorem keq_addN (d x : Cnt) : keq (addN d x) d := ⟨rfl, rfl, rfl⟩
def QP (q : Cnt → Prop) : Prop := ∀ a b, keq a b → q a → q b
theorem addC_key {q : Cnt → Prop} (hq : QP q) {l : List Cnt} {x : Cnt} (h : ∀ c ∈ l, q c) (hx : q x) : ∀ c ∈ addC l x, q c := fun c hc => by
  rcases addC_mem hc with hc | rfl | ⟨d, hd, _, rfl, _⟩
  · exact h c hc
  · exact hx
  · exact hq _ _ (keq_symm (keq_addN d x)) (h d hd)
theorem addC_pos {l : List Cnt} {x : Cnt} (h : ∀ c ∈ l, 1 ≤ c.nu) (hx : 1 ≤ x.nu) : ∀ c ∈ addC l x, 1 ≤ c.nu := fun c hc => by
  rcases addC_mem hc with hc | rfl | ⟨d, hd, _, rfl, _⟩
  · exact h c hc
  · exact hx
  · have := h d hd; simp only [addN]; omega
theorem addAll_key {q : Cnt → Prop} (hq : QP q) {l xs : List Cnt} (h : ∀ c ∈ l, q c) (hx : ∀ c ∈ xs, q c) : ∀ c ∈ addAll l xs, q c := by
  induction xs generalizing l with
  | nil => exact h
  | cons x xs ih => exact ih (addC_key hq h (hx x (by simp))) (fun c hc => hx c (by simp [hc]))
theorem addAll_pos {l xs : List Cnt} (h : ∀ c ∈ l, 1 ≤ c.nu) (hx : ∀ c ∈ xs, 1 ≤ c.nu) : ∀ c ∈ addAll l xs, 1 ≤ c.nu := by
  induction xs generalizing l with
  | nil => exact h
  | cons x xs ih => exact ih (addC_pos h (hx x (by simp))) (fun c hc => hx c (by simp [hc]))
theorem sumP_nn {p : Cnt → Bool} {l : List Cnt} (h : ∀ c ∈ l, 0 ≤ c.nu) : 0 ≤ sumP p l := by
  induction l with
  | nil => exact Int.le_refl 0
  | cons c l ih =>
    have := ih (fun d hd => h d (by simp [hd]))
    have := h c (by simp)
    rw [sumP]; split <;> omega
theorem nu_tot {l : List Cnt} (h : ∀ c ∈ l, 1 ≤ c.nu) : ∀ c ∈ l, c.nu ≤ tot l := by
  induction l with
  | nil => intro c hc; cases hc
  | cons d l ih =>
    intro c hc
    have h1 := h d (by simp)
    have h2 : 0 ≤ tot l := sumP_nn (fun c hc => by have := h c (by simp [hc]); omega)
    have e : tot (d :: l) = d.nu + tot l := by simp [sumP]
    rcases List.mem_cons.1 hc with rfl | hc
    · omega
    · have := ih (fun c hc => h c (by simp [hc])) c hc; omega
theorem sumP_le {p q : Cnt → Bool} {l : List Cnt} (h : ∀ c ∈ l, 0 ≤ c.nu) (hpq : ∀ c ∈ l, p c = true → q c = true) : sumP p l ≤ sumP q l := by
  induction l with
  | nil => exact Int.le_refl 0
  | cons c l ih =>
    have := ih (fun d hd => h d (by simp [hd])) (fun d hd => hpq d (by simp [hd]))
    have h1 := h c (by simp)
    have h2 := hpq c (by simp)
    rw [sumP, sumP]
    cases hp : p c with
    | true => rw [h2 hp]; simp only [if_true]; omega
    | false => simp only [Bool.false_eq_true, if_false]; split <;> omega
theorem sumP_ones {A : Type} (f : A → Cnt) (hf : ∀ a, (f a).nu = 1) (p : Cnt → Bool) (l : List A) : sumP p (l.map f) = ((l.filter fun a => p (f a)).length : Int) := by
  induction l with
  | nil => rfl
  | cons a l ih =>
    rw [List.map_cons, sumP, ih, List.filter_cons, hf]
    split <;> simp <;> omega
theorem tot_ofN (g : Gr) (l : List Int) : tot (ofN g l) = l.length := by
  rw [ofN, tot, addAll_sum tot_kp, sumP_ones nodeC (fun _ => rfl), List.filter_eq_self.2 (fun _ _ => rfl)]; simp [sumP]
theorem tot_ofE (g : Gr) (l : List Ed) : tot (ofE g l) = l.length := by
  rw [ofE, tot, addAll_sum tot_kp, sumP_ones (edgeC g) (fun _ => rfl), List.filter_eq_self.2 (fun _ _ => rfl)]; simp [sumP]
theorem ofN_pos (g : Gr) (l : List Int) : ∀ c ∈ ofN g l, 1 ≤ c.nu := addAll_pos (by simp) (by simp [nodeC])
theorem ofE_pos (g : Gr) (l : List Ed) : ∀ c ∈ ofE g l, 1 ≤ c.nu := addAll_pos (by simp) (by simp [edgeC])
theorem ofN_srt (g : Gr) (l : List Int) : Srt (ofN g l) := addAll_srt .nil _
theorem ofE_srt (g : Gr) (l : List Ed) : Srt (ofE g l) := addAll_srt .nil _
theorem ofN_key {q : Cnt → Prop} (hq : QP q) (g : Gr) {l : List Int} (h : ∀ n ∈ l, q (nodeC n)) : ∀ c ∈ ofN g l, q c :=
  addAll_key hq (by simp) (fun c hc => by obtain ⟨n, hn, rfl⟩ := List.mem_map.1 hc; exact h n hn)
theorem ofE_key {q : Cnt → Prop} (hq : QP q) (g : Gr) {l : List Ed} (h : ∀ n ∈ l, q (edgeC g n)) : ∀ c ∈ ofE g l, q c :=
  addAll_key hq (by simp) (fun c hc => by obtain ⟨n, hn, rfl⟩ := List.mem_map.1 hc; exact h n hn)
theorem SN.pos {n : Nat} {l : List Cnt} (h : SN n l) : ∀ c ∈ l, 1 ≤ c.nu := fun c hc => (h.ok c hc).2.2.2.1
theorem SE'.pos {t : Tys} {s : Sta} (h : SE' t s) : ∀ c ∈ s.edges, 1 ≤ c.nu := fun c hc => (h.ok c hc).2.2.2.1
end Go.Sj.Sta
namespace Go.Sj.Sta
open Go.Sj Go.Sj.Typ
section
variable {ns : List Nod} (hp : PR ns ns.length)
end
theorem isR_in {t : Tys} (h : (validR t).2 = 0) {a b : Int} (ha : 0 ≤ a ∧ a < t.nodes.length) (hb : 0 ≤ b ∧ b < t.nodes.length) : isR t a b = decide (b ∈ up t.nodes a) := by
  unfold isR
  rw [decide_eq_true, Bool.true_and]
  unfold givenR
  rw [if_neg (Decidable.not_not.2 h), if_neg]
  simp only [List.any_cons, List.any_nil, Bool.or_false, outB, Bool.or_eq_true, decide_eq_true_eq]
  omega
end Go.Sj.Sta
namespace Go.Sj.Sta
open Go.Sj Go.Sj.Typ
abbrev rngI (n : Nat) : List Int := (List.range n).map fun (i : Nat) => (i : Int)
structure Prm (p : List Int) (n : Nat) : Prop where
  perm : p.Perm (rngI n)
theorem Prm.len {p : List Int} {n : Nat} (h : Prm p n) : p.length = n := by rw [h.perm.length_eq]; simp
theorem Prm.rng {p : List Int} {n : Nat} (h : Prm p n) : ∀ x ∈ p, 0 ≤ x ∧ x < n := fun x hx => by
  obtain ⟨i, hi, rfl⟩ := List.mem_map.1 (h.perm.mem_iff.1 hx)
  have := List.mem_range.1 hi
  omega
theorem rngI_nodup (n : Nat) : (rngI n).Nodup := by
  rw [List.nodup_iff_pairwise_ne, List.pairwise_map]
  exact (List.nodup_iff_pairwise_ne.1 List.nodup_range).imp fun h x => h (by omega)
theorem Prm.nodup {p : List Int} {n : Nat} (h : Prm p n) : p.Nodup := h.perm.nodup_iff.2 (rngI_nodup n)
theorem Prm.get {p : List Int} {n i : Nat} (h : Prm p n) (hi : i < n) : ∃ x : Nat, p[i]? = some (x : Int) ∧ x < n := by
  have hl := h.len
  have hx := List.getElem?_eq_getElem (l := p) (i := i) (by omega)
  have := h.rng _ (List.getElem_mem (l := p) (n := i) (by omega))
  exact ⟨p[i].toNat, by rw [hx]; congr 1; omega, by omega⟩
theorem Prm.inj {p : List Int} {n i j : Nat} (h : Prm p n) {x : Int} (hi : p[i]? = some x) (hj : p[j]? = some x) : i = j := by
  obtain ⟨h1, e1⟩ := List.getElem?_eq_some_iff.1 hi
  obtain ⟨h2, e2⟩ := List.getElem?_eq_some_iff.1 hj
  have hn := List.pairwise_iff_getElem.1 (List.nodup_iff_pairwise_ne.1 h.nodup)
  rcases Nat.lt_trichotomy i j with hij | hij | hij
  · exact absurd (e1.trans e2.symm) (hn i j h1 h2 hij)
  · exact hij
  · exact absurd (e2.trans e1.symm) (hn j i h2 h1 hij)
instance : Inhabited Ed := ⟨⟨0, 0, 0⟩⟩
section
variable {t : Tys} {g : Gr} {p q : List Int} (h : TV t g) (hp : Prm p g.nodes.length) (hq : Prm q g.edges.length)
include h hp hq
end
section
variable {t : Tys} {g : Gr} (h : TV t g)
include h
end
end Go.Sj.Sta
namespace Go.Sj.Sta
open Go.Sj Go.Sj.Typ
abbrev REd := Int × Int × Int × Unit
abbrev RGr := List Int × List REd × Unit
def toEd (x : REd) : Ed := ⟨x.1, x.2.1, x.2.2.1⟩
def toGr (x : RGr) : Gr := ⟨x.1, x.2.1.map toEd⟩
def gREd (x : REd) : List AV := [.lit (.int .i64 x.1)] ++ ([.lit (.int .i64 x.2.1)] ++ ([.lit (.int .i64 x.2.2.1)] ++ []))
def gGr (x : RGr) : List AV := [.im 1 (x.1.map fun n => [.lit (.int .i64 n)])] ++ ([.im 3 (x.2.1.map gREd)] ++ [])
theorem gREd_eq : gREd = fun x => cEd (toEd x) := rfl
theorem gGr_eq (x : RGr) : gGr x = [ints (toGr x).nodes, edsA (toGr x).edges] := by
  show [AV.im 1 (x.1.map fun n => [.lit (.int .i64 n)]), AV.im 3 (x.2.1.map gREd)] = [AV.im 1 (x.1.map cI), AV.im 3 ((x.2.1.map toEd).map cEd)]
  rw [gREd_eq, List.map_map]; rfl
theorem gr_vr {σ : Hp} {v : Value} {x : RGr} (h : VR σ (.agg (gGr x)) v) : VR σ (grA (toGr x)) v := by rw [gGr_eq] at h; exact h
def OkG (g : Gr) : Prop := g.nodes.length ≤ 140737488355328 ∧ g.edges.length ≤ 140737488355328
theorem gr_ok {x : RGr} {a b : Prop} {q : Prop} (h : (a ∧ x.1.length ≤ reachBytes) ∧ (b ∧ x.2.1.length ≤ reachBytes) ∧ q) : OkG (toGr x) := by
  have h1 := h.1.2
  have h2 := h.2.1.2
  unfold reachBytes at h1 h2
  refine ⟨by show x.1.length ≤ _; omega, ?_⟩
  show (x.2.1.map toEd).length ≤ _
  rw [List.length_map]; omega
abbrev RCnt := Int × Int × Int × Int × Unit
abbrev RSta := List RCnt × List RCnt × Unit
def toCnt (x : RCnt) : Cnt := ⟨x.1, x.2.1, x.2.2.1, x.2.2.2.1⟩
def toSta (x : RSta) : Sta := ⟨x.1.map toCnt, x.2.1.map toCnt⟩
def gRCnt (x : RCnt) : List AV := [.lit (.int .i64 x.1)] ++ ([.lit (.int .i64 x.2.1)] ++ ([.lit (.int .i64 x.2.2.1)] ++ ([.lit (.int .i64 x.2.2.2.1)] ++ [])))
def gSta (x : RSta) : List AV := [.im 4 (x.1.map gRCnt)] ++ ([.im 4 (x.2.1.map gRCnt)] ++ [])
theorem gRCnt_eq : gRCnt = fun x => cCnt (toCnt x) := rfl
theorem gSta_eq (x : RSta) : gSta x = [cntsA (toSta x).nodes, cntsA (toSta x).edges] := by
  show [AV.im 4 (x.1.map gRCnt), AV.im 4 (x.2.1.map gRCnt)] = [AV.im 4 ((x.1.map toCnt).map cCnt), AV.im 4 ((x.2.1.map toCnt).map cCnt)]
  rw [gRCnt_eq, List.map_map, List.map_map]; rfl
end Go.Sj.Sta
namespace Go.Sj.Sta
open Go.Sj Go.Sj.Typ
theorem addAll_len (l xs : List Cnt) : (addAll l xs).length ≤ l.length + xs.length := by
  induction xs generalizing l with
  | nil => exact Nat.le_refl _
  | cons x xs ih =>
    have h1 := ih (addC l x)
    have h2 := addC_len l x
    simp only [List.length_cons]
    have e : addAll l (x :: xs) = addAll (addC l x) xs := rfl
    rw [e]; omega
theorem ofN_len (g : Gr) (l : List Int) : (ofN g l).length ≤ l.length := by
  have := addAll_len [] (l.map nodeC)
  rw [List.length_map] at this
  simpa [ofN] using this
theorem ofE_len (g : Gr) (l : List Ed) : (ofE g l).length ≤ l.length := by
  have := addAll_len [] (l.map (edgeC g))
  rw [List.length_map] at this
  simpa [ofE] using this
def smN (c : Cnt) : Prop := (0 ≤ c.ty ∧ c.ty ≤ 99) ∧ (0 ≤ c.fr ∧ c.fr ≤ 99) ∧ (0 ≤ c.to ∧ c.to ≤ 99)
theorem smN_q : QP smN := fun a b h hh => by
  obtain ⟨h1, h2, h3⟩ := h
  unfold smN at hh ⊢
  rw [← h1, ← h2, ← h3]; exact hh
theorem ofN_small (g : Gr) {l : List Int} (h : ∀ n ∈ l, 0 ≤ n ∧ n ≤ 99) (hl : l.length ≤ 100) : ∀ c ∈ ofN g l, smN c ∧ 1 ≤ c.nu ∧ c.nu ≤ 1000 := fun c hc => by
  have k := ofN_key smN_q g (l := l) (fun n hn => by have := h n hn; unfold smN nodeC; simp only; omega) c hc
  have p := ofN_pos g l
  have t := nu_tot p c hc
  rw [tot_ofN] at t
  exact ⟨k, p c hc, by omega⟩
theorem ofE_small (g : Gr) {l : List Ed} (h : ∀ e ∈ l, (0 ≤ e.ty ∧ e.ty ≤ 99) ∧ (0 ≤ nodeAt g e.fr ∧ nodeAt g e.fr ≤ 99) ∧ (0 ≤ nodeAt g e.to ∧ nodeAt g e.to ≤ 99)) (hl : l.length ≤ 100) : ∀ c ∈ ofE g l, smN c ∧ 1 ≤ c.nu ∧ c.nu ≤ 1000 := fun c hc => by
  have k := ofE_key smN_q g (l := l) (fun e he => by have := h e he; unfold smN edgeC; simp only; omega) c hc
  have p := ofE_pos g l
  have t := nu_tot p c hc
  rw [tot_ofE] at t
  exact ⟨k, p c hc, by omega⟩
theorem ofN_snoc (g : Gr) {l : List Int} {k : Nat} {n : Int} (h : l[k]? = some n) : ofN g (l.take (k + 1)) = addC (ofN g (l.take k)) (nodeC n) := by
  obtain ⟨hk, rfl⟩ := List.getElem?_eq_some_iff.1 h
  rw [List.take_succ_eq_append_getElem hk]
  unfold ofN
  rw [List.map_append, List.map_cons, List.map_nil, addAll_snoc]
theorem ofE_snoc (g : Gr) {l : List Ed} {k : Nat} {e : Ed} (h : l[k]? = some e) : ofE g (l.take (k + 1)) = addC (ofE g (l.take k)) (edgeC g e) := by
  obtain ⟨hk, rfl⟩ := List.getElem?_eq_some_iff.1 h
  rw [List.take_succ_eq_append_getElem hk]
  unfold ofE
  rw [List.map_append, List.map_cons, List.map_nil, addAll_snoc]
end Go.Sj.Sta
end
