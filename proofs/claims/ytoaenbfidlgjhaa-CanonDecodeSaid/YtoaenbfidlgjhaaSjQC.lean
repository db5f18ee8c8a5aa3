/-
  General parts: M26, M27, M28, M29, M30, M31. No condition; nothing here names a program.
-/
import Derived.Test.YtoaenbfidlgjhaaSjQN
import Derived.Test.YtoaenbfidlgjhaaSjL25
set_option linter.unusedVariables false
set_option linter.unusedSimpArgs false
/-
  Orders that numbers describe; graphs that are laid in another order. No condition.
-/
namespace Go.Sj.Sta
open Go.Sj Go.Sj.Typ
set_option linter.unusedVariables false

def swpI (l : List Int) (i k : Nat) : List Int := (l.set i (l.getD k 0)).set k (l.getD i 0)
theorem swpI_perm {l : List Int} {i k : Nat} (hi : i < l.length) (hk : k < l.length) : (swpI l i k).Perm l := by
  unfold swpI
  refine swap_perm ?_ ?_
  · rw [List.getElem?_eq_getElem hi, List.getD_eq_getElem?_getD, List.getElem?_eq_getElem hi]; rfl
  · rw [List.getElem?_eq_getElem hk, List.getD_eq_getElem?_getD, List.getElem?_eq_getElem hk]; rfl
/-- The other place of a step. -/
def shfP (n : Nat) (cs : List Int) (i : Nat) : Nat := i + (cs.getD i 0 % ((n : Int) - i)).toNat
theorem shfP_lt {n : Nat} {cs : List Int} {i : Nat} (h : i < n) : shfP n cs i < n := by
  unfold shfP
  have h1 := Int.emod_nonneg (cs.getD i 0) (b := (n : Int) - i) (by omega)
  have h2 := Int.emod_lt_of_pos (cs.getD i 0) (b := (n : Int) - i) (by omega)
  omega
def shfK (n : Nat) (cs : List Int) : Nat → List Int
  | 0 => rngI n
  | i + 1 => swpI (shfK n cs i) i (shfP n cs i)
theorem shfK_prm (n : Nat) (cs : List Int) : ∀ i, i ≤ n → Prm (shfK n cs i) n
  | 0, _ => ⟨.refl _⟩
  | i + 1, h => by
    have ih := shfK_prm n cs i (by omega)
    have hl := ih.len
    exact ⟨(swpI_perm (by omega) (by have := shfP_lt (cs := cs) (show i < n by omega); omega)).trans ih.perm⟩
/-- The order that numbers describe. -/
def shf (n : Nat) (cs : List Int) : List Int := shfK n cs (min n cs.length)
theorem shf_prm (n : Nat) (cs : List Int) : Prm (shf n cs) n := shfK_prm n cs _ (Nat.min_le_left _ _)
theorem rngI_len (n : Nat) : (rngI n).length = n := by simp
theorem rngI_succ (n : Nat) : rngI (n + 1) = rngI n ++ [(n : Int)] := by simp [rngI, List.range_succ]
theorem rngF_succ (a : Int) (n : Nat) : ((List.range (n + 1)).map fun (i : Nat) => a + (i : Int)) = ((List.range n).map fun (i : Nat) => a + (i : Int)) ++ [a + n] := by simp [List.range_succ]
theorem rngF_zero (n : Nat) : ((List.range n).map fun (i : Nat) => (0 : Int) + (i : Int)) = rngI n := by simp
theorem zN_row (n : Nat) : List.replicate n [AI 0] = rowI (zN n) := by simp [zN, cI]
theorem zE_row (n : Nat) : List.replicate n [AI 0, AI 0, AI 0] = (zE n).map cEd := by simp [zE, cEd]
theorem zN_len (n : Nat) : (zN n).length = n := by simp [zN]
theorem zE_len (n : Nat) : (zE n).length = n := by simp [zE]
theorem obSet_ed {E j : Nat} {l : List Ed} {e : Ed} (hj : j < l.length) : obSet (.row E 3 (l.map cEd)) j 0 (cEd e) = .row E 3 ((l.set j e).map cEd) := by
  have h1 : (l.map cEd).getD j [] = cEd l[j] := by
    rw [List.getD_eq_getElem?_getD, List.getElem?_map, List.getElem?_eq_getElem hj]; rfl
  simp only [obSet, h1]
  rw [List.map_set]
  rfl
section
variable {P : Program} {N : Nat} {ops : List Oper} {Q : St → Own → Prop} {L : Own} {rest : List (Oper × Kd)} {l : List (Nat × AV)}
/-- An edge stored into an owned row of edges. -/
theorem s_storeEd {tt : List (TypeId × TD)} (ok : TOK P tt) (i : Nat) {o : Oper} {T : TypeId} {x y : Operand} {d : TD} {v : Value} {E j : Nat} {es : List Ed} {a b c : Int}
    (ho : o.op = .store T x y) (hdst : o.dst = none) (hg : guardA ops o (lk l) = some true) (hT : lkT tt T = some d) (hd3 : d.size = 3) (hx : ev (lk l) x = .pt v 3 j 0) (hy : ev (lk l) y = .agg [AI a, AI b, AI c]) (hL : L[i]? = some (v, .row E 3 (es.map cEd))) (hj : j < es.length)
    (n : AL P N ops Q rest (lk l) (L.set i (v, .row E 3 ((es.set j ⟨a, b, c⟩).map cEd)))) : AL P N ops Q ((o, .eff) :: rest) (lk l) L := by
  have hget : (es.map cEd)[j]? = some (cEd es[j]) := map_get (List.getElem?_eq_getElem hj)
  refine s_store ok i ho hdst hg hT hx hy rfl (by rw [hd3]; rfl) (by omega) hL rfl (cells := cEd es[j]) (by simp only [obAt, hget]; rfl) (by simp [cEd, AV.cells]) ?_
  rw [show AV.cells (.agg [AI a, AI b, AI c]) = cEd ⟨a, b, c⟩ from rfl, obSet_ed hj]
  exact n
end
end Go.Sj.Sta

/-
  Codes of graphs in orders, the search for the least one: plain mathematics.
-/
namespace Go.Sj.Can
open Go.Sj Go.Sj.Sta
set_option linter.unusedVariables false
set_option linter.unusedSimpArgs false

/-! Lists, compared. -/
def cmpI (x y : Int) : Int := if x < y then -1 else if y < x then 1 else 0
def cmpL : List Int → List Int → Int
  | [], [] => 0
  | [], _ :: _ => -1
  | _ :: _, [] => 1
  | x :: xs, y :: ys => if cmpI x y ≠ 0 then cmpI x y else cmpL xs ys
theorem cmpI_zero {x y : Int} : cmpI x y = 0 ↔ x = y := by
  unfold cmpI
  repeat' split
  all_goals omega
theorem cmpI_anti (x y : Int) : cmpI y x = - cmpI x y := by
  unfold cmpI
  repeat' split
  all_goals omega
theorem cmpI_lt {x y : Int} : cmpI x y < 0 ↔ x < y := by
  unfold cmpI
  repeat' split
  all_goals omega
theorem cmpL_self : ∀ a : List Int, cmpL a a = 0
  | [] => rfl
  | x :: a => by rw [cmpL, if_neg (by rw [cmpI_zero.2 rfl]; decide), cmpL_self a]
theorem cmpL_eq : ∀ {a b : List Int}, cmpL a b = 0 → a = b
  | [], [], _ => rfl
  | [], _ :: _, h => by cases h
  | _ :: _, [], h => by cases h
  | x :: a, y :: b, h => by
    rw [cmpL] at h
    split at h
    · contradiction
    · rename_i h1
      rw [cmpI_zero.1 (Decidable.not_not.1 h1), cmpL_eq h]
theorem cmpL_anti : ∀ a b : List Int, cmpL b a = - cmpL a b
  | [], [] => rfl
  | [], _ :: _ => rfl
  | _ :: _, [] => rfl
  | x :: a, y :: b => by
    rw [cmpL, cmpL, cmpI_anti x y, cmpL_anti a b]
    split <;> split <;> omega
theorem cmpL_trans : ∀ {a b c : List Int}, cmpL a b ≤ 0 → cmpL b c ≤ 0 → cmpL a c ≤ 0
  | [], b, [], _, _ => by decide
  | [], b, _ :: _, _, _ => by rw [cmpL]; decide
  | x :: a, [], c, h, _ => by rw [cmpL] at h; exact absurd h (by decide)
  | x :: a, y :: b, [], _, h => by rw [cmpL] at h; exact absurd h (by decide)
  | x :: a, y :: b, z :: c, h, k => by
    have ih := @cmpL_trans a b c
    rw [cmpL] at h k ⊢
    unfold cmpI at *
    repeat' split at h
    all_goals repeat' split at k
    all_goals repeat' split
    all_goals first | omega | (exact ih h k) | skip
theorem cmpL_pre : ∀ {a b : List Int} (r : List Int), 0 < cmpL a (b.take a.length) → 0 < cmpL (a ++ r) b
  | [], b, r, h => by simp [cmpL] at h
  | x :: a, [], r, h => by rw [List.cons_append, cmpL]; decide
  | x :: a, y :: b, r, h => by
    rw [List.length_cons, List.take_succ_cons, cmpL] at h
    rw [List.cons_append, cmpL]
    split
    · rename_i h1
      rw [if_pos h1] at h
      exact h
    · rename_i h1
      rw [if_neg h1] at h
      exact cmpL_pre r h
theorem cmpL_gt {a b : List Int} (h : 0 < cmpL a b) : cmpL b a ≤ 0 := by rw [cmpL_anti]; omega
theorem cmpL_both {a b : List Int} (h : cmpL a b ≤ 0) (k : cmpL b a ≤ 0) : a = b := cmpL_eq (by rw [cmpL_anti] at k; omega)

/-! Orders. -/
structure Po (n : Nat) (p : List Int) : Prop where
  nd : p.Nodup
  rng : ∀ x ∈ p, 0 ≤ x ∧ x < n
theorem Po.nil (n : Nat) : Po n [] := ⟨List.nodup_nil, by simp⟩
theorem Po.snoc {n : Nat} {p : List Int} {v : Int} (h : Po n p) (h0 : 0 ≤ v ∧ v < n) (hv : v ∉ p) : Po n (p ++ [v]) :=
  ⟨by rw [List.nodup_append]; exact ⟨h.nd, by simp, fun a ha b hb => by rw [List.mem_singleton] at hb; subst hb; intro e; subst e; exact hv ha⟩, fun x hx => by
    rcases List.mem_append.1 hx with h1 | h1
    · exact h.rng x h1
    · rw [List.mem_singleton] at h1; subst h1; exact h0⟩
theorem Po.left {n : Nat} {p q : List Int} (h : Po n (p ++ q)) : Po n p := ⟨(List.nodup_append.1 h.nd).1, fun x hx => h.rng x (List.mem_append_left _ hx)⟩
theorem Po.len : ∀ {n : Nat} {p : List Int}, Po n p → p.length ≤ n
  | 0, p, h => by
    cases p with
    | nil => simp
    | cons x p => have := h.rng x (by simp); omega
  | n + 1, p, h => by
    have h1 : Po n (p.erase n) := ⟨h.nd.erase _, fun x hx => by
      have h2 := h.rng x (List.mem_of_mem_erase hx)
      have h3 : x ≠ n := fun e => by subst e; exact (List.Nodup.not_mem_erase h.nd) hx
      omega⟩
    have h2 := Po.len h1
    have h3 := List.length_erase (a := (n : Int)) (l := p)
    split at h3 <;> omega
theorem Po.full {n : Nat} {p : List Int} (h : Po n p) (hl : p.length = n) {x : Int} (hx : 0 ≤ x ∧ x < n) : x ∈ p := by
  apply Decidable.byContradiction
  intro hn
  have h1 := (h.snoc hx hn).len
  simp at h1
  omega
theorem Po.id (n : Nat) : Po n (rngI n) := ⟨rngI_nodup n, fun x hx => by
  obtain ⟨i, hi, rfl⟩ := List.mem_map.1 hx
  have := List.mem_range.1 hi
  omega⟩

section
variable (N : Int → Int) (T : Int → Int → List Int)
/-- What a code says about a place, after other places. -/
def pc (p : List Int) (v : Int) : List Int := N v :: ((p.flatMap fun j => T j v ++ T v j) ++ T v v)
def cdF : List Int → List Int → List Int
  | _, [] => []
  | p, v :: r => pc N T p v ++ cdF (p ++ [v]) r
def cd (n : Nat) (o : List Int) : List Int := (n : Int) :: cdF N T [] o
variable {N T}
theorem cdF_append : ∀ (p a b : List Int), cdF N T p (a ++ b) = cdF N T p a ++ cdF N T (p ++ a) b
  | p, [], b => by simp [cdF]
  | p, v :: a, b => by rw [List.cons_append, cdF, cdF, cdF_append (p ++ [v]) a b, List.append_assoc]; simp
theorem cd_append (n : Nat) (a b : List Int) : cd N T n (a ++ b) = cd N T n a ++ cdF N T a b := by simp [cd, cdF_append]
theorem cd_snoc (n : Nat) (a : List Int) (v : Int) : cd N T n (a ++ [v]) = cd N T n a ++ pc N T a v := by rw [cd_append]; simp [cdF]
theorem cd_pre {n : Nat} {p o : List Int} (h : p <+: o) : ∃ r, cd N T n o = cd N T n p ++ r := by
  obtain ⟨q, rfl⟩ := h
  exact ⟨_, cd_append n p q⟩
/-- Another numbering. -/
theorem cdF_map {N' : Int → Int} {T' : Int → Int → List Int} {f : Int → Int} {n : Nat} (hN : ∀ x : Int, 0 ≤ x ∧ x < n → N' (f x) = N x) (hT : ∀ x y : Int, 0 ≤ x ∧ x < n → 0 ≤ y ∧ y < n → T' (f x) (f y) = T x y) : ∀ (o p : List Int), (∀ x ∈ p, 0 ≤ x ∧ x < n) → (∀ x ∈ o, 0 ≤ x ∧ x < n) → cdF N' T' (p.map f) (o.map f) = cdF N T p o
  | [], p, _, _ => rfl
  | v :: o, p, hp, ho => by
    have hv := ho v (by simp)
    have ih := cdF_map hN hT o (p ++ [v]) (fun x hx => by
      rcases List.mem_append.1 hx with h | h
      · exact hp x h
      · rw [List.mem_singleton] at h; subst h; exact hv) (fun x hx => ho x (by simp [hx]))
    rw [List.map_append, List.map_cons, List.map_nil] at ih
    rw [List.map_cons, cdF, cdF, ih]
    congr 1
    unfold pc
    rw [hN v hv, hT v v hv hv]
    congr 2
    rw [List.flatMap_map]
    simp only [List.flatMap]
    congr 1
    refine List.map_congr_left fun j hj => ?_
    rw [hT j v (hp j hj) hv, hT v j hv (hp j hj)]
theorem cd_map {N' : Int → Int} {T' : Int → Int → List Int} {f : Int → Int} {n : Nat} (hN : ∀ x : Int, 0 ≤ x ∧ x < n → N' (f x) = N x) (hT : ∀ x y : Int, 0 ≤ x ∧ x < n → 0 ≤ y ∧ y < n → T' (f x) (f y) = T x y) {o : List Int} (ho : Po n o) : cd N' T' n (o.map f) = cd N T n o := by
  have := cdF_map hN hT o [] (by simp) ho.rng
  unfold cd
  rw [← this]
  rfl
end

/-! Nodes that can be exchanged. -/
def sw (u v x : Int) : Int := if x = u then v else if x = v then u else x
theorem sw_rng {n : Nat} {u v x : Int} (hu : 0 ≤ u ∧ u < n) (hv : 0 ≤ v ∧ v < n) (hx : 0 ≤ x ∧ x < n) : 0 ≤ sw u v x ∧ sw u v x < n := by
  unfold sw
  repeat' split
  all_goals omega
theorem sw_inj {u v x y : Int} (h : sw u v x = sw u v y) : x = y := by
  unfold sw at h
  repeat' split at h
  all_goals omega
section
variable (N : Int → Int) (T : Int → Int → List Int) (n : Nat)
structure Tw (u v : Int) : Prop where
  nd : N u = N v
  lp : T u u = T v v
  ex : T u v = T v u
  ot : ∀ w : Nat, w < n → (w : Int) ≠ u → (w : Int) ≠ v → T u w = T v w ∧ T w u = T w v
def twB (u v : Int) : Bool := decide (N u = N v) && decide (T u u = T v v) && decide (T u v = T v u) && (List.range n).all fun w => decide ((w : Int) = u) || decide ((w : Int) = v) || (decide (T u w = T v w) && decide (T w u = T w v))
structure Inv (f : Int → Int) : Prop where
  nd : ∀ x : Int, 0 ≤ x ∧ x < n → N (f x) = N x
  ed : ∀ x y : Int, 0 ≤ x ∧ x < n → 0 ≤ y ∧ y < n → T (f x) (f y) = T x y
variable {N T n}
theorem twB_iff {u v : Int} : twB N T n u v = true ↔ Tw N T n u v := by
  unfold twB
  constructor
  · intro h
    simp only [Bool.and_eq_true, decide_eq_true_eq, List.all_eq_true, List.mem_range, Bool.or_eq_true] at h
    obtain ⟨⟨⟨h1, h2⟩, h3⟩, h4⟩ := h
    refine ⟨h1, h2, h3, fun w hw e1 e2 => ?_⟩
    rcases h4 w hw with (h | h) | h
    · exact absurd h e1
    · exact absurd h e2
    · exact h
  · intro h
    simp only [Bool.and_eq_true, decide_eq_true_eq, List.all_eq_true, List.mem_range, Bool.or_eq_true]
    refine ⟨⟨⟨h.nd, h.lp⟩, h.ex⟩, fun w hw => ?_⟩
    by_cases e1 : (w : Int) = u
    · exact .inl (.inl e1)
    · by_cases e2 : (w : Int) = v
      · exact .inl (.inr e2)
      · exact .inr (h.ot w hw e1 e2)
theorem Tw.inv {u v : Int} (h : Tw N T n u v) : Inv N T n (sw u v) := by
  have ot : ∀ w : Int, 0 ≤ w ∧ w < n → w ≠ u → w ≠ v → T u w = T v w ∧ T w u = T w v := fun w hw h1 h2 => by
    obtain ⟨k, rfl⟩ : ∃ k : Nat, w = k := ⟨w.toNat, by omega⟩
    exact h.ot k (by omega) h1 h2
  refine ⟨fun x hx => ?_, fun x y hx hy => ?_⟩
  · unfold sw
    by_cases e1 : x = u
    · subst e1; rw [if_pos rfl, h.nd]
    · rw [if_neg e1]
      by_cases e2 : x = v
      · subst e2; rw [if_pos rfl, h.nd]
      · rw [if_neg e2]
  · have a1 := h.lp
    have a2 := h.ex
    have bx := ot x hx
    have by' := ot y hy
    unfold sw
    by_cases e1 : x = u
    · subst e1
      rw [if_pos rfl]
      by_cases e3 : y = x
      · subst e3; rw [if_pos rfl, h.lp]
      · rw [if_neg e3]
        by_cases e4 : y = v
        · subst e4; rw [if_pos rfl, h.ex]
        · rw [if_neg e4, (ot y hy e3 e4).1]
    · rw [if_neg e1]
      by_cases e2 : x = v
      · subst e2
        rw [if_pos rfl]
        by_cases e3 : y = u
        · subst e3; rw [if_pos rfl, h.ex]
        · rw [if_neg e3]
          by_cases e4 : y = x
          · subst e4; rw [if_pos rfl, h.lp]
          · rw [if_neg e4, (ot y hy e3 e4).1]
      · rw [if_neg e2]
        by_cases e3 : y = u
        · subst e3; rw [if_pos rfl, (ot x hx e1 e2).2]
        · rw [if_neg e3]
          by_cases e4 : y = v
          · subst e4; rw [if_pos rfl, (ot x hx e1 e2).2]
          · rw [if_neg e4]
theorem Inv.tw {u v : Int} (hu : 0 ≤ u ∧ u < n) (hv : 0 ≤ v ∧ v < n) (h : Inv N T n (sw u v)) : Tw N T n u v := by
  have su : sw u v u = v := by simp [sw]
  have sv : sw u v v = u := by
    unfold sw
    split
    · assumption
    · simp
  have so : ∀ w, w ≠ u → w ≠ v → sw u v w = w := fun w h1 h2 => by simp [sw, h1, h2]
  refine ⟨?_, ?_, ?_, fun w hw h1 h2 => ⟨?_, ?_⟩⟩
  · have := h.nd v hv; rw [sv] at this; exact this
  · have := h.ed v v hv hv; rw [sv] at this; exact this
  · have := h.ed v u hv hu; rw [sv, su] at this; exact this
  · have := h.ed v w hv (by omega); rw [sv, so _ h1 h2] at this; exact this
  · have := h.ed w v (by omega) hv; rw [sv, so _ h1 h2] at this; exact this
theorem Inv.comp {f g : Int → Int} (hg : ∀ x : Int, 0 ≤ x ∧ x < n → 0 ≤ g x ∧ g x < n) (h : Inv N T n f) (k : Inv N T n g) : Inv N T n (fun x => f (g x)) :=
  ⟨fun x hx => by rw [h.nd _ (hg x hx), k.nd x hx], fun x y hx hy => by rw [h.ed _ _ (hg x hx) (hg y hy), k.ed x y hx hy]⟩
theorem Tw.trans {u v w : Int} (hu : 0 ≤ u ∧ u < n) (hv : 0 ≤ v ∧ v < n) (hw : 0 ≤ w ∧ w < n) (h1 : u ≠ v) (h2 : v ≠ w) (h3 : u ≠ w) (h : Tw N T n u v) (k : Tw N T n v w) : Tw N T n u w := by
  refine Inv.tw hu hw ?_
  have r1 : ∀ x : Int, 0 ≤ x ∧ x < n → 0 ≤ sw u v x ∧ sw u v x < n := fun x hx => sw_rng hu hv hx
  have r2 : ∀ x : Int, 0 ≤ x ∧ x < n → 0 ≤ sw v w (sw u v x) ∧ sw v w (sw u v x) < n := fun x hx => sw_rng hv hw (r1 x hx)
  have := Inv.comp r2 h.inv (Inv.comp r1 k.inv h.inv)
  have e : (fun x => sw u v (sw v w (sw u v x))) = sw u w := by
    funext x
    unfold sw
    by_cases a : x = u
    · subst a; simp [h2, h3, Ne.symm h1, Ne.symm h2, Ne.symm h3]
    · by_cases b : x = v
      · subst b; simp [h1, h3, Ne.symm h1, h2]
      · by_cases c : x = w
        · subst c; simp [a, b, h1]
        · simp [a, b, c]
  rw [← e]
  exact this
theorem map_sw_po {u v : Int} (hu : 0 ≤ u ∧ u < n) (hv : 0 ≤ v ∧ v < n) {o : List Int} (h : Po n o) : Po n (o.map (sw u v)) :=
  ⟨by rw [List.nodup_iff_pairwise_ne, List.pairwise_map]; exact (List.nodup_iff_pairwise_ne.1 h.nd).imp fun h1 h2 => h1 (sw_inj h2), fun x hx => by
    obtain ⟨y, hy, rfl⟩ := List.mem_map.1 hx
    exact sw_rng hu hv (h.rng y hy)⟩
theorem map_sw_id {u v : Int} {p : List Int} (hu : u ∉ p) (hv : v ∉ p) : p.map (sw u v) = p := by
  conv => rhs; rw [← List.map_id p]
  refine List.map_congr_left fun x hx => ?_
  have h1 : x ≠ u := fun e => hu (e ▸ hx)
  have h2 : x ≠ v := fun e => hv (e ▸ hx)
  simp [sw, h1, h2]
end

/-! The search. -/
section
variable (N : Int → Int) (T : Int → Int → List Int) (n : Nat)
abbrev Bst := Option (List Int × List Int)
def worse (s : Bst) (c : List Int) : Bool := match s with
  | none => false
  | some (_, d) => decide (0 < cmpL c (d.take c.length))
def leaf (s : Bst) (p c : List Int) : Bst := match s with
  | none => some (p, c)
  | some (o, d) => if cmpL c d < 0 then some (p, c) else some (o, d)
def opn (N : Int → Int) (T : Int → Int → List Int) (n : Nat) (p : List Int) (v : Nat) : Bool := !decide ((v : Int) ∈ p) && !((List.range v).any fun u => !decide ((u : Int) ∈ p) && twB N T n u v)
def srch : Nat → List Int → Bst → Bst
  | 0, p, s => if worse s (cd N T n p) = true then s else leaf s p (cd N T n p)
  | m + 1, p, s => if worse s (cd N T n p) = true then s else ((List.range n).filter (opn N T n p)).foldl (fun s (v : Nat) => srch m (p ++ [(v : Int)]) s) s
def find : Bst := srch N T n n [] none
variable {N T n}
theorem opn_iff {p : List Int} {v : Nat} : opn N T n p v = true ↔ (v : Int) ∉ p ∧ ∀ u : Nat, u < v → (u : Int) ∉ p → ¬ Tw N T n u v := by
  unfold opn
  rw [Bool.and_eq_true, Bool.not_eq_true', decide_eq_false_iff_not, Bool.not_eq_true', List.any_eq_false]
  refine and_congr_right fun _ => ?_
  simp only [List.mem_range, Bool.and_eq_true, Bool.not_eq_true', decide_eq_false_iff_not, twB_iff, not_and]
/-- What was tried decides as the reference does. -/
theorem tried_any {p : List Int} {v : Nat} (hv : v < n) : (((List.range v).filter (opn N T n p)).any fun (u : Nat) => twB N T n u v) = (List.range v).any fun u => !decide ((u : Int) ∈ p) && twB N T n u v := by
  rw [Bool.eq_iff_iff, List.any_eq_true, List.any_eq_true]
  constructor
  · rintro ⟨u, hu, ht⟩
    obtain ⟨h1, h2⟩ := List.mem_filter.1 hu
    exact ⟨u, h1, by rw [Bool.and_eq_true, Bool.not_eq_true', decide_eq_false_iff_not]; exact ⟨(opn_iff.1 h2).1, ht⟩⟩
  · rintro ⟨u, hu, ht⟩
    rw [Bool.and_eq_true, Bool.not_eq_true', decide_eq_false_iff_not] at ht
    have huv := List.mem_range.1 hu
    clear hu
    induction u using Nat.strongRecOn with
    | ind u ih =>
      by_cases h : opn N T n p u = true
      · exact ⟨u, List.mem_filter.2 ⟨List.mem_range.2 huv, h⟩, ht.2⟩
      · have h1 : ∃ w : Nat, w < u ∧ (w : Int) ∉ p ∧ Tw N T n w u := by
          apply Classical.byContradiction
          intro hno
          exact h (opn_iff.2 ⟨ht.1, fun w hw hp hT => hno ⟨w, hw, hp, hT⟩⟩)
        obtain ⟨w, hw, hp, hT⟩ := h1
        exact ih w hw ⟨hp, twB_iff.2 (Tw.trans (by omega) (by omega) (by omega) (by omega) (by omega) (by omega) hT (twB_iff.1 ht.2))⟩ (by omega)
structure Cpl (n : Nat) (o : List Int) : Prop where
  po : Po n o
  len : o.length = n
def Good (N : Int → Int) (T : Int → Int → List Int) (n : Nat) (s : Bst) : Prop := ∀ o c, s = some (o, c) → Cpl n o ∧ c = cd N T n o
def Bel (s : Bst) (c : List Int) : Prop := ∃ o d, s = some (o, d) ∧ cmpL d c ≤ 0
theorem Good.none : Good N T n none := fun _ _ h => by cases h
theorem worse_bel {s : Bst} {c r : List Int} (h : worse s c = true) : Bel s (c ++ r) := by
  unfold worse at h
  split at h
  · cases h
  · rename_i o d
    exact ⟨o, d, rfl, cmpL_gt (cmpL_pre r (of_decide_eq_true h))⟩
theorem leaf_good {s : Bst} {p : List Int} (h : Good N T n s) (hp : Cpl n p) : Good N T n (leaf s p (cd N T n p)) := by
  unfold leaf
  split
  · intro o c e; cases e; exact ⟨hp, rfl⟩
  · split
    · intro o c e; cases e; exact ⟨hp, rfl⟩
    · exact h
theorem leaf_bel {s : Bst} {p c : List Int} : Bel (leaf s p c) c := by
  unfold leaf
  split
  · exact ⟨_, _, rfl, by rw [cmpL_self]; decide⟩
  · split
    · exact ⟨_, _, rfl, by rw [cmpL_self]; decide⟩
    · exact ⟨_, _, rfl, cmpL_gt' (by assumption)⟩
  where cmpL_gt' {a b : List Int} (h : ¬ cmpL a b < 0) : cmpL b a ≤ 0 := by rw [cmpL_anti]; omega
theorem leaf_mono {s : Bst} {p c x : List Int} (h : Bel s x) : Bel (leaf s p c) x := by
  obtain ⟨o, d, rfl, h1⟩ := h
  unfold leaf
  simp only
  split
  · exact ⟨_, _, rfl, cmpL_trans (by omega) h1⟩
  · exact ⟨_, _, rfl, h1⟩
theorem srch_cov : ∀ (m : Nat) (p : List Int) (s : Bst), p.length + m = n → Po n p → Good N T n s →
    Good N T n (srch N T n m p s) ∧ (∀ c, Bel s c → Bel (srch N T n m p s) c) ∧ ∀ o, Cpl n o → p <+: o → Bel (srch N T n m p s) (cd N T n o)
  | 0, p, s, hl, hp, hs => by
    unfold srch
    by_cases hw : worse s (cd N T n p) = true
    · rw [if_pos hw]
      refine ⟨hs, fun _ h => h, fun o ho hpo => ?_⟩
      obtain ⟨r, hr⟩ := cd_pre (N := N) (T := T) (n := n) hpo
      rw [hr]
      exact worse_bel hw
    · rw [if_neg hw]
      refine ⟨leaf_good hs ⟨hp, by omega⟩, fun _ h => leaf_mono h, fun o ho hpo => ?_⟩
      rw [← hpo.eq_of_length (by rw [ho.len]; omega)]
      exact leaf_bel
  | m + 1, p, s, hl, hp, hs => by
    unfold srch
    by_cases hw : worse s (cd N T n p) = true
    · rw [if_pos hw]
      refine ⟨hs, fun _ h => h, fun o ho hpo => ?_⟩
      obtain ⟨r, hr⟩ := cd_pre (N := N) (T := T) (n := n) hpo
      rw [hr]
      exact worse_bel hw
    · rw [if_neg hw]
      have fold : ∀ (l : List Nat) (s : Bst), (∀ v ∈ l, v < n ∧ opn N T n p v = true) → Good N T n s →
          Good N T n (l.foldl (fun s (v : Nat) => srch N T n m (p ++ [(v : Int)]) s) s) ∧ (∀ c, Bel s c → Bel (l.foldl (fun s (v : Nat) => srch N T n m (p ++ [(v : Int)]) s) s) c) ∧ ∀ v ∈ l, ∀ o, Cpl n o → (p ++ [(v : Int)]) <+: o → Bel (l.foldl (fun s (v : Nat) => srch N T n m (p ++ [(v : Int)]) s) s) (cd N T n o) := by
        intro l
        induction l with
        | nil => exact fun s _ hg => ⟨hg, fun _ h => h, by simp⟩
        | cons v l ih =>
          intro s hl' hg
          have hv := hl' v (by simp)
          obtain ⟨g1, g2, g3⟩ := srch_cov m (p ++ [(v : Int)]) s (by simp; omega) (hp.snoc (by omega) (opn_iff.1 hv.2).1) hg
          obtain ⟨i1, i2, i3⟩ := ih _ (fun w hw => hl' w (by simp [hw])) g1
          refine ⟨i1, fun c hc => i2 c (g2 c hc), fun w hw o ho hpo => ?_⟩
          rcases List.mem_cons.1 hw with rfl | hw
          · exact i2 _ (g3 o ho hpo)
          · exact i3 w hw o ho hpo
      obtain ⟨f1, f2, f3⟩ := fold ((List.range n).filter (opn N T n p)) s (fun v hv => ⟨List.mem_range.1 (List.mem_filter.1 hv).1, (List.mem_filter.1 hv).2⟩) hs
      refine ⟨f1, f2, ?_⟩
      generalize ((List.range n).filter (opn N T n p)).foldl (fun s (v : Nat) => srch N T n m (p ++ [(v : Int)]) s) s = r at *
      have key : ∀ v : Nat, v < n → (v : Int) ∉ p → ∀ o, Cpl n o → (p ++ [(v : Int)]) <+: o → Bel r (cd N T n o) := by
        intro v
        induction v using Nat.strongRecOn with
        | ind v ih =>
          intro hv hvp o ho hpo
          by_cases h : opn N T n p v = true
          · exact f3 v (List.mem_filter.2 ⟨List.mem_range.2 hv, h⟩) o ho hpo
          · have h1 : ∃ w : Nat, w < v ∧ (w : Int) ∉ p ∧ Tw N T n w v := by
              apply Classical.byContradiction
              intro hno
              exact h (opn_iff.2 ⟨hvp, fun w hw hp hT => hno ⟨w, hw, hp, hT⟩⟩)
            obtain ⟨w, hw, hwp, hT⟩ := h1
            have hI := hT.inv
            have e := cd_map hI.nd hI.ed ho.po
            rw [← e]
            refine ih w hw (by omega) hwp _ ⟨map_sw_po (by omega) (by omega) ho.po, by rw [List.length_map, ho.len]⟩ ?_
            obtain ⟨q, hq⟩ := hpo
            refine ⟨q.map (sw w v), ?_⟩
            rw [← hq, List.map_append, List.map_append, map_sw_id hwp hvp]
            have e2 : sw (w : Int) v v = w := by
              unfold sw
              rw [if_neg (by omega), if_pos rfl]
            simp [e2]
      intro o ho hpo
      obtain ⟨q, hq⟩ := hpo
      cases q with
      | nil => rw [← hq] at ho; have := ho.len; simp at this; omega
      | cons v q =>
        have hv := ho.po.rng v (by rw [← hq]; simp)
        have hvp : v ∉ p := fun hm => by
          have := ho.po.nd
          rw [← hq, List.nodup_append] at this
          exact this.2.2 v hm v (by simp) rfl
        obtain ⟨k, rfl⟩ : ∃ k : Nat, v = k := ⟨v.toNat, by omega⟩
        exact key k (by omega) hvp o ho ⟨q, by rw [← hq]; simp⟩
theorem Cpl.id (n : Nat) : Cpl n (rngI n) := ⟨Po.id n, by simp⟩
/-- The search finds a least code. -/
theorem find_min : ∃ o, find N T n = some (o, cd N T n o) ∧ Cpl n o ∧ ∀ q, Cpl n q → cmpL (cd N T n o) (cd N T n q) ≤ 0 := by
  obtain ⟨h1, -, h3⟩ := srch_cov (N := N) (T := T) (n := n) n [] none (by simp) (Po.nil n) Good.none
  obtain ⟨o, d, h4, -⟩ := h3 (rngI n) (Cpl.id n) (List.nil_prefix)
  obtain ⟨h5, rfl⟩ := h1 o d h4
  refine ⟨o, h4, h5, fun q hq => ?_⟩
  obtain ⟨o', d', h6, h7⟩ := h3 q hq List.nil_prefix
  rw [h4] at h6
  cases h6
  exact h7
theorem srch_keep {o d : List Int} (hmin : ∀ q, Cpl n q → cmpL d (cd N T n q) ≤ 0) : ∀ (m : Nat) (p : List Int), p.length + m = n → Po n p → srch N T n m p (some (o, d)) = some (o, d)
  | 0, p, hl, hp => by
    unfold srch
    split
    · rfl
    · have := hmin p ⟨hp, by omega⟩
      have h2 := cmpL_anti (cd N T n p) d
      unfold leaf
      simp only
      rw [if_neg (by omega)]
  | m + 1, p, hl, hp => by
    unfold srch
    split
    · rfl
    · have fold : ∀ l : List Nat, (∀ v ∈ l, v < n ∧ opn N T n p v = true) → l.foldl (fun s (v : Nat) => srch N T n m (p ++ [(v : Int)]) s) (some (o, d)) = some (o, d) := by
        intro l
        induction l with
        | nil => exact fun _ => rfl
        | cons v l ih =>
          intro h
          have hv := h v (by simp)
          rw [List.foldl_cons, srch_keep hmin m _ (by simp; omega) (hp.snoc (by omega) (opn_iff.1 hv.2).1)]
          exact ih fun w hw => h w (by simp [hw])
      exact fold _ fun v hv => ⟨List.mem_range.1 (List.mem_filter.1 hv).1, (List.mem_filter.1 hv).2⟩
theorem mem_rngI {n : Nat} {v : Int} : v ∈ rngI n ↔ 0 ≤ v ∧ v < n := by
  constructor
  · exact (Po.id n).rng v
  · intro h
    exact List.mem_map.2 ⟨v.toNat, List.mem_range.2 (by omega), by omega⟩
theorem filter_none {A : Type} {p : A → Bool} {l : List A} (h : ∀ x ∈ l, p x = false) : l.filter p = [] := List.filter_eq_nil_iff.2 fun x hx => by rw [h x hx]; decide
theorem srch_id (hmin : ∀ q, Cpl n q → cmpL (cd N T n (rngI n)) (cd N T n q) ≤ 0) : ∀ (m k : Nat), k + m = n → srch N T n m (rngI k) none = some (rngI n, cd N T n (rngI n))
  | 0, k, h => by
    obtain rfl : k = n := by omega
    rfl
  | m + 1, k, h => by
    unfold srch
    rw [if_neg (by simp [worse])]
    have hk : List.range n = List.range k ++ k :: (List.range m).map fun i => k + 1 + i := by
      refine List.ext_getElem (by simp; omega) fun i h1 h2 => ?_
      rw [List.getElem_range, List.getElem_append]
      split
      · simp
      · rename_i h3
        rw [List.length_range] at h3
        rcases Nat.eq_or_lt_of_le (Nat.le_of_not_lt h3) with e | e
        · subst e; simp
        · rw [List.getElem_cons]
          simp only [List.length_range]
          rw [dif_neg (by omega)]
          simp
          omega
    have h1 : ∀ v ∈ List.range k, opn N T n (rngI k) v = false := fun v hv => by
      have := List.mem_range.1 hv
      cases hq : opn N T n (rngI k) v with
      | false => rfl
      | true => exact absurd (mem_rngI.2 (by omega)) (opn_iff.1 hq).1
    have h2 : opn N T n (rngI k) k = true := opn_iff.2 ⟨fun hm => by have := mem_rngI.1 hm; omega, fun u hu hn => absurd (mem_rngI.2 (by omega)) hn⟩
    have fold : ∀ l : List Nat, (∀ v ∈ l, v < n ∧ opn N T n (rngI k) v = true) → l.foldl (fun s (v : Nat) => srch N T n m (rngI k ++ [(v : Int)]) s) (some (rngI n, cd N T n (rngI n))) = some (rngI n, cd N T n (rngI n)) := by
      intro l
      induction l with
      | nil => exact fun _ => rfl
      | cons v l ih =>
        intro h'
        have hv := h' v (by simp)
        have hpk : Po n (rngI k) := ⟨rngI_nodup k, fun x hx => by have := mem_rngI.1 hx; omega⟩
        rw [List.foldl_cons, srch_keep hmin m _ (by simp; omega) (hpk.snoc (by omega) (opn_iff.1 hv.2).1)]
        exact ih fun w hw => h' w (by simp [hw])
    have hall : ∀ v ∈ (List.range n).filter (opn N T n (rngI k)), v < n ∧ opn N T n (rngI k) v = true := fun v hv => ⟨List.mem_range.1 (List.mem_filter.1 hv).1, (List.mem_filter.1 hv).2⟩
    rw [hk, List.filter_append, filter_none h1, List.nil_append, List.filter_cons, if_pos h2] at hall ⊢
    rw [List.foldl_cons, ← rngI_succ, srch_id hmin m (k + 1) (by omega)]
    exact fold _ fun v hv => hall v (by simp [hv])
theorem find_id (hmin : ∀ q, Cpl n q → cmpL (cd N T n (rngI n)) (cd N T n q) ≤ 0) : find N T n = some (rngI n, cd N T n (rngI n)) := srch_id hmin n 0 (by omega)
end
end Go.Sj.Can

/-
  Edges between two nodes, by type; codes of graphs: plain mathematics.
-/
namespace Go.Sj.Can
open Go.Sj Go.Sj.Sta
set_option linter.unusedVariables false
set_option linter.unusedSimpArgs false

/-! Insertion. -/
section
variable (t : Int → Int)
def posF (l : List Int) (x : Int) : Nat → Nat
  | 0 => 0
  | j + 1 => if t x < t (l.getD j 0) then posF l x j else j + 1
def insT (l : List Int) (x : Int) : List Int := l.take (posF t l x l.length) ++ x :: l.drop (posF t l x l.length)
def sortT (l : List Int) : List Int := l.foldl (insT t) []
variable {t}
theorem posF_le (l : List Int) (x : Int) : ∀ j, posF t l x j ≤ j
  | 0 => Nat.le_refl _
  | j + 1 => by
    rw [posF]
    split
    · have := posF_le l x j; omega
    · exact Nat.le_refl _
theorem posF_gt (l : List Int) (x : Int) : ∀ j i, posF t l x j ≤ i → i < j → t x < t (l.getD i 0)
  | 0, i, _, h => by omega
  | j + 1, i, h1, h2 => by
    rw [posF] at h1
    split at h1
    · rename_i h
      by_cases e : i = j
      · subst e; exact h
      · exact posF_gt l x j i h1 (by omega)
    · omega
theorem posF_at (l : List Int) (x : Int) : ∀ j, 0 < posF t l x j → ¬ t x < t (l.getD (posF t l x j - 1) 0)
  | 0, h => by rw [posF] at h; omega
  | j + 1, h => by
    rw [posF] at h ⊢
    split
    · rename_i h'
      rw [if_pos h'] at h
      exact posF_at l x j h
    · rename_i h'
      exact h'
theorem insT_perm (l : List Int) (x : Int) : (insT t l x).Perm (x :: l) := by
  unfold insT
  refine List.perm_middle.trans (List.Perm.cons _ ?_)
  rw [List.take_append_drop]
theorem insT_len (l : List Int) (x : Int) : (insT t l x).length = l.length + 1 := by rw [(insT_perm l x).length_eq]; rfl
abbrev Srt (t : Int → Int) (l : List Int) : Prop := l.Pairwise fun a b => t a ≤ t b
theorem insT_sorted {l : List Int} (h : Srt t l) (x : Int) : Srt t (insT t l x) := by
  unfold insT
  have hp := posF_le (t := t) l x l.length
  have hg := posF_gt (t := t) l x l.length
  have ha := posF_at (t := t) l x l.length
  generalize posF t l x l.length = p at *
  have hd : ∀ b ∈ l.drop p, t x < t b := fun b hb => by
    obtain ⟨i, hi, rfl⟩ := List.mem_iff_getElem.1 hb
    rw [List.length_drop] at hi
    rw [List.getElem_drop]
    have := hg (p + i) (by omega) (by omega)
    rw [List.getD_eq_getElem?_getD, List.getElem?_eq_getElem (by omega)] at this
    exact this
  have hpw := List.pairwise_iff_getElem.1 h
  have ht : ∀ a ∈ l.take p, t a ≤ t x := fun a ha' => by
    obtain ⟨i, hi, rfl⟩ := List.mem_iff_getElem.1 ha'
    rw [List.length_take] at hi
    rw [List.getElem_take]
    have h1 := ha (by omega)
    rw [List.getD_eq_getElem?_getD, List.getElem?_eq_getElem (by omega)] at h1
    simp only [Option.getD_some] at h1
    by_cases e : i = p - 1
    · subst e; omega
    · have := hpw i (p - 1) (by omega) (by omega) (by omega); omega
  have hl := h
  rw [← List.take_append_drop p l, Srt, List.pairwise_append] at hl
  rw [Srt, List.pairwise_append, List.pairwise_cons]
  refine ⟨hl.1, ⟨fun b hb => Int.le_of_lt (hd b hb), hl.2.1⟩, fun a ha' b hb => ?_⟩
  rcases List.mem_cons.1 hb with rfl | hb
  · exact ht a ha'
  · have := ht a ha'; have := hd b hb; omega
theorem sortT_snoc (l : List Int) (x : Int) : sortT t (l ++ [x]) = insT t (sortT t l) x := by simp [sortT]
theorem sortT_nil : sortT t [] = [] := rfl
theorem snoc_ind {A : Type} {P : List A → Prop} (h0 : P []) (h1 : ∀ l x, P l → P (l ++ [x])) (l : List A) : P l := by
  rw [← List.reverse_reverse l]
  induction l.reverse with
  | nil => exact h0
  | cons x l ih => rw [List.reverse_cons]; exact h1 _ _ ih
theorem sortT_perm (l : List Int) : (sortT t l).Perm l := by
  induction l using snoc_ind with
  | h0 => exact .refl _
  | h1 l x ih =>
    rw [sortT_snoc]
    exact (insT_perm _ x).trans ((List.Perm.cons x ih).trans (List.perm_append_singleton x l).symm)
theorem sortT_len (l : List Int) : (sortT t l).length = l.length := (sortT_perm l).length_eq
theorem sortT_sorted (l : List Int) : Srt t (sortT t l) := by
  induction l using snoc_ind with
  | h0 => exact List.Pairwise.nil
  | h1 l x ih => rw [sortT_snoc]; exact insT_sorted ih x
theorem insT_last {l : List Int} {x : Int} (h : ∀ a ∈ l, t a ≤ t x) : insT t l x = l ++ [x] := by
  have : posF t l x l.length = l.length := by
    cases hl : l.length with
    | zero => rfl
    | succ j =>
      rw [posF, if_neg]
      rw [List.getD_eq_getElem?_getD, List.getElem?_eq_getElem (by omega)]
      have := h _ (List.getElem_mem (l := l) (n := j) (by omega))
      simp only [Option.getD_some]
      omega
  unfold insT
  rw [this, List.take_length, List.drop_length]
theorem sortT_of {l : List Int} (h : Srt t l) : sortT t l = l := by
  induction l using snoc_ind with
  | h0 => rfl
  | h1 l x ih =>
    rw [Srt, List.pairwise_append] at h
    rw [sortT_snoc, ih h.1]
    exact insT_last fun a ha => h.2.2 a ha x (by simp)
end

/-! Edges from one node to another one. -/
def tyI (g : Gr) (i : Int) : Int := (g.edges[i.toNat]?.map (·.ty)).getD 0
def isE (a b : Int) (e : Ed) : Bool := decide (e.fr = a) && decide (e.to = b)
def isB (g : Gr) (a b : Int) (i : Nat) : Bool := match g.edges[i]? with
  | some e => isE a b e
  | none => false
def rawK (g : Gr) (a b : Int) (k : Nat) : List Int := ((List.range k).filter (isB g a b)).map fun (i : Nat) => (i : Int)
def bt (g : Gr) (a b : Int) : List Int := sortT (tyI g) (rawK g a b g.edges.length)
def tl (g : Gr) (a b : Int) : List Int := (bt g a b).map (tyI g)
def tT (g : Gr) (a b : Int) : List Int := ((tl g a b).length : Int) :: tl g a b
def nodesOf (g : Gr) (a b : Int) : List Int := (g.edges.filter (isE a b)).map (·.ty)
theorem tyI_get {g : Gr} {k : Nat} {e : Ed} (h : g.edges[k]? = some e) : tyI g k = e.ty := by simp [tyI, h]
theorem rawK_succ {g : Gr} {a b : Int} {k : Nat} {e : Ed} (h : g.edges[k]? = some e) : rawK g a b (k + 1) = rawK g a b k ++ if e.fr = a ∧ e.to = b then [(k : Int)] else [] := by
  unfold rawK
  rw [List.range_succ, List.filter_append, List.map_append]
  congr 1
  have : isB g a b k = decide (e.fr = a ∧ e.to = b) := by simp [isB, h, isE]
  by_cases hq : e.fr = a ∧ e.to = b
  · simp [this, hq]
  · simp [this, hq]
theorem rawK_map (g : Gr) (a b : Int) : ∀ k, k ≤ g.edges.length → (rawK g a b k).map (tyI g) = ((g.edges.take k).filter (isE a b)).map (·.ty)
  | 0, _ => by simp [rawK]
  | k + 1, h => by
    have hx := List.getElem?_eq_getElem (l := g.edges) (i := k) (by omega)
    rw [rawK_succ hx, List.take_add_one, hx, List.map_append, List.filter_append, List.map_append, rawK_map g a b k (by omega)]
    congr 1
    by_cases hq : g.edges[k].fr = a ∧ g.edges[k].to = b
    · rw [if_pos hq]
      simp [isE, hq.1, hq.2, tyI_get hx]
    · rw [if_neg hq]
      have : isE a b g.edges[k] = false := by
        unfold isE
        rw [← Bool.decide_and, decide_eq_false_iff_not]
        exact hq
      simp [this]
theorem rawK_mem {g : Gr} {a b : Int} {k : Nat} {i : Int} : i ∈ rawK g a b k ↔ ∃ j : Nat, i = j ∧ j < k ∧ ∃ e, g.edges[j]? = some e ∧ e.fr = a ∧ e.to = b := by
  unfold rawK
  rw [List.mem_map]
  constructor
  · rintro ⟨j, hj, rfl⟩
    obtain ⟨h1, h2⟩ := List.mem_filter.1 hj
    refine ⟨j, rfl, List.mem_range.1 h1, ?_⟩
    unfold isB at h2
    split at h2
    · rename_i e he
      unfold isE at h2
      rw [Bool.and_eq_true, decide_eq_true_eq, decide_eq_true_eq] at h2
      exact ⟨e, he, h2⟩
    · cases h2
  · rintro ⟨j, rfl, hj, e, he, h1, h2⟩
    exact ⟨j, List.mem_filter.2 ⟨List.mem_range.2 hj, by simp [isB, he, isE, h1, h2]⟩, rfl⟩
theorem rawK_len (g : Gr) (a b : Int) (k : Nat) : (rawK g a b k).length ≤ k := by
  unfold rawK
  rw [List.length_map]
  exact Nat.le_trans (List.length_filter_le _ _) (by simp)
theorem bt_mem {g : Gr} {a b i : Int} : i ∈ bt g a b ↔ ∃ j : Nat, i = j ∧ ∃ e, g.edges[j]? = some e ∧ e.fr = a ∧ e.to = b := by
  rw [bt, (sortT_perm _).mem_iff, rawK_mem]
  constructor
  · rintro ⟨j, h1, -, h3⟩; exact ⟨j, h1, h3⟩
  · rintro ⟨j, h1, e, he, h3⟩; exact ⟨j, h1, (List.getElem?_eq_some_iff.1 he).1, e, he, h3⟩
theorem tl_perm (g : Gr) (a b : Int) : (tl g a b).Perm (nodesOf g a b) := by
  have := rawK_map g a b g.edges.length (Nat.le_refl _)
  rw [List.take_length] at this
  unfold nodesOf
  rw [← this]
  exact (sortT_perm _).map _
theorem tl_len (g : Gr) (a b : Int) : (tl g a b).length = g.edges.countP (isE a b) := by
  rw [(tl_perm g a b).length_eq, nodesOf, List.length_map, List.countP_eq_length_filter]
theorem tl_sorted (g : Gr) (a b : Int) : (tl g a b).Pairwise (· ≤ ·) := by
  unfold tl
  rw [List.pairwise_map]
  exact sortT_sorted _
theorem tl_ext {g h : Gr} {a b c d : Int} (H : (nodesOf g a b).Perm (nodesOf h c d)) : tl g a b = tl h c d :=
  List.Perm.eq_of_pairwise (le := (· ≤ ·)) (fun a b _ _ h1 h2 => Int.le_antisymm h1 h2) (tl_sorted g a b) (tl_sorted h c d) ((tl_perm g a b).trans (H.trans (tl_perm h c d).symm))
theorem bt_len (g : Gr) (a b : Int) : (bt g a b).length = (tl g a b).length := by simp [tl]
theorem bt_le (g : Gr) (a b : Int) : (bt g a b).length ≤ g.edges.length := by rw [bt, sortT_len]; exact rawK_len g a b _

/-! Lengths. -/
theorem countP_split {A : Type} {l : List A} {p q r : A → Bool} (h : ∀ x, (p x).toNat = (q x).toNat + (r x).toNat) : l.countP p = l.countP q + l.countP r := by
  induction l with
  | nil => rfl
  | cons x l ih =>
    have := h x
    rw [List.countP_cons, List.countP_cons, List.countP_cons, ih]
    cases hp : p x <;> cases hq : q x <;> cases hr : r x <;> simp [hp, hq, hr] at this ⊢ <;> omega
def inP (p : List Int) (e : Ed) : Bool := decide (e.fr ∈ p) && decide (e.to ∈ p)
def frP (p : List Int) (v : Int) (e : Ed) : Bool := decide (e.fr ∈ p) && decide (e.to = v)
def toP (p : List Int) (v : Int) (e : Ed) : Bool := decide (e.fr = v) && decide (e.to ∈ p)
theorem tT_len (g : Gr) (a b : Int) : (tT g a b).length = 1 + g.edges.countP (isE a b) := by rw [tT, List.length_cons, tl_len]; omega
theorem sum_len (g : Gr) (v : Int) : ∀ p : List Int, p.Nodup → (p.flatMap fun j => tT g j v ++ tT g v j).length = 2 * p.length + (g.edges.countP (frP p v) + g.edges.countP (toP p v))
  | [], _ => by
    have h1 : ∀ e, frP [] v e = false := fun e => by simp [frP]
    have h2 : ∀ e, toP [] v e = false := fun e => by simp [toP]
    simp [funext h1, funext h2]
  | j :: p, h => by
    have hj := (List.nodup_cons.1 h).1
    rw [List.flatMap_cons, List.length_append, List.length_append, tT_len, tT_len, sum_len g v p (List.nodup_cons.1 h).2, List.length_cons]
    have h1 : g.edges.countP (frP (j :: p) v) = g.edges.countP (isE j v) + g.edges.countP (frP p v) := countP_split fun e => by
      unfold frP isE
      by_cases e1 : e.fr = j
      · have : j ∉ p := hj
        by_cases e2 : e.to = v <;> simp [e1, e2, this]
      · by_cases e2 : e.to = v <;> by_cases e3 : e.fr ∈ p <;> simp [e1, e2, e3]
    have h2 : g.edges.countP (toP (j :: p) v) = g.edges.countP (isE v j) + g.edges.countP (toP p v) := countP_split fun e => by
      unfold toP isE
      by_cases e1 : e.to = j
      · have : j ∉ p := hj
        by_cases e2 : e.fr = v <;> simp [e1, e2, this]
      · by_cases e2 : e.fr = v <;> by_cases e3 : e.to ∈ p <;> simp [e1, e2, e3]
    omega
def nN (g : Gr) (v : Int) : Int := nodeAt g v
theorem pc_len (g : Gr) (p : List Int) (v : Int) (h : (p ++ [v]).Nodup) : (pc (nN g) (tT g) p v).length + g.edges.countP (inP p) = 2 + 2 * p.length + g.edges.countP (inP (p ++ [v])) := by
  rw [List.nodup_append] at h
  have hv : v ∉ p := fun hm => h.2.2 v hm v (by simp) rfl
  unfold pc
  rw [List.length_cons, List.length_append, sum_len g v p h.1, tT_len]
  have h1 : g.edges.countP (inP (p ++ [v])) = g.edges.countP (inP p) + g.edges.countP (fun e => frP p v e || toP p v e || isE v v e) := countP_split fun e => by
    unfold inP frP toP isE
    by_cases e1 : e.fr ∈ p <;> by_cases e2 : e.to ∈ p <;> by_cases e3 : e.fr = v <;> by_cases e4 : e.to = v <;> simp_all
  have h2 : g.edges.countP (fun e => frP p v e || toP p v e || isE v v e) = g.edges.countP (frP p v) + g.edges.countP (fun e => toP p v e || isE v v e) := countP_split fun e => by
    unfold frP toP isE
    by_cases e1 : e.fr ∈ p <;> by_cases e2 : e.to ∈ p <;> by_cases e3 : e.fr = v <;> by_cases e4 : e.to = v <;> simp_all
  have h3 : g.edges.countP (fun e => toP p v e || isE v v e) = g.edges.countP (toP p v) + g.edges.countP (isE v v) := countP_split fun e => by
    unfold toP isE
    by_cases e1 : e.fr ∈ p <;> by_cases e2 : e.to ∈ p <;> by_cases e3 : e.fr = v <;> by_cases e4 : e.to = v <;> simp_all
  omega
theorem cd_len (g : Gr) (n : Nat) (p : List Int) (h : p.Nodup) : (cd (nN g) (tT g) n p).length = 1 + p.length + p.length * p.length + g.edges.countP (inP p) := by
  induction p using snoc_ind with
  | h0 =>
    have : ∀ e, inP [] e = false := fun e => by simp [inP]
    simp [cd, cdF, funext this]
  | h1 p v ih =>
    have hn := h
    rw [List.nodup_append] at hn
    have h1 := pc_len g p v h
    have h2 := ih hn.1
    rw [cd_snoc, List.length_append, h2, List.length_append, List.length_singleton]
    have : (p.length + 1) * (p.length + 1) = p.length * p.length + 2 * p.length + 1 := by rw [Nat.add_mul, Nat.mul_add, Nat.mul_add]; omega
    omega
/-- The length of all codes of a graph. -/
def cdK (g : Gr) : Nat := 1 + g.nodes.length + g.nodes.length * g.nodes.length + g.edges.length
theorem cd_le (g : Gr) {p : List Int} (h : Po g.nodes.length p) : (cd (nN g) (tT g) g.nodes.length p).length ≤ cdK g := by
  rw [cd_len g _ p h.nd, cdK]
  have h1 := h.len
  have h2 := Nat.mul_le_mul h1 h1
  have h3 := List.countP_le_length (p := inP p) (l := g.edges)
  omega
theorem cd_full {g : Gr} (hg : GV g) {p : List Int} (h : Cpl g.nodes.length p) : (cd (nN g) (tT g) g.nodes.length p).length = cdK g := by
  rw [cd_len g _ p h.po.nd, cdK, h.len]
  have : g.edges.countP (inP p) = g.edges.length := List.countP_eq_length.2 fun e he => by
    have := hg.edges e he
    unfold inP
    rw [Bool.and_eq_true, decide_eq_true_eq, decide_eq_true_eq]
    exact ⟨h.po.full h.len this.2.1, h.po.full h.len this.2.2⟩
  omega
end Go.Sj.Can

/-
  The canonical graph of an order: plain mathematics.
-/
namespace Go.Sj.Can
open Go.Sj Go.Sj.Sta
set_option linter.unusedVariables false
set_option linter.unusedSimpArgs false
set_option linter.unusedSectionVars false

/-! Lists without repetition. -/
theorem perm_of_sub : ∀ {l m : List Int}, l.Nodup → (∀ x ∈ l, x ∈ m) → m.length ≤ l.length → m.Perm l
  | [], m, _, _, h => by
    have : m = [] := List.eq_nil_of_length_eq_zero (by simpa using h)
    rw [this]
  | x :: l, m, hn, hs, h => by
    have hx := hs x (by simp)
    have h1 := List.perm_cons_erase hx
    have hxl := (List.nodup_cons.1 hn).1
    have h2 := perm_of_sub (l := l) (m := m.erase x) (List.nodup_cons.1 hn).2 (fun y hy => by
      have h3 := h1.mem_iff.1 (hs y (by simp [hy]))
      rcases List.mem_cons.1 h3 with rfl | h3
      · exact absurd hy hxl
      · exact h3) (by have := h1.length_eq; rw [List.length_cons] at this h; omega)
    exact h1.trans (h2.cons x)
theorem Cpl.prm {n : Nat} {o : List Int} (h : Cpl n o) : Prm o n := ⟨(perm_of_sub h.po.nd (fun x hx => mem_rngI.2 (h.po.rng x hx)) (by rw [h.len]; simp)).symm⟩
theorem Cpl.of_prm {n : Nat} {o : List Int} (h : Prm o n) : Cpl n o := ⟨⟨h.nodup, h.rng⟩, h.len⟩
theorem prm_of_full {n : Nat} {o : List Int} (h : ∀ x : Int, 0 ≤ x ∧ x < n → x ∈ o) (hl : o.length = n) : Prm o n := ⟨perm_of_sub (rngI_nodup n) (fun x hx => h x (mem_rngI.1 hx)) (by simp [hl])⟩

/-! Where the members of a list lie. -/
def msF (n : Nat) (l : List Int) : Nat → List Int
  | 0 => List.replicate n 0
  | k + 1 => (msF n l k).set (l.getD k 0).toNat k
def ms (n : Nat) (l : List Int) : List Int := msF n l l.length
theorem msF_len (n : Nat) (l : List Int) : ∀ k, (msF n l k).length = n
  | 0 => by simp [msF]
  | k + 1 => by rw [msF, List.length_set, msF_len n l k]
theorem msF_congr {n : Nat} {l m : List Int} : ∀ k, (∀ i, i < k → l.getD i 0 = m.getD i 0) → msF n l k = msF n m k
  | 0, _ => rfl
  | k + 1, h => by rw [msF, msF, msF_congr k (fun i hi => h i (by omega)), h k (by omega)]
theorem ms_snoc (n : Nat) (l : List Int) (x : Int) : ms n (l ++ [x]) = (ms n l).set x.toNat l.length := by
  unfold ms
  rw [List.length_append, List.length_singleton, msF]
  rw [msF_congr (l := l ++ [x]) (m := l) l.length (fun i hi => by rw [List.getD_eq_getElem?_getD, List.getD_eq_getElem?_getD, List.getElem?_append_left hi])]
  congr 2
  simp
theorem ms_nil (n : Nat) : ms n [] = List.replicate n 0 := rfl
theorem ms_len (n : Nat) (l : List Int) : (ms n l).length = n := msF_len n l _
theorem msF_get {n : Nat} {l : List Int} (h : Po n l) : ∀ k, k ≤ l.length → ∀ i, i < k → (msF n l k)[(l.getD i 0).toNat]? = some (i : Int)
  | 0, _, i, hi => by omega
  | k + 1, hk, i, hi => by
    have hg : ∀ j (hj : j < l.length), l.getD j 0 = l[j] := fun j hj => by rw [List.getD_eq_getElem?_getD, List.getElem?_eq_getElem hj]; rfl
    have r1 := h.rng _ (List.getElem_mem (l := l) (n := k) (by omega))
    have r2 := h.rng _ (List.getElem_mem (l := l) (n := i) (by omega))
    rw [msF, hg k (by omega), hg i (by omega)]
    by_cases e : i = k
    · subst e
      rw [List.getElem?_set_self (by rw [msF_len]; omega)]
    · have hne := List.pairwise_iff_getElem.1 (List.nodup_iff_pairwise_ne.1 h.nd) i k (by omega) (by omega) (by omega)
      rw [List.getElem?_set_ne (by omega)]
      have := msF_get h k (by omega) i (by omega)
      rw [hg i (by omega)] at this
      exact this
theorem ms_get {n : Nat} {l : List Int} (h : Po n l) {i : Nat} {x : Int} (hx : l[i]? = some x) : (ms n l)[x.toNat]? = some (i : Int) := by
  obtain ⟨hi, rfl⟩ := List.getElem?_eq_some_iff.1 hx
  have := msF_get h l.length (Nat.le_refl _) i hi
  rw [List.getD_eq_getElem?_getD, hx] at this
  exact this
theorem prm_mem {n : Nat} {o : List Int} (h : Prm o n) {x : Int} (hx : 0 ≤ x ∧ x < n) : x ∈ o := h.perm.mem_iff.2 (mem_rngI.2 hx)
theorem prm_po {n : Nat} {o : List Int} (h : Prm o n) : Po n o := ⟨h.nodup, h.rng⟩
theorem ms_prm {n : Nat} {l : List Int} (h : Prm l n) : Prm (ms n l) n := by
  refine prm_of_full (fun x hx => ?_) (ms_len n l)
  have hl := h.len
  have hy := List.getElem?_eq_getElem (l := l) (i := x.toNat) (by omega)
  have := ms_get (prm_po h) hy
  have := List.mem_of_getElem? this
  rwa [show ((x.toNat : Nat) : Int) = x by omega] at this
/-- The place of a node of an order. -/
theorem ms_inv {n : Nat} {l : List Int} (h : Prm l n) {x : Int} (hx : 0 ≤ x ∧ x < n) : ∃ i : Nat, i < n ∧ l[i]? = some x ∧ (ms n l).getD x.toNat 0 = i := by
  obtain ⟨i, hi, e⟩ := List.mem_iff_getElem.1 (prm_mem h hx)
  have hl := h.len
  have h1 : l[i]? = some x := by rw [List.getElem?_eq_getElem hi, e]
  refine ⟨i, by omega, h1, ?_⟩
  rw [List.getD_eq_getElem?_getD, ms_get (prm_po h) h1]
  rfl

/-! Graphs that are laid in another order. -/
theorem tT_move {g h : Gr} {p : List Int} {n : Nat} (hp : Prm p n) (he : h.edges.Perm (g.edges.map (mvE p))) (hr : ∀ e ∈ g.edges, (0 ≤ e.fr ∧ e.fr < n) ∧ (0 ≤ e.to ∧ e.to < n)) {a b : Int} (ha : 0 ≤ a ∧ a < n) (hb : 0 ≤ b ∧ b < n) :
    tT h (p.getD a.toNat 0) (p.getD b.toNat 0) = tT g a b := by
  have hl := hp.len
  have hq : ∀ x : Int, 0 ≤ x ∧ x < n → p[x.toNat]? = some (p.getD x.toNat 0) := fun x hx => by
    rw [List.getD_eq_getElem?_getD, List.getElem?_eq_getElem (by omega)]; rfl
  have inj : ∀ x y : Int, 0 ≤ x ∧ x < n → 0 ≤ y ∧ y < n → (p.getD x.toNat 0 = p.getD y.toNat 0 ↔ x = y) := fun x y hx hy => by
    constructor
    · intro e
      have h1 := hq x hx
      have h2 := hq y hy
      rw [← e] at h2
      have := hp.inj h1 h2
      omega
    · rintro rfl; rfl
  have h1 : (nodesOf h (p.getD a.toNat 0) (p.getD b.toNat 0)).Perm (nodesOf g a b) := by
    unfold nodesOf
    have h2 := ((he.filter (isE (p.getD a.toNat 0) (p.getD b.toNat 0))).map (·.ty))
    rw [List.filter_map, List.map_map] at h2
    refine h2.trans (List.Perm.of_eq ?_)
    have h3 : g.edges.filter ((isE (p.getD a.toNat 0) (p.getD b.toNat 0)) ∘ mvE p) = g.edges.filter (isE a b) := List.filter_congr fun e hm => by
      have := hr e hm
      show (decide (p.getD e.fr.toNat 0 = p.getD a.toNat 0) && decide (p.getD e.to.toNat 0 = p.getD b.toNat 0)) = (decide (e.fr = a) && decide (e.to = b))
      have i1 := inj e.fr a this.1 ha
      have i2 := inj e.to b this.2 hb
      by_cases q1 : e.fr = a <;> by_cases q2 : e.to = b <;> simp only [i1, i2, q1, q2, iff_true, iff_false] <;> simp_all
    rw [h3]
    rfl
  unfold tT
  rw [tl_ext h1]
theorem cd_move {g h : Gr} (hg : GV g) {p : List Int} (hp : Prm p g.nodes.length) (he : h.edges.Perm (g.edges.map (mvE p))) (hn : ∀ x : Int, 0 ≤ x ∧ x < g.nodes.length → nN h (p.getD x.toNat 0) = nN g x) {o : List Int} (ho : Po g.nodes.length o) :
    cd (nN h) (tT h) g.nodes.length (o.map fun x => p.getD x.toNat 0) = cd (nN g) (tT g) g.nodes.length o :=
  cd_map hn (fun x y hx hy => tT_move hp he (fun e hm => (hg.edges e hm).2) hx hy) ho
theorem map_po {n : Nat} {p : List Int} (hp : Prm p n) {o : List Int} (ho : Cpl n o) : Cpl n (o.map fun x => p.getD x.toNat 0) := by
  have hl := hp.len
  have hq : ∀ x : Int, 0 ≤ x ∧ x < n → p[x.toNat]? = some (p.getD x.toNat 0) := fun x hx => by
    rw [List.getD_eq_getElem?_getD, List.getElem?_eq_getElem (by omega)]; rfl
  refine ⟨⟨?_, fun y hy => ?_⟩, by rw [List.length_map, ho.len]⟩
  · rw [List.nodup_iff_pairwise_ne, List.pairwise_map]
    refine ((List.nodup_iff_pairwise_ne.1 ho.po.nd).imp_of_mem fun {a b} ha hb h1 h2 => ?_)
    have h3 := hq a (ho.po.rng a ha)
    have h4 := hq b (ho.po.rng b hb)
    rw [← h2] at h4
    have h5 := hp.inj h3 h4
    have := ho.po.rng a ha
    have := ho.po.rng b hb
    omega
  · obtain ⟨x, hx, rfl⟩ := List.mem_map.1 hy
    exact hp.rng _ (List.mem_of_getElem? (hq x (ho.po.rng x hx)))

/-! The code of a graph. -/
abbrev findG (g : Gr) : Bst := find (nN g) (tT g) g.nodes.length
def ordG (g : Gr) : List Int := match findG g with
  | some (o, _) => o
  | none => []
def codG (g : Gr) : List Int := cd (nN g) (tT g) g.nodes.length (ordG g)
theorem findG_eq (g : Gr) : findG g = some (ordG g, codG g) ∧ Cpl g.nodes.length (ordG g) ∧ ∀ q, Cpl g.nodes.length q → cmpL (codG g) (cd (nN g) (tT g) g.nodes.length q) ≤ 0 := by
  obtain ⟨o, h1, h2, h3⟩ := find_min (N := nN g) (T := tT g) (n := g.nodes.length)
  have : ordG g = o := by unfold ordG; rw [show findG g = _ from h1]
  unfold codG
  rw [this]
  exact ⟨h1, h2, h3⟩
theorem codG_len {g : Gr} (hg : GV g) : (codG g).length = cdK g := cd_full hg (findG_eq g).2.1
theorem codG_move {g h : Gr} (hg : GV g) (hh : GV h) (hn' : h.nodes.length = g.nodes.length) {p : List Int} (hp : Prm p g.nodes.length) (he : h.edges.Perm (g.edges.map (mvE p))) (hn : ∀ x : Int, 0 ≤ x ∧ x < g.nodes.length → nN h (p.getD x.toNat 0) = nN g x) : codG h = codG g := by
  obtain ⟨-, g2, g3⟩ := findG_eq g
  obtain ⟨-, h2, h3⟩ := findG_eq h
  refine cmpL_both ?_ ?_
  · have := h3 _ (by rw [hn']; exact map_po hp g2)
    rw [hn', cd_move hg hp he hn g2.po] at this
    exact this
  · -- an order of h comes from one of g
    rw [hn'] at h2
    have hq := ms_prm hp
    have hc := map_po hq h2
    have := g3 _ hc
    rw [← cd_move hg hp he hn hc.po, List.map_map] at this
    have e : (ordG h).map ((fun x : Int => p.getD x.toNat 0) ∘ fun x : Int => (ms g.nodes.length p).getD x.toNat 0) = ordG h := by
      conv => rhs; rw [← List.map_id (ordG h)]
      refine List.map_congr_left fun x hx => ?_
      obtain ⟨i, hi, e1, e2⟩ := ms_inv hp (h2.po.rng x hx)
      simp only [Function.comp, id]
      rw [e2, Int.toNat_natCast, List.getD_eq_getElem?_getD, e1]
      rfl
    rw [e] at this
    unfold codG at this ⊢
    rw [hn']
    exact this

/-! The canonical graph. -/
def atO (o : List Int) (k : Nat) : Int := o.getD k 0
def putE (g : Gr) (o : List Int) (a b : Nat) : List (Int × Int × Int) := (bt g (atO o a) (atO o b)).map fun i => (i, (a : Int), (b : Int))
def stpE (g : Gr) (o : List Int) (k j : Nat) : List (Int × Int × Int) := (List.range j).flatMap fun q => putE g o q k ++ putE g o k q
def plE (g : Gr) (o : List Int) (k : Nat) : List (Int × Int × Int) := (List.range k).flatMap fun q => stpE g o q q ++ putE g o q q
def edOf (g : Gr) (x : Int × Int × Int) : Ed := ⟨tyI g x.1, x.2.1, x.2.2⟩
def canE (g : Gr) (o : List Int) : List Int := (plE g o o.length).map (·.1)
def cgr (g : Gr) (o : List Int) : Gr := ⟨o.map (nN g), (plE g o o.length).map (edOf g)⟩
theorem stpE_succ (g : Gr) (o : List Int) (k j : Nat) : stpE g o k (j + 1) = stpE g o k j ++ (putE g o j k ++ putE g o k j) := by simp [stpE, List.range_succ]
theorem plE_succ (g : Gr) (o : List Int) (k : Nat) : plE g o (k + 1) = plE g o k ++ (stpE g o k k ++ putE g o k k) := by simp [plE, List.range_succ]
theorem putE_len (g : Gr) (o : List Int) (a b : Nat) : (putE g o a b).length = g.edges.countP (isE (atO o a) (atO o b)) := by rw [putE, List.length_map, bt_len, tl_len]
theorem take_eq_map (o : List Int) {k : Nat} (h : k ≤ o.length) : o.take k = (List.range k).map (atO o) := by
  refine List.ext_getElem (by simp; omega) fun i h1 h2 => ?_
  rw [List.length_take] at h1
  rw [List.getElem_take, List.getElem_map, List.getElem_range, atO, List.getD_eq_getElem?_getD, List.getElem?_eq_getElem (by omega)]
  rfl
theorem pc_put (g : Gr) (o : List Int) {k : Nat} (h : k < o.length) : (pc (nN g) (tT g) (o.take k) (atO o k)).length = 2 + 2 * k + (stpE g o k k).length + (putE g o k k).length := by
  unfold pc
  rw [List.length_cons, List.length_append, tT_len, ← putE_len, take_eq_map o (by omega), List.flatMap_map]
  have : ∀ j, ((List.range j).flatMap fun a => tT g (atO o a) (atO o k) ++ tT g (atO o k) (atO o a)).length = 2 * j + (stpE g o k j).length := by
    intro j
    induction j with
    | zero => rfl
    | succ j ih => rw [List.range_succ, List.flatMap_append, List.length_append, ih, stpE_succ]; simp [tT_len, putE_len]; omega
  rw [this]
  omega
theorem take_snoc (o : List Int) {k : Nat} (h : k < o.length) : o.take (k + 1) = o.take k ++ [atO o k] := by
  rw [List.take_add_one, List.getElem?_eq_getElem h, atO, List.getD_eq_getElem?_getD, List.getElem?_eq_getElem h]
  rfl
theorem cd_pl (g : Gr) (n : Nat) (o : List Int) : ∀ k, k ≤ o.length → (cd (nN g) (tT g) n (o.take k)).length = 1 + k + k * k + (plE g o k).length
  | 0, _ => by simp [cd, cdF, plE]
  | k + 1, h => by
    rw [take_snoc o (by omega), cd_snoc, List.length_append, cd_pl g n o k (by omega), pc_put g o (by omega), plE_succ, List.length_append, List.length_append]
    have : (k + 1) * (k + 1) = k * k + 2 * k + 1 := by rw [Nat.add_mul, Nat.mul_add, Nat.mul_add]; omega
    omega
theorem plE_len {g : Gr} (hg : GV g) {o : List Int} (ho : Cpl g.nodes.length o) : (plE g o o.length).length = g.edges.length := by
  have h1 := cd_pl g g.nodes.length o o.length (Nat.le_refl _)
  rw [List.take_length, cd_full hg ho, cdK, ho.len] at h1
  rw [ho.len]
  omega
theorem plE_le (g : Gr) {o : List Int} (ho : Po g.nodes.length o) {k : Nat} (hk : k ≤ o.length) : (plE g o k).length ≤ g.edges.length := by
  have h1 := cd_pl g g.nodes.length o k hk
  have h2 : Po g.nodes.length (o.take k) := by
    have h3 := ho
    rw [← List.take_append_drop k o] at h3
    exact h3.left
  rw [cd_len g _ _ h2.nd] at h1
  have h3 := List.countP_le_length (p := inP (o.take k)) (l := g.edges)
  have h4 : (o.take k).length = k := by rw [List.length_take]; omega
  rw [h4] at h1
  omega
theorem putE_mem {g : Gr} {o : List Int} {a b : Nat} {x : Int × Int × Int} : x ∈ putE g o a b ↔ ∃ j : Nat, x = ((j : Int), (a : Int), (b : Int)) ∧ ∃ e, g.edges[j]? = some e ∧ e.fr = atO o a ∧ e.to = atO o b := by
  unfold putE
  rw [List.mem_map]
  constructor
  · rintro ⟨i, hi, rfl⟩
    obtain ⟨j, rfl, h⟩ := bt_mem.1 hi
    exact ⟨j, rfl, h⟩
  · rintro ⟨j, rfl, h⟩
    exact ⟨j, bt_mem.2 ⟨j, rfl, h⟩, rfl⟩
theorem plE_mem {g : Gr} {o : List Int} {n : Nat} {x : Int × Int × Int} : x ∈ plE g o n ↔ ∃ a b : Nat, a < n ∧ b < n ∧ x ∈ putE g o a b := by
  unfold plE
  rw [List.mem_flatMap]
  constructor
  · rintro ⟨k, hk, hx⟩
    have hk := List.mem_range.1 hk
    rcases List.mem_append.1 hx with h | h
    · unfold stpE at h
      rw [List.mem_flatMap] at h
      obtain ⟨q, hq, h⟩ := h
      have hq := List.mem_range.1 hq
      rcases List.mem_append.1 h with h | h
      · exact ⟨q, k, by omega, hk, h⟩
      · exact ⟨k, q, hk, by omega, h⟩
    · exact ⟨k, k, hk, hk, h⟩
  · rintro ⟨a, b, ha, hb, hx⟩
    rcases Nat.lt_trichotomy a b with h | h | h
    · exact ⟨b, List.mem_range.2 hb, List.mem_append_left _ (List.mem_flatMap.2 ⟨a, List.mem_range.2 h, List.mem_append_left _ hx⟩)⟩
    · subst h; exact ⟨a, List.mem_range.2 ha, List.mem_append_right _ hx⟩
    · exact ⟨a, List.mem_range.2 ha, List.mem_append_left _ (List.mem_flatMap.2 ⟨b, List.mem_range.2 h, List.mem_append_right _ hx⟩)⟩
theorem atO_get {o : List Int} {k : Nat} (h : k < o.length) : o[k]? = some (atO o k) := by rw [atO, List.getD_eq_getElem?_getD, List.getElem?_eq_getElem h]; rfl
section
variable {g : Gr} (hg : GV g) {o : List Int} (ho : Cpl g.nodes.length o)
include hg ho
theorem canE_prm : Prm (canE g o) g.edges.length := by
  refine prm_of_full (fun x hx => ?_) (by rw [canE, List.length_map, plE_len hg ho])
  obtain ⟨k, rfl⟩ : ∃ k : Nat, x = k := ⟨x.toNat, by omega⟩
  have hk := List.getElem?_eq_getElem (l := g.edges) (i := k) (by omega)
  have he := hg.edges _ (List.getElem_mem (l := g.edges) (n := k) (by omega))
  generalize g.edges[k] = e at *
  obtain ⟨a, h1, h2, -⟩ := ms_inv ho.prm he.2.1
  obtain ⟨b, k1, k2, -⟩ := ms_inv ho.prm he.2.2
  have hl := ho.len
  refine List.mem_map.2 ⟨((k : Int), (a : Int), (b : Int)), plE_mem.2 ⟨a, b, by omega, by omega, putE_mem.2 ⟨k, rfl, e, hk, ?_, ?_⟩⟩, rfl⟩
  · rw [atO_get (by omega)] at h2; exact (Option.some.inj h2).symm
  · rw [atO_get (by omega)] at k2; exact (Option.some.inj k2).symm
/-- Where the edges lie. -/
theorem plE_ends {x : Int × Int × Int} (hx : x ∈ plE g o o.length) : ∃ e, g.edges[x.1.toNat]? = some e ∧ edOf g x = mvE (ms g.nodes.length o) e := by
  obtain ⟨a, b, ha, hb, h1⟩ := plE_mem.1 hx
  obtain ⟨j, rfl, e, h2, h3, h4⟩ := putE_mem.1 h1
  refine ⟨e, h2, ?_⟩
  have p := ho.prm
  have e1 := ms_get (prm_po p) (atO_get ha)
  have e2 := ms_get (prm_po p) (atO_get hb)
  unfold edOf mvE
  rw [tyI_get h2, h3, h4, List.getD_eq_getElem?_getD, List.getD_eq_getElem?_getD, e1, e2]
  rfl
theorem cgr_edges : (cgr g o).edges = (canE g o).map fun i => mvE (ms g.nodes.length o) (g.edges.getD i.toNat default) := by
  unfold cgr canE
  rw [List.map_map]
  refine List.map_congr_left fun x hx => ?_
  obtain ⟨e, h1, h2⟩ := plE_ends hg ho hx
  rw [h2, Function.comp, List.getD_eq_getElem?_getD, h1]
  rfl
theorem cgr_perm : (cgr g o).edges.Perm (g.edges.map (mvE (ms g.nodes.length o))) := by
  rw [cgr_edges hg ho]
  refine ((canE_prm hg ho).perm.map _).trans (List.Perm.of_eq ?_)
  refine List.ext_getElem? fun i => ?_
  rcases Nat.lt_or_ge i g.edges.length with hi | hi
  · rw [List.getElem?_map, List.getElem?_map, List.getElem?_map, List.getElem?_range hi, List.getElem?_eq_getElem hi]
    simp [List.getD_eq_getElem?_getD, List.getElem?_eq_getElem hi]
  · rw [List.getElem?_eq_none (by simp; omega), List.getElem?_eq_none (by simp; omega)]
theorem cgr_node {x : Int} (hx : 0 ≤ x ∧ x < g.nodes.length) : nN (cgr g o) ((ms g.nodes.length o).getD x.toNat 0) = nN g x := by
  obtain ⟨i, h1, h2, h3⟩ := ms_inv ho.prm hx
  rw [h3]
  unfold nN nodeAt cgr
  simp only
  rw [Int.toNat_natCast, List.getD_eq_getElem?_getD, List.getElem?_map, h2]
  rfl
theorem cgr_len : (cgr g o).nodes.length = g.nodes.length ∧ (cgr g o).edges.length = g.edges.length := by
  refine ⟨by simp [cgr, ho.len], ?_⟩
  unfold cgr
  rw [List.length_map, plE_len hg ho]
theorem nN_mem {x : Int} (hx : 0 ≤ x ∧ x < g.nodes.length) : nN g x ∈ g.nodes := nodeAt_mem hx.1 hx.2
theorem cgr_valid : GV (cgr g o) := by
  obtain ⟨h1, h2⟩ := cgr_len hg ho
  refine ⟨by rw [h1]; exact hg.nl, by rw [h2]; exact hg.el, fun x hx => ?_, fun e he => ?_⟩
  · obtain ⟨y, hy, rfl⟩ := List.mem_map.1 hx
    exact hg.nodes _ (nodeAt_mem (ho.po.rng y hy).1 (ho.po.rng y hy).2)
  · rw [h1]
    obtain ⟨e', he', rfl⟩ := List.mem_map.1 ((cgr_perm hg ho).mem_iff.1 he)
    have := hg.edges e' he'
    refine ⟨this.1, ?_, ?_⟩
    · obtain ⟨i, k1, -, k3⟩ := ms_inv ho.prm this.2.1
      unfold mvE
      rw [k3]
      simp only
      omega
    · obtain ⟨i, k1, -, k3⟩ := ms_inv ho.prm this.2.2
      unfold mvE
      rw [k3]
      simp only
      omega
/-- The code of the canonical graph in the order of its nodes. -/
theorem cgr_code : cd (nN (cgr g o)) (tT (cgr g o)) g.nodes.length (rngI g.nodes.length) = cd (nN g) (tT g) g.nodes.length o := by
  have := cd_move hg (ms_prm ho.prm) (cgr_perm hg ho) (fun x hx => cgr_node hg ho hx) ho.po
  rw [← this]
  congr 1
  have hl := ho.len
  refine List.ext_getElem? fun i => ?_
  rcases Nat.lt_or_ge i g.nodes.length with hi | hi
  · have hx := atO_get (o := o) (k := i) (by omega)
    rw [List.getElem?_map, List.getElem?_map, List.getElem?_range hi, hx]
    simp only [Option.map_some]
    rw [List.getD_eq_getElem?_getD, ms_get ho.po hx]
    rfl
  · rw [List.getElem?_eq_none (by simp; omega), List.getElem?_eq_none (by simp; omega)]
/-- Reordered by the canonical isomorphism, a graph is the canonical one. -/
theorem reG_cgr : reG g (ms g.nodes.length o) (ms g.edges.length (canE g o)) = cgr g o := by
  have p1 := ho.prm
  have p2 := canE_prm hg ho
  have h1 := ms_prm p1
  have h2 := ms_prm p2
  obtain ⟨l1, l2⟩ := cgr_len hg ho
  have e1 : (reG g (ms g.nodes.length o) (ms g.edges.length (canE g o))).nodes = (cgr g o).nodes := by
    refine List.ext_getElem? fun i => ?_
    rcases Nat.lt_or_ge i g.nodes.length with hi | hi
    · have hl := ho.len
      have hx := atO_get (o := o) (k := i) (by omega)
      have hr := ho.po.rng _ (List.mem_of_getElem? hx)
      have := reK_get h1 rfl (z := zN g.nodes.length) (by simp [zN]) _ (Nat.le_refl _) (atO o i).toNat (i : Int) (by omega) (ms_get (prm_po p1) hx)
      show (reK _ _ _ _)[i]? = (o.map (nN g))[i]?
      rw [Int.toNat_natCast] at this
      rw [this, List.getElem?_map, hx, Option.map_some]
      exact nodeAt_get hr.1 hr.2
    · rw [List.getElem?_eq_none (by rw [show (reG g _ _).nodes.length = _ from reK_len _ _ _ _]; simp [zN]; omega), List.getElem?_eq_none (by omega)]
  have e2 : (reG g (ms g.nodes.length o) (ms g.edges.length (canE g o))).edges = (cgr g o).edges := by
    refine List.ext_getElem? fun i => ?_
    rcases Nat.lt_or_ge i g.edges.length with hi | hi
    · have hl := p2.len
      have hx := atO_get (o := canE g o) (k := i) (by omega)
      have hr := p2.rng _ (List.mem_of_getElem? hx)
      have := reK_get h2 (l := g.edges.map (mvE (ms g.nodes.length o))) (by simp) (z := zE g.edges.length) (by simp [zE]) _ (Nat.le_refl _) (atO (canE g o) i).toNat (i : Int) (by omega) (ms_get (prm_po p2) hx)
      rw [cgr_edges hg ho]
      show (reK _ _ _ _)[i]? = _
      rw [Int.toNat_natCast] at this
      rw [this, List.getElem?_map, List.getElem?_map, hx, List.getElem?_eq_getElem (by omega)]
      simp only [Option.map_some]
      rw [List.getD_eq_getElem?_getD, List.getElem?_eq_getElem (by omega)]
      rfl
    · rw [List.getElem?_eq_none (by rw [show (reG g _ _).edges.length = _ from reK_len _ _ _ _]; simp [zE]; omega), List.getElem?_eq_none (by omega)]
  cases hq : reG g (ms g.nodes.length o) (ms g.edges.length (canE g o)) with
  | mk a b =>
    rw [hq] at e1 e2
    cases hq' : cgr g o with
    | mk c d =>
      rw [hq'] at e1 e2
      simp only at e1 e2
      rw [e1, e2]
end
end Go.Sj.Can

/-
  A code says what its graph is: plain mathematics.
-/
namespace Go.Sj.Can
open Go.Sj Go.Sj.Sta
set_option linter.unusedVariables false
set_option linter.unusedSimpArgs false
set_option linter.unusedSectionVars false

theorem tT_split {g h : Gr} {a b c d : Int} {x y : List Int} (e : tT g a b ++ x = tT h c d ++ y) : tl g a b = tl h c d ∧ x = y := by
  unfold tT at e
  rw [List.cons_append, List.cons_append] at e
  injection e with e1 e2
  exact List.append_inj e2 (by omega)
/-- What a place says determines what lies there. -/
theorem pcs_split {g h : Gr} {v w : Int} : ∀ {p q : List Int} {x y : List Int}, p.length = q.length →
    (p.flatMap fun j => tT g j v ++ tT g v j) ++ x = (q.flatMap fun j => tT h j w ++ tT h w j) ++ y →
    (∀ (i : Nat) (a b : Int), p[i]? = some a → q[i]? = some b → tl g a v = tl h b w ∧ tl g v a = tl h w b) ∧ x = y
  | [], [], x, y, _, e => ⟨fun i a b h => by simp at h, by simpa using e⟩
  | [], _ :: _, _, _, hl, _ => by simp at hl
  | _ :: _, [], _, _, hl, _ => by simp at hl
  | j :: p, k :: q, x, y, hl, e => by
    rw [List.flatMap_cons, List.flatMap_cons, List.append_assoc, List.append_assoc, List.append_assoc, List.append_assoc] at e
    obtain ⟨e1, e⟩ := tT_split e
    obtain ⟨e2, e⟩ := tT_split e
    obtain ⟨e3, e⟩ := pcs_split (by simpa using hl) e
    refine ⟨fun i a b ha hb => ?_, e⟩
    cases i with
    | zero => simp at ha hb; subst ha; subst hb; exact ⟨e1, e2⟩
    | succ i => exact e3 i a b (by simpa using ha) (by simpa using hb)
theorem cdF_split {g h : Gr} : ∀ {r s p q : List Int}, p.length = q.length → r.length = s.length → cdF (nN g) (tT g) p r = cdF (nN h) (tT h) q s →
    ∀ (k : Nat) (v w : Int), r[k]? = some v → s[k]? = some w → nN g v = nN h w ∧ tl g v v = tl h w w ∧ ∀ (i : Nat) (a b : Int), (p ++ r.take k)[i]? = some a → (q ++ s.take k)[i]? = some b → tl g a v = tl h b w ∧ tl g v a = tl h w b
  | [], _, _, _, _, _, _, k, v, w, hv, _ => by simp at hv
  | _ :: _, [], _, _, _, hl, _, k, v, w, _, _ => by simp at hl
  | x :: r, y :: s, p, q, hp, hl, e, k, v, w, hv, hw => by
    rw [cdF, cdF, pc, pc, List.cons_append, List.cons_append, List.append_assoc, List.append_assoc] at e
    injection e with e1 e2
    obtain ⟨e3, e4⟩ := pcs_split hp e2
    obtain ⟨e5, e6⟩ := tT_split e4
    cases k with
    | zero =>
      simp at hv hw
      subst hv; subst hw
      exact ⟨e1, e5, fun i a b ha hb => e3 i a b (by simpa using ha) (by simpa using hb)⟩
    | succ k =>
      have := cdF_split (p := p ++ [x]) (q := q ++ [y]) (by simp [hp]) (by simpa using hl) e6 k v w (by simpa using hv) (by simpa using hw)
      refine ⟨this.1, this.2.1, fun i a b ha hb => this.2.2 i a b ?_ ?_⟩
      · rw [List.append_assoc]; simpa using ha
      · rw [List.append_assoc]; simpa using hb
theorem put_edges (g : Gr) (o : List Int) (a b : Nat) : (putE g o a b).map (edOf g) = (tl g (atO o a) (atO o b)).map fun t => ⟨t, a, b⟩ := by
  unfold putE tl
  rw [List.map_map, List.map_map]
  rfl
/-- The same code, the same canonical graph. -/
theorem cgr_of_code {g h : Gr} {o q : List Int} {n m : Nat} (ho : o.length = n) (hq : q.length = n) (e : cd (nN g) (tT g) n o = cd (nN h) (tT h) n q) : cgr g o = cgr h q := by
  unfold cd at e
  injection e with _ e
  have key := cdF_split (p := []) (q := []) rfl (by omega) e
  have hN : ∀ k, k < n → nN g (atO o k) = nN h (atO q k) := fun k hk => (key k _ _ (atO_get (by omega)) (atO_get (by omega))).1
  have hT : ∀ a b, a < n → b < n → tl g (atO o a) (atO o b) = tl h (atO q a) (atO q b) := fun a b ha hb => by
    have tk : ∀ {l : List Int} {i k : Nat}, l.length = n → i < k → k < n → ([] ++ l.take k)[i]? = some (atO l i) := fun {l i k} hl hi hk => by
      rw [List.nil_append, List.getElem?_take, if_pos hi, atO_get (by omega)]
    rcases Nat.lt_trichotomy a b with h1 | h1 | h1
    · exact ((key b _ _ (atO_get (by omega)) (atO_get (by omega))).2.2 a _ _ (tk ho h1 hb) (tk hq h1 hb)).1
    · subst h1; exact (key a _ _ (atO_get (by omega)) (atO_get (by omega))).2.1
    · exact ((key a _ _ (atO_get (by omega)) (atO_get (by omega))).2.2 b _ _ (tk ho h1 ha) (tk hq h1 ha)).2
  have hP : ∀ a b, a < n → b < n → (putE g o a b).map (edOf g) = (putE h q a b).map (edOf h) := fun a b ha hb => by rw [put_edges, put_edges, hT a b ha hb]
  have hS : ∀ k j, k < n → j ≤ n → (stpE g o k j).map (edOf g) = (stpE h q k j).map (edOf h) := fun k j hk => by
    induction j with
    | zero => intro _; rfl
    | succ j ih =>
      intro hj
      rw [stpE_succ, stpE_succ, List.map_append, List.map_append, List.map_append, List.map_append, ih (by omega), hP j k (by omega) hk, hP k j hk (by omega)]
  have hL : ∀ k, k ≤ n → (plE g o k).map (edOf g) = (plE h q k).map (edOf h) := fun k => by
    induction k with
    | zero => intro _; rfl
    | succ k ih =>
      intro hk
      rw [plE_succ, plE_succ, List.map_append, List.map_append, List.map_append, List.map_append, ih (by omega), hS k k (by omega) (by omega), hP k k (by omega) (by omega)]
  unfold cgr
  rw [ho, hq, hL n (Nat.le_refl _)]
  congr 1
  refine List.ext_getElem? fun i => ?_
  rcases Nat.lt_or_ge i n with hi | hi
  · rw [List.getElem?_map, List.getElem?_map, atO_get (by omega), atO_get (by omega)]
    simp only [Option.map_some]
    rw [hN i hi]
  · rw [List.getElem?_eq_none (by simp; omega), List.getElem?_eq_none (by simp; omega)]
/-- The canonical graph. -/
def canG (g : Gr) : Gr := cgr g (ordG g)
section
variable {g : Gr} (hg : GV g)
include hg
theorem canG_valid : GV (canG g) := cgr_valid hg (findG_eq g).2.1
theorem canG_len : (canG g).nodes.length = g.nodes.length ∧ (canG g).edges.length = g.edges.length := cgr_len hg (findG_eq g).2.1
theorem canG_code : codG (canG g) = codG g := by
  have ho := (findG_eq g).2.1
  exact codG_move hg (canG_valid hg) (canG_len hg).1 (ms_prm ho.prm) (cgr_perm hg ho) (fun x hx => cgr_node hg ho hx)
theorem canG_id : cd (nN (canG g)) (tT (canG g)) g.nodes.length (rngI g.nodes.length) = codG g := cgr_code hg (findG_eq g).2.1
/-- The canonical graph's own order is that of its nodes. -/
theorem canG_ord : ordG (canG g) = rngI g.nodes.length := by
  have hl := (canG_len hg).1
  have h1 := canG_id hg
  have h2 := canG_code hg
  have h3 := (findG_eq (canG g)).2.2
  have h4 : findG (canG g) = some (rngI (canG g).nodes.length, _) := find_id fun q hq => by
    rw [hl] at hq ⊢
    have := h3 q (by rw [hl]; exact hq)
    rw [h1, ← h2]
    rw [hl] at this
    exact this
  unfold ordG
  rw [h4, hl]
theorem canG_can : canG (canG g) = canG g := by
  have hl := (canG_len hg).1
  show cgr (canG g) (ordG (canG g)) = cgr g (ordG g)
  rw [canG_ord hg]
  exact cgr_of_code (n := g.nodes.length) (m := 0) (by simp) (findG_eq g).2.1.len (canG_id hg)
theorem canG_nodes : (canG g).nodes.Perm g.nodes := by
  have ho := (findG_eq g).2.1
  show ((ordG g).map (nN g)).Perm _
  refine (ho.prm.perm.map (nN g)).trans (List.Perm.of_eq ?_)
  refine List.ext_getElem? fun i => ?_
  rcases Nat.lt_or_ge i g.nodes.length with hi | hi
  · rw [List.getElem?_map, List.getElem?_map, List.getElem?_range hi]
    exact (nodeAt_get (i := (i : Int)) (by omega) (by omega)).symm
  · rw [List.getElem?_eq_none (by simp; omega), List.getElem?_eq_none (by omega)]
theorem canG_types : ((canG g).edges.map (·.ty)).Perm (g.edges.map (·.ty)) := by
  have := (cgr_perm hg (findG_eq g).2.1).map (·.ty)
  rw [List.map_map] at this
  exact this
end
theorem canG_of_code {g h : Gr} (hn : h.nodes.length = g.nodes.length) (e : codG g = codG h) : canG g = canG h := by
  refine cgr_of_code (n := g.nodes.length) (m := 0) (findG_eq g).2.1.len (by rw [← hn]; exact (findG_eq h).2.1.len) ?_
  have := e
  unfold codG at this
  rw [hn] at this
  exact this
theorem codG_nodes {g h : Gr} (e : codG g = codG h) : g.nodes.length = h.nodes.length := by
  unfold codG cd at e
  injection e with e1 _
  omega
/-- Graphs of different types have different codes. -/
theorem codG_diff {g h : Gr} (hg : GV g) (hh : GV h) (e : codG g = codG h) : g.nodes.Perm h.nodes ∧ (g.edges.map (·.ty)).Perm (h.edges.map (·.ty)) := by
  have h1 := canG_of_code (codG_nodes e).symm e
  refine ⟨(canG_nodes hg).symm.trans ?_, (canG_types hg).symm.trans ?_⟩
  · rw [h1]; exact canG_nodes hh
  · rw [h1]; exact canG_types hh
end Go.Sj.Can

/-
  Codes that are read: plain mathematics.
-/
namespace Go.Sj.Can
open Go.Sj Go.Sj.Sta
set_option linter.unusedVariables false
set_option linter.unusedSimpArgs false

def rdN (most : Int) : List Int → Option (Int × List Int)
  | [] => none
  | x :: r => if 0 ≤ x ∧ x ≤ most then some (x, r) else none
def rdT : Nat → Int → List Int → Option (List Int × List Int)
  | 0, _, l => some ([], l)
  | n + 1, last, l => match rdN 99 l with
    | none => none
    | some (x, r) => if x < last then none else match rdT n x r with
      | none => none
      | some (ts, r') => some (x :: ts, r')
def rdE (room : Int) (l : List Int) : Option (List Int × List Int) := match rdN room l with
  | none => none
  | some (n, r) => rdT n.toNat 0 r
abbrev Rd := Option (List Int × Gr)
def runE (s : Rd) (a b : Nat) : Rd := match s with
  | none => none
  | some (l, g) => match rdE (80 - (g.edges.length : Int)) l with
    | none => none
    | some (ts, r) => some (r, ⟨g.nodes, g.edges ++ ts.map fun t => ⟨t, a, b⟩⟩)
def runN (s : Rd) : Rd := match s with
  | none => none
  | some (l, g) => match rdN 99 l with
    | none => none
    | some (x, r) => some (r, ⟨g.nodes ++ [x], g.edges⟩)
def runS (s : Rd) (k : Nat) : Nat → Rd
  | 0 => s
  | j + 1 => runE (runE (runS s k j) j k) k j
def runP (s : Rd) : Nat → Rd
  | 0 => s
  | k + 1 => runE (runS (runN (runP s k)) k k) k k
def dec (c : List Int) : Option Gr := match rdN 8 c with
  | none => none
  | some (n, r) => match runP (some (r, ⟨[], []⟩)) n.toNat with
    | some ([], g) => some g
    | _ => none

theorem rdN_some {most : Int} {l r : List Int} {x : Int} (h : rdN most l = some (x, r)) : l = x :: r ∧ 0 ≤ x ∧ x ≤ most := by
  unfold rdN at h
  split at h
  · cases h
  · split at h
    · cases h; exact ⟨rfl, by assumption⟩
    · cases h
theorem rdT_some : ∀ {n : Nat} {last : Int} {l ts r : List Int}, rdT n last l = some (ts, r) → l = ts ++ r ∧ ts.length = n ∧ (∀ x ∈ ts, last ≤ x ∧ 0 ≤ x ∧ x ≤ 99) ∧ ts.Pairwise (· ≤ ·)
  | 0, last, l, ts, r, h => by
    unfold rdT at h
    cases h
    exact ⟨rfl, rfl, by simp, .nil⟩
  | n + 1, last, l, ts, r, h => by
    unfold rdT at h
    split at h
    · cases h
    · rename_i x r1 h1
      obtain ⟨rfl, h2⟩ := rdN_some h1
      split at h
      · cases h
      · rename_i h3
        split at h
        · cases h
        · rename_i ts' r' h4
          cases h
          obtain ⟨rfl, h5, h6, h7⟩ := rdT_some h4
          refine ⟨rfl, by simp [h5], fun y hy => ?_, List.pairwise_cons.2 ⟨fun y hy => (h6 y hy).1, h7⟩⟩
          rcases List.mem_cons.1 hy with rfl | hy
          · omega
          · have := h6 y hy; omega
theorem rdE_some {room : Int} {l ts r : List Int} (h : rdE room l = some (ts, r)) : l = (ts.length : Int) :: (ts ++ r) ∧ (ts.length : Int) ≤ room ∧ (∀ x ∈ ts, 0 ≤ x ∧ x ≤ 99) ∧ ts.Pairwise (· ≤ ·) := by
  unfold rdE at h
  split at h
  · cases h
  · rename_i n r1 h1
    obtain ⟨rfl, h2⟩ := rdN_some h1
    obtain ⟨rfl, h5, h6, h7⟩ := rdT_some h
    refine ⟨?_, by omega, fun x hx => (h6 x hx).2, h7⟩
    rw [h5]
    congr 1
    omega

/-! What was read. -/
abbrev It := Nat ⊕ (Nat × Nat)
def itC (g : Gr) : It → List Int
  | .inl k => [nN g k]
  | .inr (a, b) => tT g a b
structure RI (c : List Int) (n0 : Int) (its : List It) (l : List Int) (g : Gr) : Prop where
  code : c = n0 :: (its.flatMap (itC g) ++ l)
  nodes : ∀ x ∈ g.nodes, 0 ≤ x ∧ x ≤ 99
  types : ∀ e ∈ g.edges, 0 ≤ e.ty ∧ e.ty ≤ 99
  ends : ∀ e ∈ g.edges, ∃ a b : Nat, e.fr = a ∧ e.to = b ∧ .inr (a, b) ∈ its
  srt : ∀ a b : Int, (nodesOf g a b).Pairwise (· ≤ ·)
  cap : g.edges.length ≤ 80
  nds : ∀ k, .inl k ∈ its → k < g.nodes.length
theorem RI.zero (n0 : Int) (l : List Int) : RI (n0 :: l) n0 [] l ⟨[], []⟩ := ⟨rfl, by simp, by simp, by simp, fun a b => by simp [nodesOf], by simp, by simp⟩
theorem nodesOf_add (g : Gr) (ts : List Int) (a b : Nat) (x y : Int) : nodesOf ⟨g.nodes, g.edges ++ ts.map fun t => ⟨t, a, b⟩⟩ x y = nodesOf g x y ++ if x = a ∧ y = b then ts else [] := by
  unfold nodesOf
  simp only [List.filter_append, List.map_append]
  congr 1
  by_cases h : x = a ∧ y = b
  · rw [if_pos h]
    have : (ts.map fun t => (⟨t, a, b⟩ : Ed)).filter (isE x y) = ts.map fun t => ⟨t, a, b⟩ := List.filter_eq_self.2 fun e he => by
      obtain ⟨t, _, rfl⟩ := List.mem_map.1 he
      simp [isE, h.1, h.2]
    rw [this, List.map_map]
    exact List.map_id' ts
  · rw [if_neg h]
    have : (ts.map fun t => (⟨t, a, b⟩ : Ed)).filter (isE x y) = [] := List.filter_eq_nil_iff.2 fun e he => by
      obtain ⟨t, _, rfl⟩ := List.mem_map.1 he
      unfold isE
      simp only [Bool.and_eq_true, decide_eq_true_eq]
      exact fun hh => h ⟨hh.1.symm, hh.2.symm⟩
    rw [this]
    rfl
theorem tl_of_sorted {g : Gr} {a b : Int} {ts : List Int} (h : nodesOf g a b = ts) (hs : ts.Pairwise (· ≤ ·)) : tl g a b = ts :=
  List.Perm.eq_of_pairwise (le := (· ≤ ·)) (fun a b _ _ h1 h2 => Int.le_antisymm h1 h2) (tl_sorted g a b) hs (by rw [← h]; exact tl_perm g a b)
theorem tT_congr {g h : Gr} {a b : Int} (e : nodesOf g a b = nodesOf h a b) : tT g a b = tT h a b := by
  unfold tT
  rw [tl_ext (List.Perm.of_eq e)]
theorem runE_ri {c : List Int} {n0 : Int} {its : List It} {l l' : List Int} {g g' : Gr} {a b : Nat} (h : RI c n0 its l g) (hn : .inr (a, b) ∉ its) (hr : runE (some (l, g)) a b = some (l', g')) :
    RI c n0 (its ++ [.inr (a, b)]) l' g' ∧ g'.nodes = g.nodes := by
  unfold runE at hr
  simp only at hr
  split at hr
  · cases hr
  · rename_i ts r h1
    cases hr
    obtain ⟨h2, h3, h4, h5⟩ := rdE_some h1
    have hab : nodesOf g a b = [] := by
      unfold nodesOf
      rw [List.map_eq_nil_iff, List.filter_eq_nil_iff]
      intro e he
      obtain ⟨x, y, e1, e2, e3⟩ := h.ends e he
      unfold isE
      simp only [Bool.and_eq_true, decide_eq_true_eq]
      intro hh
      rw [e1, e2] at hh
      have : x = a := by omega
      have : y = b := by omega
      subst_vars
      exact hn e3
    have hnew : nodesOf ⟨g.nodes, g.edges ++ ts.map fun t => ⟨t, a, b⟩⟩ a b = ts := by rw [nodesOf_add, hab, if_pos ⟨rfl, rfl⟩]; rfl
    have hold : ∀ it ∈ its, itC ⟨g.nodes, g.edges ++ ts.map fun t => ⟨t, a, b⟩⟩ it = itC g it := fun it hit => by
      cases it with
      | inl k => rfl
      | inr p =>
        obtain ⟨x, y⟩ := p
        refine tT_congr ?_
        rw [nodesOf_add, if_neg, List.append_nil]
        intro hh
        have : x = a := by omega
        have : y = b := by omega
        subst_vars
        exact hn hit
    refine ⟨⟨?_, h.nodes, fun e he => ?_, fun e he => ?_, fun x y => ?_, ?_, fun k hk => ?_⟩, rfl⟩
    · rw [h.code, List.flatMap_append]
      congr 1
      rw [List.append_assoc]
      congr 1
      · simp only [List.flatMap]
        congr 1
        exact List.map_congr_left fun it hit => (hold it hit).symm
      · rw [h2]
        simp only [List.flatMap_cons, List.flatMap_nil, List.append_nil, itC]
        unfold tT
        rw [tl_of_sorted hnew h5]
        rfl
    · rcases List.mem_append.1 he with he | he
      · exact h.types e he
      · obtain ⟨t, ht, rfl⟩ := List.mem_map.1 he
        exact h4 t ht
    · rcases List.mem_append.1 he with he | he
      · obtain ⟨x, y, e1, e2, e3⟩ := h.ends e he
        exact ⟨x, y, e1, e2, List.mem_append_left _ e3⟩
      · obtain ⟨t, ht, rfl⟩ := List.mem_map.1 he
        exact ⟨a, b, rfl, rfl, by simp⟩
    · rw [nodesOf_add]
      by_cases hq : x = a ∧ y = b
      · obtain ⟨rfl, rfl⟩ := hq
        rw [hab, if_pos ⟨rfl, rfl⟩]
        exact h5
      · rw [if_neg hq, List.append_nil]
        exact h.srt x y
    · simp only [List.length_append, List.length_map]
      omega
    · rcases List.mem_append.1 hk with hk | hk
      · exact h.nds k hk
      · simp at hk
theorem runN_ri {c : List Int} {n0 : Int} {its : List It} {l l' : List Int} {g g' : Gr} (h : RI c n0 its l g) (hr : runN (some (l, g)) = some (l', g')) :
    RI c n0 (its ++ [.inl g.nodes.length]) l' g' ∧ g'.nodes.length = g.nodes.length + 1 := by
  unfold runN at hr
  simp only at hr
  split at hr
  · cases hr
  · rename_i x r h1
    cases hr
    obtain ⟨h2, h3⟩ := rdN_some h1
    have hold : ∀ it ∈ its, itC ⟨g.nodes ++ [x], g.edges⟩ it = itC g it := fun it hit => by
      cases it with
      | inl k =>
        have := h.nds k hit
        unfold itC nN nodeAt
        simp only
        rw [Int.toNat_natCast, List.getD_eq_getElem?_getD, List.getD_eq_getElem?_getD, List.getElem?_append_left this]
      | inr p => rfl
    refine ⟨⟨?_, fun y hy => ?_, h.types, fun e he => ?_, h.srt, h.cap, fun k hk => ?_⟩, by simp⟩
    · rw [h.code, List.flatMap_append]
      congr 1
      rw [List.append_assoc]
      congr 1
      · simp only [List.flatMap]
        congr 1
        exact List.map_congr_left fun it hit => (hold it hit).symm
      · rw [h2]
        simp only [List.flatMap_cons, List.flatMap_nil, List.append_nil, itC]
        unfold nN nodeAt
        simp
    · rcases List.mem_append.1 hy with hy | hy
      · exact h.nodes y hy
      · rw [List.mem_singleton] at hy; subst hy; exact h3
    · obtain ⟨a, b, e1, e2, e3⟩ := h.ends e he
      exact ⟨a, b, e1, e2, List.mem_append_left _ e3⟩
    · rw [List.length_append, List.length_singleton]
      rcases List.mem_append.1 hk with hk | hk
      · have := h.nds k hk; omega
      · rw [List.mem_singleton] at hk
        cases hk
        omega
def itS (k : Nat) : Nat → List It
  | 0 => []
  | j + 1 => itS k j ++ [.inr (j, k)] ++ [.inr (k, j)]
def itP : Nat → List It
  | 0 => []
  | k + 1 => itP k ++ [.inl k] ++ itS k k ++ [.inr (k, k)]
theorem itS_mem {k a b : Nat} : ∀ {j : Nat}, .inr (a, b) ∈ itS k j → a < j ∧ b = k ∨ a = k ∧ b < j
  | 0, h => by simp [itS] at h
  | j + 1, h => by
    unfold itS at h
    rw [List.append_assoc] at h
    rcases List.mem_append.1 h with h | h
    · have := itS_mem h; omega
    · simp at h; omega
theorem itP_mem {a b : Nat} : ∀ {k : Nat}, .inr (a, b) ∈ itP k → a < k ∧ b < k
  | 0, h => by simp [itP] at h
  | k + 1, h => by
    unfold itP at h
    rcases List.mem_append.1 h with h | h
    · rcases List.mem_append.1 h with h | h
      · rcases List.mem_append.1 h with h | h
        · have := itP_mem h; omega
        · simp at h
      · have := itS_mem h; omega
    · simp at h; omega
theorem runE_none (a b : Nat) : runE none a b = none := rfl
theorem runS_ri {c : List Int} {n0 : Int} {l : List Int} {g : Gr} {k : Nat} (h : RI c n0 (itP k ++ [.inl k]) l g) : ∀ {j : Nat} {l' : List Int} {g' : Gr}, j ≤ k → runS (some (l, g)) k j = some (l', g') → RI c n0 (itP k ++ [.inl k] ++ itS k j) l' g' ∧ g'.nodes = g.nodes
  | 0, l', g', _, hr => by
    cases hr
    rw [itS, List.append_nil]
    exact ⟨h, rfl⟩
  | j + 1, l', g', hj, hr => by
    unfold runS at hr
    cases h1 : runS (some (l, g)) k j with
    | none => rw [h1, runE_none, runE_none] at hr; cases hr
    | some s1 =>
      obtain ⟨l1, g1⟩ := s1
      obtain ⟨i1, n1⟩ := runS_ri h (by omega) h1
      rw [h1] at hr
      cases h2 : runE (some (l1, g1)) j k with
      | none => rw [h2, runE_none] at hr; cases hr
      | some s2 =>
        obtain ⟨l2, g2⟩ := s2
        obtain ⟨i2, n2⟩ := runE_ri i1 (fun hm => by
          rcases List.mem_append.1 hm with hm | hm
          · rcases List.mem_append.1 hm with hm | hm
            · have := itP_mem hm; omega
            · simp at hm
          · have := itS_mem hm; omega) h2
        rw [h2] at hr
        obtain ⟨i3, n3⟩ := runE_ri i2 (fun hm => by
          rcases List.mem_append.1 hm with hm | hm
          · rcases List.mem_append.1 hm with hm | hm
            · rcases List.mem_append.1 hm with hm | hm
              · have := itP_mem hm; omega
              · simp at hm
            · have := itS_mem hm; omega
          · simp at hm; omega) hr
        refine ⟨?_, by rw [n3, n2, n1]⟩
        rw [itS, ← List.append_assoc, ← List.append_assoc]
        exact i3
theorem runS_none (k : Nat) : ∀ j, runS none k j = none
  | 0 => rfl
  | j + 1 => by rw [runS, runS_none k j]; rfl
theorem runP_ri {c : List Int} {n0 : Int} {l : List Int} (h : RI c n0 [] l ⟨[], []⟩) : ∀ {k : Nat} {l' : List Int} {g' : Gr}, runP (some (l, ⟨[], []⟩)) k = some (l', g') → RI c n0 (itP k) l' g' ∧ g'.nodes.length = k
  | 0, l', g', hr => by cases hr; exact ⟨h, rfl⟩
  | k + 1, l', g', hr => by
    unfold runP at hr
    cases h1 : runP (some (l, ⟨[], []⟩)) k with
    | none => rw [h1, show runN none = none from rfl, runS_none, runE_none] at hr; cases hr
    | some s1 =>
      obtain ⟨l1, g1⟩ := s1
      obtain ⟨i1, n1⟩ := runP_ri h h1
      rw [h1] at hr
      cases h2 : runN (some (l1, g1)) with
      | none => rw [h2, runS_none, runE_none] at hr; cases hr
      | some s2 =>
        obtain ⟨l2, g2⟩ := s2
        obtain ⟨i2, n2⟩ := runN_ri i1 h2
        rw [n1] at i2 n2
        rw [h2] at hr
        cases h3 : runS (some (l2, g2)) k k with
        | none => rw [h3, runE_none] at hr; cases hr
        | some s3 =>
          obtain ⟨l3, g3⟩ := s3
          obtain ⟨i3, n3⟩ := runS_ri i2 (Nat.le_refl _) h3
          rw [h3] at hr
          obtain ⟨i4, n4⟩ := runE_ri i3 (fun hm => by
            rcases List.mem_append.1 hm with hm | hm
            · rcases List.mem_append.1 hm with hm | hm
              · have := itP_mem hm; omega
              · simp at hm
            · have := itS_mem hm; omega) hr
          exact ⟨i4, by rw [n4, n3, n2]⟩
theorem itS_flat (g : Gr) (k : Nat) : ∀ j, (itS k j).flatMap (itC g) = (rngI j).flatMap fun (q : Int) => tT g q k ++ tT g k q
  | 0 => rfl
  | j + 1 => by rw [itS, rngI_succ, List.flatMap_append, List.flatMap_append, List.flatMap_append, itS_flat g k j]; simp [itC]
theorem itP_flat (g : Gr) : ∀ k, (itP k).flatMap (itC g) = cdF (nN g) (tT g) [] (rngI k)
  | 0 => rfl
  | k + 1 => by
    rw [itP, rngI_succ, cdF_append, List.flatMap_append, List.flatMap_append, List.flatMap_append, itP_flat g k, itS_flat g k k]
    simp [itC, cdF, pc]
/-- What a code that is read says. -/
theorem dec_some {c : List Int} {g : Gr} (h : dec c = some g) : GV g ∧ g.nodes.length ≤ 8 ∧ (∀ a b : Int, Srt (tyI g) (rawK g a b g.edges.length)) ∧ cd (nN g) (tT g) g.nodes.length (rngI g.nodes.length) = c := by
  unfold dec at h
  split at h
  · cases h
  · rename_i n r h1
    obtain ⟨rfl, h2⟩ := rdN_some h1
    split at h
    · rename_i g' h3
      cases h
      obtain ⟨i, hn⟩ := runP_ri (RI.zero n r) h3
      refine ⟨⟨by omega, i.cap, i.nodes, fun e he => ⟨i.types e he, ?_⟩⟩, by omega, fun a b => ?_, ?_⟩
      · obtain ⟨a, b, e1, e2, e3⟩ := i.ends e he
        have := itP_mem e3
        omega
      · have h4 := i.srt a b
        have h5 := rawK_map g a b g.edges.length (Nat.le_refl _)
        rw [List.take_length] at h5
        unfold nodesOf at h4
        rw [← h5, List.pairwise_map] at h4
        exact h4
      · rw [i.code, List.append_nil, itP_flat, ← hn]
        unfold cd
        congr 1
        omega
    · cases h
end Go.Sj.Can
