/-
  Parts of the proof of the law IncrementalOpposite (texts W52, M27): steps, plain mathematics, contracts of functions. Each theorem states its own conditions.
-/
import Derived.Test.YtddohheabpiljaaGreatB09
import Derived.Test.YtddohheabpiljaaGreatB12
import Derived.Test.YtddohheabpiljaaGreatB25
import Derived.Test.YtddohheabpiljaaGreatB37
section
/-
  Watches: equal matches and watches (reference), New of the reference. Conditions: small type graphs.
-/
namespace Go.Proofs.YtddohheabpiljaaGreat
open Go.Sj Go.Sj.Typ Go.Sj.Sta Go.Sj.Inc
set_option maxRecDepth 8000
set_option linter.unusedVariables false
set_option linter.unusedSimpArgs false
set_option maxHeartbeats 16000000

def MoB (m : Mo) : Prop := m.1.length ≤ 1000000 ∧ m.2.length ≤ 1000000
theorem take_nextE {A : Type} {a b : List A} {k : Nat} {x : A} (h1 : a[k]? = some x) (h2 : b[k]? = some x) (he : a.take k = b.take k) : a.take (k + 1) = b.take (k + 1) := by
  rw [List.take_add_one, List.take_add_one, h1, h2, he]
end Go.Proofs.YtddohheabpiljaaGreat

end
section
/-
  Codes of graphs in orders, the search for the least one: plain mathematics.
-/
namespace Go.Sj.Can
open Go.Sj Go.Sj.Sta
set_option maxRecDepth 8000
set_option linter.unusedVariables false
set_option linter.unusedSimpArgs false

/-! Lists, compared. -/
def cmpI (x y : Int) : Int := if x < y then -1 else if y < x then 1 else 0
def cmpL : List Int → List Int → Int
  | [], [] => 0
  | [], _ :: _ => -1
  | _ :: _, [] => 1
  | x :: xs, y :: ys => if cmpI x y ≠ 0 then cmpI x y else cmpL xs ys
theorem cmpI_zero {x y : Int} : cmpI x y = 0 ↔ x = y := by
  unfold cmpI
  repeat' split
  all_goals omega
theorem cmpL_self : ∀ a : List Int, cmpL a a = 0
  | [] => rfl
  | x :: a => by rw [cmpL, if_neg (by rw [cmpI_zero.2 rfl]; decide), cmpL_self a]
theorem cmpL_eq : ∀ {a b : List Int}, cmpL a b = 0 → a = b
  | [], [], _ => rfl
  | [], _ :: _, h => by cases h
  | _ :: _, [], h => by cases h
  | x :: a, y :: b, h => by
    rw [cmpL] at h
    split at h
    · contradiction
    · rename_i h1
      rw [cmpI_zero.1 (Decidable.not_not.1 h1), cmpL_eq h]
/-! Orders. -/
structure Po (n : Nat) (p : List Int) : Prop where
  nd : p.Nodup
  rng : ∀ x ∈ p, 0 ≤ x ∧ x < n
theorem Po.nil (n : Nat) : Po n [] := ⟨List.nodup_nil, by simp⟩
theorem Po.left {n : Nat} {p q : List Int} (h : Po n (p ++ q)) : Po n p := ⟨(List.nodup_append.1 h.nd).1, fun x hx => h.rng x (List.mem_append_left _ hx)⟩
theorem Po.len : ∀ {n : Nat} {p : List Int}, Po n p → p.length ≤ n
  | 0, p, h => by
    cases p with
    | nil => simp
    | cons x p => have := h.rng x (by simp); omega
  | n + 1, p, h => by
    have h1 : Po n (p.erase n) := ⟨h.nd.erase _, fun x hx => by
      have h2 := h.rng x (List.mem_of_mem_erase hx)
      have h3 : x ≠ n := fun e => by subst e; exact (List.Nodup.not_mem_erase h.nd) hx
      omega⟩
    have h2 := Po.len h1
    have h3 := List.length_erase (a := (n : Int)) (l := p)
    split at h3 <;> omega
theorem Po.id (n : Nat) : Po n (rngI n) := ⟨rngI_nodup n, fun x hx => by
  obtain ⟨i, hi, rfl⟩ := List.mem_map.1 hx
  have := List.mem_range.1 hi
  omega⟩

section
variable (N : Int → Int) (T : Int → Int → List Int)
/-- What a code says about a place, after other places. -/
def pc (p : List Int) (v : Int) : List Int := N v :: ((p.flatMap fun j => T j v ++ T v j) ++ T v v)
def cdF : List Int → List Int → List Int
  | _, [] => []
  | p, v :: r => pc N T p v ++ cdF (p ++ [v]) r
def cd (n : Nat) (o : List Int) : List Int := (n : Int) :: cdF N T [] o
variable {N T}
end

/-! Nodes that can be exchanged. -/
def sw (u v x : Int) : Int := if x = u then v else if x = v then u else x
theorem sw_rng {n : Nat} {u v x : Int} (hu : 0 ≤ u ∧ u < n) (hv : 0 ≤ v ∧ v < n) (hx : 0 ≤ x ∧ x < n) : 0 ≤ sw u v x ∧ sw u v x < n := by
  unfold sw
  repeat' split
  all_goals omega
section
variable (N : Int → Int) (T : Int → Int → List Int) (n : Nat)
structure Tw (u v : Int) : Prop where
  nd : N u = N v
  lp : T u u = T v v
  ex : T u v = T v u
  ot : ∀ w : Nat, w < n → (w : Int) ≠ u → (w : Int) ≠ v → T u w = T v w ∧ T w u = T w v
def twB (u v : Int) : Bool := decide (N u = N v) && decide (T u u = T v v) && decide (T u v = T v u) && (List.range n).all fun w => decide ((w : Int) = u) || decide ((w : Int) = v) || (decide (T u w = T v w) && decide (T w u = T w v))
structure Inv (f : Int → Int) : Prop where
  nd : ∀ x : Int, 0 ≤ x ∧ x < n → N (f x) = N x
  ed : ∀ x y : Int, 0 ≤ x ∧ x < n → 0 ≤ y ∧ y < n → T (f x) (f y) = T x y
variable {N T n}
theorem Tw.inv {u v : Int} (h : Tw N T n u v) : Inv N T n (sw u v) := by
  have ot : ∀ w : Int, 0 ≤ w ∧ w < n → w ≠ u → w ≠ v → T u w = T v w ∧ T w u = T w v := fun w hw h1 h2 => by
    obtain ⟨k, rfl⟩ : ∃ k : Nat, w = k := ⟨w.toNat, by omega⟩
    exact h.ot k (by omega) h1 h2
  refine ⟨fun x hx => ?_, fun x y hx hy => ?_⟩
  · unfold sw
    by_cases e1 : x = u
    · subst e1; rw [if_pos rfl, h.nd]
    · rw [if_neg e1]
      by_cases e2 : x = v
      · subst e2; rw [if_pos rfl, h.nd]
      · rw [if_neg e2]
  · have a1 := h.lp
    have a2 := h.ex
    have bx := ot x hx
    have by' := ot y hy
    unfold sw
    by_cases e1 : x = u
    · subst e1
      rw [if_pos rfl]
      by_cases e3 : y = x
      · subst e3; rw [if_pos rfl, h.lp]
      · rw [if_neg e3]
        by_cases e4 : y = v
        · subst e4; rw [if_pos rfl, h.ex]
        · rw [if_neg e4, (ot y hy e3 e4).1]
    · rw [if_neg e1]
      by_cases e2 : x = v
      · subst e2
        rw [if_pos rfl]
        by_cases e3 : y = u
        · subst e3; rw [if_pos rfl, h.ex]
        · rw [if_neg e3]
          by_cases e4 : y = x
          · subst e4; rw [if_pos rfl, h.lp]
          · rw [if_neg e4, (ot y hy e3 e4).1]
      · rw [if_neg e2]
        by_cases e3 : y = u
        · subst e3; rw [if_pos rfl, (ot x hx e1 e2).2]
        · rw [if_neg e3]
          by_cases e4 : y = v
          · subst e4; rw [if_pos rfl, (ot x hx e1 e2).2]
          · rw [if_neg e4]
theorem Inv.tw {u v : Int} (hu : 0 ≤ u ∧ u < n) (hv : 0 ≤ v ∧ v < n) (h : Inv N T n (sw u v)) : Tw N T n u v := by
  have su : sw u v u = v := by simp [sw]
  have sv : sw u v v = u := by
    unfold sw
    split
    · assumption
    · simp
  have so : ∀ w, w ≠ u → w ≠ v → sw u v w = w := fun w h1 h2 => by simp [sw, h1, h2]
  refine ⟨?_, ?_, ?_, fun w hw h1 h2 => ⟨?_, ?_⟩⟩
  · have := h.nd v hv; rw [sv] at this; exact this
  · have := h.ed v v hv hv; rw [sv] at this; exact this
  · have := h.ed v u hv hu; rw [sv, su] at this; exact this
  · have := h.ed v w hv (by omega); rw [sv, so _ h1 h2] at this; exact this
  · have := h.ed w v (by omega) hv; rw [sv, so _ h1 h2] at this; exact this
theorem Inv.comp {f g : Int → Int} (hg : ∀ x : Int, 0 ≤ x ∧ x < n → 0 ≤ g x ∧ g x < n) (h : Inv N T n f) (k : Inv N T n g) : Inv N T n (fun x => f (g x)) :=
  ⟨fun x hx => by rw [h.nd _ (hg x hx), k.nd x hx], fun x y hx hy => by rw [h.ed _ _ (hg x hx) (hg y hy), k.ed x y hx hy]⟩
theorem Tw.trans {u v w : Int} (hu : 0 ≤ u ∧ u < n) (hv : 0 ≤ v ∧ v < n) (hw : 0 ≤ w ∧ w < n) (h1 : u ≠ v) (h2 : v ≠ w) (h3 : u ≠ w) (h : Tw N T n u v) (k : Tw N T n v w) : Tw N T n u w := by
  refine Inv.tw hu hw ?_
  have r1 : ∀ x : Int, 0 ≤ x ∧ x < n → 0 ≤ sw u v x ∧ sw u v x < n := fun x hx => sw_rng hu hv hx
  have r2 : ∀ x : Int, 0 ≤ x ∧ x < n → 0 ≤ sw v w (sw u v x) ∧ sw v w (sw u v x) < n := fun x hx => sw_rng hv hw (r1 x hx)
  have := Inv.comp r2 h.inv (Inv.comp r1 k.inv h.inv)
  have e : (fun x => sw u v (sw v w (sw u v x))) = sw u w := by
    funext x
    unfold sw
    by_cases a : x = u
    · subst a; simp [h2, h3, Ne.symm h1, Ne.symm h2, Ne.symm h3]
    · by_cases b : x = v
      · subst b; simp [h1, h3, Ne.symm h1, h2]
      · by_cases c : x = w
        · subst c; simp [a, b, h1]
        · simp [a, b, c]
  rw [← e]
  exact this
end

/-! The search. -/
section
variable (N : Int → Int) (T : Int → Int → List Int) (n : Nat)
abbrev Bst := Option (List Int × List Int)
def worse (s : Bst) (c : List Int) : Bool := match s with
  | none => false
  | some (_, d) => decide (0 < cmpL c (d.take c.length))
def leaf (s : Bst) (p c : List Int) : Bst := match s with
  | none => some (p, c)
  | some (o, d) => if cmpL c d < 0 then some (p, c) else some (o, d)
def opn (N : Int → Int) (T : Int → Int → List Int) (n : Nat) (p : List Int) (v : Nat) : Bool := !decide ((v : Int) ∈ p) && !((List.range v).any fun u => !decide ((u : Int) ∈ p) && twB N T n u v)
def srch : Nat → List Int → Bst → Bst
  | 0, p, s => if worse s (cd N T n p) = true then s else leaf s p (cd N T n p)
  | m + 1, p, s => if worse s (cd N T n p) = true then s else ((List.range n).filter (opn N T n p)).foldl (fun s (v : Nat) => srch m (p ++ [(v : Int)]) s) s
def find : Bst := srch N T n n [] none
variable {N T n}
structure Cpl (n : Nat) (o : List Int) : Prop where
  po : Po n o
  len : o.length = n
def Good (N : Int → Int) (T : Int → Int → List Int) (n : Nat) (s : Bst) : Prop := ∀ o c, s = some (o, c) → Cpl n o ∧ c = cd N T n o
theorem Good.none : Good N T n none := fun _ _ h => by cases h
theorem Cpl.id (n : Nat) : Cpl n (rngI n) := ⟨Po.id n, by simp⟩
end
end Go.Sj.Can

end
