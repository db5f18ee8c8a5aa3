/- Parts of a proof. -/
import Derived.Test.YtddohheabpiljaaGreatU27
set_option linter.unusedVariables false
set_option linter.unusedSimpArgs false
section
namespace Go.Sj.Can
open Go.Sj Go.Sj.Sta
set_option maxRecDepth 8000
def cmpI (x y : Int) : Int := if x < y then -1 else if y < x then 1 else 0
def cmpL : List Int → List Int → Int
  | [], [] => 0
  | [], _ :: _ => -1
  | _ :: _, [] => 1
  | x :: xs, y :: ys => if cmpI x y ≠ 0 then cmpI x y else cmpL xs ys
theorem cmpI_zero {x y : Int} : cmpI x y = 0 ↔ x = y := by
  unfold cmpI
  repeat' split
  all_goals omega
theorem cmpI_anti (x y : Int) : cmpI y x = - cmpI x y := by
  unfold cmpI
  repeat' split
  all_goals omega
theorem cmpI_lt {x y : Int} : cmpI x y < 0 ↔ x < y := by
  unfold cmpI
  repeat' split
  all_goals omega
theorem cmpL_self : ∀ a : List Int, cmpL a a = 0
  | [] => rfl
  | x :: a => by rw [cmpL, if_neg (by rw [cmpI_zero.2 rfl]; decide), cmpL_self a]
theorem cmpL_eq : ∀ {a b : List Int}, cmpL a b = 0 → a = b
  | [], [], _ => rfl
  | [], _ :: _, h => by cases h
  | _ :: _, [], h => by cases h
  | x :: a, y :: b, h => by
    rw [cmpL] at h
    split at h
    · contradiction
    · rename_i h1
      rw [cmpI_zero.1 (Decidable.not_not.1 h1), cmpL_eq h]
theorem cmpL_anti : ∀ a b : List Int, cmpL b a = - cmpL a b
  | [], [] => rfl
  | [], _ :: _ => rfl
  | _ :: _, [] => rfl
  | x :: a, y :: b => by
    rw [cmpL, cmpL, cmpI_anti x y, cmpL_anti a b]
    split <;> split <;> omega
theorem cmpL_trans : ∀ {a b c : List Int}, cmpL a b ≤ 0 → cmpL b c ≤ 0 → cmpL a c ≤ 0
  | [], b, [], _, _ => by decide
  | [], b, _ :: _, _, _ => by rw [cmpL]; decide
  | x :: a, [], c, h, _ => by rw [cmpL] at h; exact absurd h (by decide)
  | x :: a, y :: b, [], _, h => by rw [cmpL] at h; exact absurd h (by decide)
  | x :: a, y :: b, z :: c, h, k => by
    have ih := @cmpL_trans a b c
    rw [cmpL] at h k ⊢
    unfold cmpI at *
    repeat' split at h
    all_goals repeat' split at k
    all_goals repeat' split
    all_goals first | omega | (exact ih h k) | skip
structure Po (n : Nat) (p : List Int) : Prop where
  nd : p.Nodup
  rng : ∀ x ∈ p, 0 ≤ x ∧ x < n
theorem Po.nil (n : Nat) : Po n [] := ⟨List.nodup_nil, by simp⟩
theorem Po.left {n : Nat} {p q : List Int} (h : Po n (p ++ q)) : Po n p := ⟨(List.nodup_append.1 h.nd).1, fun x hx => h.rng x (List.mem_append_left _ hx)⟩
theorem Po.len : ∀ {n : Nat} {p : List Int}, Po n p → p.length ≤ n
  | 0, p, h => by
    cases p with
    | nil => simp
    | cons x p => have := h.rng x (by simp); omega
  | n + 1, p, h => by
    have h1 : Po n (p.erase n) := ⟨h.nd.erase _, fun x hx => by
      have h2 := h.rng x (List.mem_of_mem_erase hx)
      have h3 : x ≠ n := fun e => by subst e; exact (List.Nodup.not_mem_erase h.nd) hx
      omega⟩
    have h2 := Po.len h1
    have h3 := List.length_erase (a := (n : Int)) (l := p)
    split at h3 <;> omega
theorem Po.id (n : Nat) : Po n (rngI n) := ⟨rngI_nodup n, fun x hx => by
  obtain ⟨i, hi, rfl⟩ := List.mem_map.1 hx
  have := List.mem_range.1 hi
  omega⟩
section
variable (N : Int → Int) (T : Int → Int → List Int)
def pc (p : List Int) (v : Int) : List Int := N v :: ((p.flatMap fun j => T j v ++ T v j) ++ T v v)
def cdF : List Int → List Int → List Int
  | _, [] => []
  | p, v :: r => pc N T p v ++ cdF (p ++ [v]) r
def cd (n : Nat) (o : List Int) : List Int := (n : Int) :: cdF N T [] o
variable {N T}
end
def sw (u v x : Int) : Int := if x = u then v else if x = v then u else x
theorem sw_rng {n : Nat} {u v x : Int} (hu : 0 ≤ u ∧ u < n) (hv : 0 ≤ v ∧ v < n) (hx : 0 ≤ x ∧ x < n) : 0 ≤ sw u v x ∧ sw u v x < n := by
  unfold sw
  repeat' split
  all_goals omega
section
variable (N : Int → Int) (T : Int → Int → List Int) (n : Nat)
structure Tw (u v : Int) : Prop where
  nd : N u = N v
  lp : T u u = T v v
  ex : T u v = T v u
  ot : ∀ w : Nat, w < n → (w : Int) ≠ u → (w : Int) ≠ v → T u w = T v w ∧ T w u = T w v
def twB (u v : Int) : Bool := decide (N u = N v) && decide (T u u = T v v) && decide (T u v = T v u) && (List.range n).all fun w => decide ((w : Int) = u) || decide ((w : Int) = v) || (decide (T u w = T v w) && decide (T w u = T w v))
structure Inv (f : Int → Int) : Prop where
  nd : ∀ x : Int, 0 ≤ x ∧ x < n → N (f x) = N x
  ed : ∀ x y : Int, 0 ≤ x ∧ x < n → 0 ≤ y ∧ y < n → T (f x) (f y) = T x y
variable {N T n}
theorem Tw.inv {u v : Int} (h : Tw N T n u v) : Inv N T n (sw u v) := by
  have ot : ∀ w : Int, 0 ≤ w ∧ w < n → w ≠ u → w ≠ v → T u w = T v w ∧ T w u = T w v := fun w hw h1 h2 => by
    obtain ⟨k, rfl⟩ : ∃ k : Nat, w = k := ⟨w.toNat, by omega⟩
    exact h.ot k (by omega) h1 h2
  refine ⟨fun x hx => ?_, fun x y hx hy => ?_⟩
  · unfold sw
    by_cases e1 : x = u
    · subst e1; rw [if_pos rfl, h.nd]
    · rw [if_neg e1]
      by_cases e2 : x = v
      · subst e2; rw [if_pos rfl, h.nd]
      · rw [if_neg e2]
  · have a1 := h.lp
    have a2 := h.ex
    have bx := ot x hx
    have by' := ot y hy
    unfold sw
    by_cases e1 : x = u
    · subst e1
      rw [if_pos rfl]
      by_cases e3 : y = x
      · subst e3; rw [if_pos rfl, h.lp]
      · rw [if_neg e3]
        by_cases e4 : y = v
        · subst e4; rw [if_pos rfl, h.ex]
        · rw [if_neg e4, (ot y hy e3 e4).1]
    · rw [if_neg e1]
      by_cases e2 : x = v
      · subst e2
        rw [if_pos rfl]
        by_cases e3 : y = u
        · subst e3; rw [if_pos rfl, h.ex]
        · rw [if_neg e3]
          by_cases e4 : y = x
          · subst e4; rw [if_pos rfl, h.lp]
          · rw [if_neg e4, (ot y hy e3 e4).1]
      · rw [if_neg e2]
        by_cases e3 : y = u
        · subst e3; rw [if_pos rfl, (ot x hx e1 e2).2]
        · rw [if_neg e3]
          by_cases e4 : y = v
          · subst e4; rw [if_pos rfl, (ot x hx e1 e2).2]
          · rw [if_neg e4]
theorem Inv.tw {u v : Int} (hu : 0 ≤ u ∧ u < n) (hv : 0 ≤ v ∧ v < n) (h : Inv N T n (sw u v)) : Tw N T n u v := by
  have su : sw u v u = v := by simp [sw]
  have sv : sw u v v = u := by
    unfold sw
    split
    · assumption
    · simp
  have so : ∀ w, w ≠ u → w ≠ v → sw u v w = w := fun w h1 h2 => by simp [sw, h1, h2]
  refine ⟨?_, ?_, ?_, fun w hw h1 h2 => ⟨?_, ?_⟩⟩
  · have := h.nd v hv; rw [sv] at this; exact this
  · have := h.ed v v hv hv; rw [sv] at this; exact this
  · have := h.ed v u hv hu; rw [sv, su] at this; exact this
  · have := h.ed v w hv (by omega); rw [sv, so _ h1 h2] at this; exact this
  · have := h.ed w v (by omega) hv; rw [sv, so _ h1 h2] at this; exact this
theorem Inv.comp {f g : Int → Int} (hg : ∀ x : Int, 0 ≤ x ∧ x < n → 0 ≤ g x ∧ g x < n) (h : Inv N T n f) (k : Inv N T n g) : Inv N T n (fun x => f (g x)) :=
  ⟨fun x hx => by rw [h.nd _ (hg x hx), k.nd x hx], fun x y hx hy => by rw [h.ed _ _ (hg x hx) (hg y hy), k.ed x y hx hy]⟩
theorem Tw.trans {u v w : Int} (hu : 0 ≤ u ∧ u < n) (hv : 0 ≤ v ∧ v < n) (hw : 0 ≤ w ∧ w < n) (h1 : u ≠ v) (h2 : v ≠ w) (h3 : u ≠ w) (h : Tw N T n u v) (k : Tw N T n v w) : Tw N T n u w := by
  refine Inv.tw hu hw ?_
  have r1 : ∀ x : Int, 0 ≤ x ∧ x < n → 0 ≤ sw u v x ∧ sw u v x < n := fun x hx => sw_rng hu hv hx
  have r2 : ∀ x : Int, 0 ≤ x ∧ x < n → 0 ≤ sw v w (sw u v x) ∧ sw v w (sw u v x) < n := fun x hx => sw_rng hv hw (r1 x hx)
  have := Inv.comp r2 h.inv (Inv.comp r1 k.inv h.inv)
  have e : (fun x => sw u v (sw v w (sw u v x))) = sw u w := by
    funext x
    unfold sw
    by_cases a : x = u
    · subst a; simp [h2, h3, Ne.symm h1, Ne.symm h2, Ne.symm h3]
    · by_cases b : x = v
      · subst b; simp [h1, h3, Ne.symm h1, h2]
      · by_cases c : x = w
        · subst c; simp [a, b, h1]
        · simp [a, b, c]
  rw [← e]
  exact this
end
section
variable (N : Int → Int) (T : Int → Int → List Int) (n : Nat)
abbrev Bst := Option (List Int × List Int)
def worse (s : Bst) (c : List Int) : Bool := match s with
  | none => false
  | some (_, d) => decide (0 < cmpL c (d.take c.length))
def leaf (s : Bst) (p c : List Int) : Bst := match s with
  | none => some (p, c)
  | some (o, d) => if cmpL c d < 0 then some (p, c) else some (o, d)
def opn (N : Int → Int) (T : Int → Int → List Int) (n : Nat) (p : List Int) (v : Nat) : Bool := !decide ((v : Int) ∈ p) && !((List.range v).any fun u => !decide ((u : Int) ∈ p) && twB N T n u v)
def srch : Nat → List Int → Bst → Bst
  | 0, p, s => if worse s (cd N T n p) = true then s else leaf s p (cd N T n p)
  | m + 1, p, s => if worse s (cd N T n p) = true then s else ((List.range n).filter (opn N T n p)).foldl (fun s (v : Nat) => srch m (p ++ [(v : Int)]) s) s
def find : Bst := srch N T n n [] none
variable {N T n}
structure Cpl (n : Nat) (o : List Int) : Prop where
  po : Po n o
  len : o.length = n
def Good (N : Int → Int) (T : Int → Int → List Int) (n : Nat) (s : Bst) : Prop := ∀ o c, s = some (o, c) → Cpl n o ∧ c = cd N T n o
theorem Good.none : Good N T n none := fun _ _ h => by cases h
theorem Cpl.id (n : Nat) : Cpl n (rngI n) := ⟨Po.id n, by simp⟩
end
end Go.Sj.Can
end
section
namespace Go.Sj.Can
open Go.Sj Go.Sj.Sta
set_option maxRecDepth 8000
section
variable (t : Int → Int)
def posF (l : List Int) (x : Int) : Nat → Nat
  | 0 => 0
  | j + 1 => if t x < t (l.getD j 0) then posF l x j else j + 1
def insT (l : List Int) (x : Int) : List Int := l.take (posF t l x l.length) ++ x :: l.drop (posF t l x l.length)
def sortT (l : List Int) : List Int := l.foldl (insT t) []
variable {t}
abbrev Srt (t : Int → Int) (l : List Int) : Prop := l.Pairwise fun a b => t a ≤ t b
end
def tyI (g : Gr) (i : Int) : Int := (g.edges[i.toNat]?.map (·.ty)).getD 0
def isE (a b : Int) (e : Ed) : Bool := decide (e.fr = a) && decide (e.to = b)
def isB (g : Gr) (a b : Int) (i : Nat) : Bool := match g.edges[i]? with
  | some e => isE a b e
  | none => false
def rawK (g : Gr) (a b : Int) (k : Nat) : List Int := ((List.range k).filter (isB g a b)).map fun (i : Nat) => (i : Int)
def bt (g : Gr) (a b : Int) : List Int := sortT (tyI g) (rawK g a b g.edges.length)
def tl (g : Gr) (a b : Int) : List Int := (bt g a b).map (tyI g)
def tT (g : Gr) (a b : Int) : List Int := ((tl g a b).length : Int) :: tl g a b
def nodesOf (g : Gr) (a b : Int) : List Int := (g.edges.filter (isE a b)).map (·.ty)
def nN (g : Gr) (v : Int) : Int := nodeAt g v
end Go.Sj.Can
end
section
namespace Go.Sj.Can
open Go.Sj Go.Sj.Sta
set_option maxRecDepth 8000
def msF (n : Nat) (l : List Int) : Nat → List Int
  | 0 => List.replicate n 0
  | k + 1 => (msF n l k).set (l.getD k 0).toNat k
def ms (n : Nat) (l : List Int) : List Int := msF n l l.length
def atO (o : List Int) (k : Nat) : Int := o.getD k 0
theorem take_snoc (o : List Int) {k : Nat} (h : k < o.length) : o.take (k + 1) = o.take k ++ [atO o k] := by
  rw [List.take_add_one, List.getElem?_eq_getElem h, atO, List.getD_eq_getElem?_getD, List.getElem?_eq_getElem h]
  rfl
section
variable {g : Gr} (hg : GV g) {o : List Int} (ho : Cpl g.nodes.length o)
include hg ho
end
end Go.Sj.Can
end
section
namespace Go.Sj.Can
open Go.Sj Go.Sj.Sta
set_option maxRecDepth 8000
def rdN (most : Int) : List Int → Option (Int × List Int)
  | [] => none
  | x :: r => if 0 ≤ x ∧ x ≤ most then some (x, r) else none
def rdT : Nat → Int → List Int → Option (List Int × List Int)
  | 0, _, l => some ([], l)
  | n + 1, last, l => match rdN 99 l with
    | none => none
    | some (x, r) => if x < last then none else match rdT n x r with
      | none => none
      | some (ts, r') => some (x :: ts, r')
def rdE (room : Int) (l : List Int) : Option (List Int × List Int) := match rdN room l with
  | none => none
  | some (n, r) => rdT n.toNat 0 r
abbrev Rd := Option (List Int × Gr)
def runE (s : Rd) (a b : Nat) : Rd := match s with
  | none => none
  | some (l, g) => match rdE (80 - (g.edges.length : Int)) l with
    | none => none
    | some (ts, r) => some (r, ⟨g.nodes, g.edges ++ ts.map fun t => ⟨t, a, b⟩⟩)
def runN (s : Rd) : Rd := match s with
  | none => none
  | some (l, g) => match rdN 99 l with
    | none => none
    | some (x, r) => some (r, ⟨g.nodes ++ [x], g.edges⟩)
def runS (s : Rd) (k : Nat) : Nat → Rd
  | 0 => s
  | j + 1 => runE (runE (runS s k j) j k) k j
def runP (s : Rd) : Nat → Rd
  | 0 => s
  | k + 1 => runE (runS (runN (runP s k)) k k) k k
abbrev It := Nat ⊕ (Nat × Nat)
def itC (g : Gr) : It → List Int
  | .inl k => [nN g k]
  | .inr (a, b) => tT g a b
structure RI (c : List Int) (n0 : Int) (its : List It) (l : List Int) (g : Gr) : Prop where
  code : c = n0 :: (its.flatMap (itC g) ++ l)
  nodes : ∀ x ∈ g.nodes, 0 ≤ x ∧ x ≤ 99
  types : ∀ e ∈ g.edges, 0 ≤ e.ty ∧ e.ty ≤ 99
  ends : ∀ e ∈ g.edges, ∃ a b : Nat, e.fr = a ∧ e.to = b ∧ .inr (a, b) ∈ its
  srt : ∀ a b : Int, (nodesOf g a b).Pairwise (· ≤ ·)
  cap : g.edges.length ≤ 80
  nds : ∀ k, .inl k ∈ its → k < g.nodes.length
theorem RI.zero (n0 : Int) (l : List Int) : RI (n0 :: l) n0 [] l ⟨[], []⟩ := ⟨rfl, by simp, by simp, by simp, fun a b => by simp [nodesOf], by simp, by simp⟩
end Go.Sj.Can
end
section
namespace Go.Proofs.YtddohheabpiljaaGreat
open Go.Sj Go.Sj.Typ Go.Sj.Sta Go.Sj.Can
set_option maxRecDepth 8000
set_option maxHeartbeats 8000000
theorem isNaN_spec (x : Int) : Pure Tryz.prog 129 [AI x] (AB false) := by
  refine zen Tryz.func129 (by kernel_rfl) rfl Tryz.ntmps129 rfl (by simp) ?_
  repeat (first | refine gA pk ?_)
  refine finR ?_
  exact ⟨rfl, rfl⟩
theorem cmpCompare_spec (x y : Int) : Pure Tryz.prog 109 [AI x, AI y] (AI (cmpI x y)) := by
  refine zen Tryz.func109 (by kernel_rfl) rfl Tryz.ntmps109 rfl (by simp) ?_
  repeat (first | refine gA pk ?_)
  refine zsc rfl rfl rfl rfl rfl (isNaN_spec x) (SubL.of_eq rfl) (Lr := []) (List.Perm.refl _) ?_
  rintro _ _ ⟨rfl, rfl⟩
  repeat (first | refine gA pk ?_)
  refine zsc rfl rfl rfl rfl rfl (isNaN_spec y) (SubL.of_eq rfl) (Lr := []) (List.Perm.refl _) ?_
  rintro _ _ ⟨rfl, rfl⟩
  repeat (first | refine gA pk ?_)
  refine s_cmp rfl rfl rfl rfl rfl rfl rfl (fun h => ?_) (fun h => ?_) <;> simp only [cmpP] at h
  · repeat (first | refine gA pk ?_)
    refine finR ?_
    exact ⟨by simp [cmpI, h], rfl⟩
  · repeat (first | refine gA pk ?_)
    refine s_cmp rfl rfl rfl rfl rfl rfl rfl (fun h => ?_) (fun h => ?_) <;> simp only [cmpP] at h
    · rename_i h1
      repeat (first | refine gA pk ?_)
      refine finR ?_
      exact ⟨by simp [cmpI, h1, h], rfl⟩
    · rename_i h1
      repeat (first | refine gA pk ?_)
      refine finR ?_
      exact ⟨by simp [cmpI, h1, h], rfl⟩
theorem cmpL_drop {xs ys : List Int} {k : Nat} (hx : k < xs.length) (hy : k < ys.length) : cmpL (xs.drop k) (ys.drop k) = if cmpI xs[k] ys[k] ≠ 0 then cmpI xs[k] ys[k] else cmpL (xs.drop (k + 1)) (ys.drop (k + 1)) := by
  rw [List.drop_eq_getElem_cons hx, List.drop_eq_getElem_cons hy]; rfl
theorem Compare_spec (xs ys : List Int) (hx : xs.length ≤ 1099511627776) (hy : ys.length ≤ 1099511627776) : Pure Tryz.prog 90 [ints xs, ints ys] (AI (cmpL xs ys)) := by
  have lx : (rowI xs).length = xs.length := by simp
  have ly : (rowI ys).length = ys.length := by simp
  refine zen Tryz.func90 (by kernel_rfl) rfl Tryz.ntmps90 rfl (by simp) ?_
  repeat (first | refine gA pk ?_)
  refine zlx (fun k : Nat => [(0, ints xs), (1, ints ys), (9, ints xs), (10, AI xs.length), (11, AI k)]) (fun _ => []) (fun k => k ≤ xs.length ∧ k ≤ ys.length ∧ cmpL xs ys = cmpL (xs.drop k) (ys.drop k)) (fun k => xs.length - k) 0 ⟨Nat.zero_le _, Nat.zero_le _, rfl⟩ ?_ (OSub.refl _) ?_
  · rw [lx]
    exact subQ
  · rintro k ⟨hk, hk2, hc⟩
    repeat (first | refine gA pk ?_)
    refine s_cmp rfl rfl rfl rfl rfl rfl rfl (fun h => ?_) (fun h => ?_) <;> simp only [cmpP] at h
    · have hk' : k < xs.length := by omega
      have hxk : (rowI xs)[(k : Int).toNat]? = some (cI xs[k]) := zmp (List.getElem?_eq_getElem hk')
      repeat (first | refine gA pk ?_ | (show AL _ _ _ _ _ _ _; first | refine jX tok hxk ?_))
      refine s_cmp rfl rfl rfl rfl rfl rfl rfl (fun h1 => ?_) (fun h1 => ?_) <;> simp only [cmpP] at h1
      · repeat (first | refine gA pk ?_)
        refine finR ?_
        refine ⟨?_, rfl⟩
        rw [hc, List.drop_eq_getElem_cons hk', show ys.drop k = [] from List.drop_of_length_le (by omega)]
        rfl
      · have hky : k < ys.length := by omega
        have hyk : (rowI ys)[(k : Int).toNat]? = some (cI ys[k]) := zmp (List.getElem?_eq_getElem hky)
        rw [cmpL_drop hk' hky] at hc
        generalize xs[k] = x at *
        generalize ys[k] = y at *
        repeat (first | refine gA pk ?_ | (show AL _ _ _ _ _ _ _; first | refine jX tok hyk ?_))
        refine jP (cmpCompare_spec x y) ?_
        repeat (first | refine gA pk ?_)
        refine s_cmp rfl rfl rfl rfl rfl rfl rfl (fun h2 => ?_) (fun h2 => ?_) <;> simp only [cmpP] at h2
        · repeat (first | refine gA pk ?_)
          refine finR ?_
          refine ⟨?_, rfl⟩
          rw [hc, if_pos h2]
        · rw [if_neg h2] at hc
          repeat (first | refine gA pk ?_)
          refine ⟨k + 1, ⟨by omega, by omega, hc⟩, by omega, ?_, OSub.refl _⟩
          exact subQ
    · obtain rfl : k = xs.length := by omega
      rw [List.drop_length] at hc
      repeat (first | refine gA pk ?_)
      refine s_cmp rfl rfl rfl rfl rfl rfl rfl (fun h1 => ?_) (fun h1 => ?_) <;> simp only [cmpP] at h1
      · repeat (first | refine gA pk ?_)
        refine finR ?_
        refine ⟨?_, rfl⟩
        rw [hc, List.drop_eq_getElem_cons (show xs.length < ys.length by omega)]
        rfl
      · repeat (first | refine gA pk ?_)
        refine finR ?_
        refine ⟨?_, rfl⟩
        rw [hc, List.drop_of_length_le (by omega)]
        rfl
end Go.Proofs.YtddohheabpiljaaGreat
end
section
namespace Go.Sj.Inc
open Go.Sj Go.Sj.Sta Go.Sj.Typ
set_option maxRecDepth 8000
structure Edt where
  kind : Int
  idx : Int
  ty : Int
  fr : Int
  to : Int
def touB (i : Int) (x : Ed) : Bool := decide (x.fr = i) || decide (x.to = i)
def editE (g : Gr) (e : Edt) (nt et : Int) : Int :=
  if e.kind = 1 then (if 0 ≤ e.ty ∧ e.ty < nt then (if (g.nodes.length : Int) = 40 then 3 else 0) else 13)
  else if e.kind = 2 then (if 0 ≤ e.ty ∧ e.ty < et then (if (0 ≤ e.fr ∧ e.fr < g.nodes.length) ∧ (0 ≤ e.to ∧ e.to < g.nodes.length) then (if (g.edges.length : Int) = 80 then 3 else 0) else 6) else 13)
  else if e.kind = 3 then (if 0 ≤ e.idx ∧ e.idx < g.nodes.length then (if g.edges.any (touB e.idx) = true then 14 else 0) else 6)
  else if e.kind = 4 then (if 0 ≤ e.idx ∧ e.idx < g.edges.length then 0 else 6)
  else 1
end Go.Sj.Inc
end
