/- Parts of a proof. -/
import Derived.Sort.AssemblyPlain
import Derived.Test.YtimfponihbfimaaGreatP31
set_option linter.unusedVariables false
set_option linter.unusedSimpArgs false
section
namespace Go.Proofs.YtimfponihbfimaaGreat
open Go.Sj Go.Sj.Typ Go.Sj.Sta Go.Sj.Inc
set_option maxRecDepth 8000
set_option maxHeartbeats 16000000
theorem gCopied_spec (g : Gr) (h1 : g.nodes.length ≤ 1000) (h2 : g.edges.length ≤ 1000) : Pure Tryz.prog 25 [grA g] (grA g) := by
  have ln : (rowI g.nodes).length = g.nodes.length := by simp
  have le : (g.edges.map cEd).length = g.edges.length := by simp
  refine a_enterC Tryz.func25 (by kernel_rfl) rfl Tryz.ntmps25 rfl (tok _ _ rfl) (by simp) ?_
  refine a_seq ?_
  refine a_reg ?_
  repeat (first | refine gZ pk ?_ | (show AL _ _ _ _ _ _ _; first | refine jB (fun u => ?_) | refine jL tok (fun u2 => ?_)))
  refine zfb 1 1 rfl rfl ?_
  refine AWp.mono (Q := fun e st L => e = .normal ∧ GoTo 12 st L (lk [(2, .pt u2 0 0 0)]) [(u2, .box [ints g.nodes, edsA g.edges])]) ?_ (fun e st L h => ?_)
  · refine a_regXP [1, 2, 5, 6] (.nd [0] (.nd [3, 4, 7, 8, 9] .stop (.nd [4, 3, 7, 8, 9] .stop .stop)) (.nd [4, 0, 3, 7, 8, 9] .stop .stop)) mixed rfl rfl (by decide +kernel) ?_
    repeat' (first | (with_reducible show AX _ _ _ _ _ _ _ _ _; first | exact ax_none | refine ax_stop ?_ | refine ax_nd ?_ ?_) | refine gY pk ?_ | (show AL _ _ _ _ _ _ _; first | refine s_build tok (parts := []) rfl rfl rfl rfl rfl rfl rfl rfl (by decide) (by decide) (fun v => ?_) | refine s_appendImF tok 0 rfl rfl rfl rfl rfl rfl (by decide) rfl rfl rfl rfl (rowI_cell _) (by simp only [ln, le, List.length_nil]; omega) (by simp only [ln, le, List.length_nil]; omega) ?_ | refine s_appendImF tok 0 rfl rfl rfl rfl rfl rfl (by decide) rfl rfl rfl rfl (cEd_cell _) (by simp only [ln, le, List.length_nil]; omega) (by simp only [ln, le, List.length_nil]; omega) ?_ | refine s_appendImF tok 1 rfl rfl rfl rfl rfl rfl (by decide) rfl rfl rfl rfl (rowI_cell _) (by simp only [ln, le, List.length_nil]; omega) (by simp only [ln, le, List.length_nil]; omega) ?_ | refine s_appendImF tok 1 rfl rfl rfl rfl rfl rfl (by decide) rfl rfl rfl rfl (cEd_cell _) (by simp only [ln, le, List.length_nil]; omega) (by simp only [ln, le, List.length_nil]; omega) ?_ | refine jS tok 0 ?_ | refine jS tok 1 ?_) | fail)
    all_goals exact ⟨rfl, GoTo.sub (by exact subQ) (OSub.refl _)⟩
  · obtain ⟨rfl, h⟩ := h
    refine zgt h ?_
    refine zfb 0 2 rfl rfl ?_
    repeat (first | refine gA pk ?_)
    exact ⟨.inr rfl, _, _, _, _, rfl, rfl, Turn.of (Sub.of_eq rfl) (OSub.refl _), rfl, rfl⟩
end Go.Proofs.YtimfponihbfimaaGreat
end
section
namespace Go.Proofs.YtimfponihbfimaaGreat
open Go.Sj Go.Sj.Typ Go.Sj.Sta Go.Sj.Inc
set_option maxRecDepth 8000
set_option maxHeartbeats 16000000
def MoB (m : Mo) : Prop := m.1.length ≤ 1000000 ∧ m.2.length ≤ 1000000
end Go.Proofs.YtimfponihbfimaaGreat
end
section
namespace Go.Sj.Can
open Go.Sj Go.Sj.Sta
set_option maxRecDepth 8000
section
variable (t : Int → Int)
def posF (l : List Int) (x : Int) : Nat → Nat
  | 0 => 0
  | j + 1 => if t x < t (l.getD j 0) then posF l x j else j + 1
def insT (l : List Int) (x : Int) : List Int := l.take (posF t l x l.length) ++ x :: l.drop (posF t l x l.length)
def sortT (l : List Int) : List Int := l.foldl (insT t) []
variable {t}
abbrev Srt (t : Int → Int) (l : List Int) : Prop := l.Pairwise fun a b => t a ≤ t b
end
def tyI (g : Gr) (i : Int) : Int := (g.edges[i.toNat]?.map (·.ty)).getD 0
def isE (a b : Int) (e : Ed) : Bool := decide (e.fr = a) && decide (e.to = b)
def isB (g : Gr) (a b : Int) (i : Nat) : Bool := match g.edges[i]? with
  | some e => isE a b e
  | none => false
def rawK (g : Gr) (a b : Int) (k : Nat) : List Int := ((List.range k).filter (isB g a b)).map fun (i : Nat) => (i : Int)
def bt (g : Gr) (a b : Int) : List Int := sortT (tyI g) (rawK g a b g.edges.length)
def tl (g : Gr) (a b : Int) : List Int := (bt g a b).map (tyI g)
def tT (g : Gr) (a b : Int) : List Int := ((tl g a b).length : Int) :: tl g a b
def nodesOf (g : Gr) (a b : Int) : List Int := (g.edges.filter (isE a b)).map (·.ty)
def nN (g : Gr) (v : Int) : Int := nodeAt g v
end Go.Sj.Can
end
section
namespace Go.Sj.Can
open Go.Sj Go.Sj.Sta
set_option maxRecDepth 8000
def atO (o : List Int) (k : Nat) : Int := o.getD k 0
theorem take_snoc (o : List Int) {k : Nat} (h : k < o.length) : o.take (k + 1) = o.take k ++ [atO o k] := by
  rw [List.take_add_one, List.getElem?_eq_getElem h, atO, List.getD_eq_getElem?_getD, List.getElem?_eq_getElem h]
  rfl
section
variable {g : Gr} (hg : GV g) {o : List Int} (ho : Cpl g.nodes.length o)
include hg ho
end
end Go.Sj.Can
end
section
namespace Go.Sj.Can
open Go.Sj Go.Sj.Sta
set_option maxRecDepth 8000
def rdN (most : Int) : List Int → Option (Int × List Int)
  | [] => none
  | x :: r => if 0 ≤ x ∧ x ≤ most then some (x, r) else none
def rdT : Nat → Int → List Int → Option (List Int × List Int)
  | 0, _, l => some ([], l)
  | n + 1, last, l => match rdN 99 l with
    | none => none
    | some (x, r) => if x < last then none else match rdT n x r with
      | none => none
      | some (ts, r') => some (x :: ts, r')
def rdE (room : Int) (l : List Int) : Option (List Int × List Int) := match rdN room l with
  | none => none
  | some (n, r) => rdT n.toNat 0 r
abbrev Rd := Option (List Int × Gr)
def runE (s : Rd) (a b : Nat) : Rd := match s with
  | none => none
  | some (l, g) => match rdE (80 - (g.edges.length : Int)) l with
    | none => none
    | some (ts, r) => some (r, ⟨g.nodes, g.edges ++ ts.map fun t => ⟨t, a, b⟩⟩)
def runN (s : Rd) : Rd := match s with
  | none => none
  | some (l, g) => match rdN 99 l with
    | none => none
    | some (x, r) => some (r, ⟨g.nodes ++ [x], g.edges⟩)
def runS (s : Rd) (k : Nat) : Nat → Rd
  | 0 => s
  | j + 1 => runE (runE (runS s k j) j k) k j
def runP (s : Rd) : Nat → Rd
  | 0 => s
  | k + 1 => runE (runS (runN (runP s k)) k k) k k
abbrev It := Nat ⊕ (Nat × Nat)
def itC (g : Gr) : It → List Int
  | .inl k => [nN g k]
  | .inr (a, b) => tT g a b
structure RI (c : List Int) (n0 : Int) (its : List It) (l : List Int) (g : Gr) : Prop where
  code : c = n0 :: (its.flatMap (itC g) ++ l)
  nodes : ∀ x ∈ g.nodes, 0 ≤ x ∧ x ≤ 99
  types : ∀ e ∈ g.edges, 0 ≤ e.ty ∧ e.ty ≤ 99
  ends : ∀ e ∈ g.edges, ∃ a b : Nat, e.fr = a ∧ e.to = b ∧ .inr (a, b) ∈ its
  srt : ∀ a b : Int, (nodesOf g a b).Pairwise (· ≤ ·)
  cap : g.edges.length ≤ 80
  nds : ∀ k, .inl k ∈ its → k < g.nodes.length
theorem RI.zero (n0 : Int) (l : List Int) : RI (n0 :: l) n0 [] l ⟨[], []⟩ := ⟨rfl, by simp, by simp, by simp, fun a b => by simp [nodesOf], by simp, by simp⟩
end Go.Sj.Can
end
section
namespace Go.Proofs.YtimfponihbfimaaGreat
open Go.Sj Go.Sj.Typ Go.Sj.Sta Go.Sj.Can
set_option maxRecDepth 8000
set_option maxHeartbeats 8000000
theorem isNaN_spec (x : Int) : Pure Tryz.prog 134 [AI x] (AB false) := by
  refine zen Tryz.func134 (by kernel_rfl) rfl Tryz.ntmps134 rfl (by simp) ?_
  repeat (first | refine gA pk ?_)
  refine finR ?_
  exact ⟨rfl, rfl⟩
theorem cmpCompare_spec (x y : Int) : Pure Tryz.prog 82 [AI x, AI y] (AI (cmpI x y)) := by
  refine zen Tryz.func82 (by kernel_rfl) rfl Tryz.ntmps82 rfl (by simp) ?_
  repeat (first | refine gA pk ?_)
  refine zsc rfl rfl rfl rfl rfl (isNaN_spec x) (SubL.of_eq rfl) (Lr := []) (List.Perm.refl _) ?_
  rintro _ _ ⟨rfl, rfl⟩
  repeat (first | refine gA pk ?_)
  refine zsc rfl rfl rfl rfl rfl (isNaN_spec y) (SubL.of_eq rfl) (Lr := []) (List.Perm.refl _) ?_
  rintro _ _ ⟨rfl, rfl⟩
  repeat (first | refine gA pk ?_)
  refine s_cmp rfl rfl rfl rfl rfl rfl rfl (fun h => ?_) (fun h => ?_) <;> simp only [cmpP] at h
  · repeat (first | refine gA pk ?_)
    refine finR ?_
    exact ⟨by simp [cmpI, h], rfl⟩
  · repeat (first | refine gA pk ?_)
    refine s_cmp rfl rfl rfl rfl rfl rfl rfl (fun h => ?_) (fun h => ?_) <;> simp only [cmpP] at h
    · rename_i h1
      repeat (first | refine gA pk ?_)
      refine finR ?_
      exact ⟨by simp [cmpI, h1, h], rfl⟩
    · rename_i h1
      repeat (first | refine gA pk ?_)
      refine finR ?_
      exact ⟨by simp [cmpI, h1, h], rfl⟩
theorem take_succ_eq {xs ys : List Int} {k : Nat} (hx : k < xs.length) (hy : k < ys.length) (h : xs.take k = ys.take k) (e : xs[k] = ys[k]) : xs.take (k + 1) = ys.take (k + 1) := by
  rw [List.take_succ_eq_append_getElem hx, List.take_succ_eq_append_getElem hy, h, e]
theorem Equal_spec (xs ys : List Int) (hx : xs.length ≤ 1099511627776) (hy : ys.length ≤ 1099511627776) : Pure Tryz.prog 17 [ints xs, ints ys] (AB (decide (xs = ys))) := by
  refine zen Tryz.func17 (by kernel_rfl) rfl Tryz.ntmps17 rfl (by simp) ?_
  repeat (first | refine gA pk ?_)
  refine s_cmp rfl rfl rfl rfl rfl rfl rfl (fun h => ?_) (fun h => ?_) <;> simp only [cmpP] at h
  · repeat (first | refine gA pk ?_)
    refine finR ?_
    refine ⟨?_, rfl⟩
    have : xs ≠ ys := fun e => h (by simp [e])
    simp [this]
  · rw [List.length_map, List.length_map] at h
    repeat (first | refine gA pk ?_)
    refine zlx (fun k : Nat => [(0, ints xs), (1, ints ys), (12, AI xs.length), (13, AI k)]) (fun _ => []) (fun k => k ≤ xs.length ∧ xs.take k = ys.take k) (fun k => xs.length - k) 0 ⟨Nat.zero_le _, rfl⟩ ?_ (OSub.refl _) ?_
    · rw [List.length_map]
      exact subQ
    · rintro k ⟨hk, he⟩
      have hxy : xs.length = ys.length := by omega
      repeat (first | refine gA pk ?_)
      refine s_cmp rfl rfl rfl rfl rfl rfl rfl (fun h => ?_) (fun h => ?_) <;> simp only [cmpP] at h
      · have hk' : k < xs.length := by omega
        have hk2 : k < ys.length := by omega
        have hx' : (rowI xs)[(k : Int).toNat]? = some (cI xs[k]) := zmp (List.getElem?_eq_getElem hk')
        have hy' : (rowI ys)[(k : Int).toNat]? = some (cI ys[k]) := zmp (List.getElem?_eq_getElem hk2)
        repeat (first | refine gA pk ?_ | (show AL _ _ _ _ _ _ _; first | refine s_index tok rfl rfl rfl rfl rfl rfl rfl rfl rfl (by omega) (by assumption) ?_))
        refine s_cmp rfl rfl rfl rfl rfl rfl rfl (fun h1 => ?_) (fun h1 => ?_) <;> simp only [cmpP] at h1
        · repeat (first | refine gA pk ?_)
          refine finR ?_
          refine ⟨?_, rfl⟩
          have : xs ≠ ys := fun e => h1 (by simp [e])
          simp [this]
        · repeat (first | refine gA pk ?_)
          refine ⟨k + 1, ⟨by omega, take_succ_eq hk' hk2 he (by simpa using h1)⟩, by omega, ?_, OSub.refl _⟩
          exact subQ
      · repeat (first | refine gA pk ?_)
        refine finR ?_
        refine ⟨?_, rfl⟩
        have : xs = ys := by
          have e1 : xs.take k = xs := List.take_of_length_le (by omega)
          have e2 : ys.take k = ys := List.take_of_length_le (by omega)
          rw [← e1, ← e2, he]
        simp [this]
theorem cmpL_drop {xs ys : List Int} {k : Nat} (hx : k < xs.length) (hy : k < ys.length) : cmpL (xs.drop k) (ys.drop k) = if cmpI xs[k] ys[k] ≠ 0 then cmpI xs[k] ys[k] else cmpL (xs.drop (k + 1)) (ys.drop (k + 1)) := by
  rw [List.drop_eq_getElem_cons hx, List.drop_eq_getElem_cons hy]; rfl
theorem Compare_spec (xs ys : List Int) (hx : xs.length ≤ 1099511627776) (hy : ys.length ≤ 1099511627776) : Pure Tryz.prog 46 [ints xs, ints ys] (AI (cmpL xs ys)) := by
  have lx : (rowI xs).length = xs.length := by simp
  have ly : (rowI ys).length = ys.length := by simp
  refine zen Tryz.func46 (by kernel_rfl) rfl Tryz.ntmps46 rfl (by simp) ?_
  repeat (first | refine gA pk ?_)
  refine zlx (fun k : Nat => [(0, ints xs), (1, ints ys), (9, ints xs), (10, AI xs.length), (11, AI k)]) (fun _ => []) (fun k => k ≤ xs.length ∧ k ≤ ys.length ∧ cmpL xs ys = cmpL (xs.drop k) (ys.drop k)) (fun k => xs.length - k) 0 ⟨Nat.zero_le _, Nat.zero_le _, rfl⟩ ?_ (OSub.refl _) ?_
  · rw [lx]
    exact subQ
  · rintro k ⟨hk, hk2, hc⟩
    repeat (first | refine gA pk ?_)
    refine s_cmp rfl rfl rfl rfl rfl rfl rfl (fun h => ?_) (fun h => ?_) <;> simp only [cmpP] at h
    · have hk' : k < xs.length := by omega
      have hxk : (rowI xs)[(k : Int).toNat]? = some (cI xs[k]) := zmp (List.getElem?_eq_getElem hk')
      repeat (first | refine gA pk ?_ | (show AL _ _ _ _ _ _ _; first | refine jX tok hxk ?_))
      refine s_cmp rfl rfl rfl rfl rfl rfl rfl (fun h1 => ?_) (fun h1 => ?_) <;> simp only [cmpP] at h1
      · repeat (first | refine gA pk ?_)
        refine finR ?_
        refine ⟨?_, rfl⟩
        rw [hc, List.drop_eq_getElem_cons hk', show ys.drop k = [] from List.drop_of_length_le (by omega)]
        rfl
      · have hky : k < ys.length := by omega
        have hyk : (rowI ys)[(k : Int).toNat]? = some (cI ys[k]) := zmp (List.getElem?_eq_getElem hky)
        rw [cmpL_drop hk' hky] at hc
        generalize xs[k] = x at *
        generalize ys[k] = y at *
        repeat (first | refine gA pk ?_ | (show AL _ _ _ _ _ _ _; first | refine jX tok hyk ?_))
        refine jP (cmpCompare_spec x y) ?_
        repeat (first | refine gA pk ?_)
        refine s_cmp rfl rfl rfl rfl rfl rfl rfl (fun h2 => ?_) (fun h2 => ?_) <;> simp only [cmpP] at h2
        · repeat (first | refine gA pk ?_)
          refine finR ?_
          refine ⟨?_, rfl⟩
          rw [hc, if_pos h2]
        · rw [if_neg h2] at hc
          repeat (first | refine gA pk ?_)
          refine ⟨k + 1, ⟨by omega, by omega, hc⟩, by omega, ?_, OSub.refl _⟩
          exact subQ
    · obtain rfl : k = xs.length := by omega
      rw [List.drop_length] at hc
      repeat (first | refine gA pk ?_)
      refine s_cmp rfl rfl rfl rfl rfl rfl rfl (fun h1 => ?_) (fun h1 => ?_) <;> simp only [cmpP] at h1
      · repeat (first | refine gA pk ?_)
        refine finR ?_
        refine ⟨?_, rfl⟩
        rw [hc, List.drop_eq_getElem_cons (show xs.length < ys.length by omega)]
        rfl
      · repeat (first | refine gA pk ?_)
        refine finR ?_
        refine ⟨?_, rfl⟩
        rw [hc, List.drop_of_length_le (by omega)]
        rfl
end Go.Proofs.YtimfponihbfimaaGreat
end
section
namespace Go.Proofs.YtimfponihbfimaaGreat
open Go.Sj Go.Sj.Typ Go.Sj.Sta Go.Sj.Inc
set_option maxRecDepth 8000
set_option maxHeartbeats 16000000
abbrev moA (m : Mo) : AV := .agg [ints m.1, ints m.2]
theorem icompare_spec (a b : Mo) (ha : MoB a) (hb : MoB b) : Pure Tryz.prog 44 [moA a, moA b] (AI (cmpM a b)) := by
  obtain ⟨a1, a2⟩ := a
  obtain ⟨b1, b2⟩ := b
  obtain ⟨h1, h2⟩ := ha
  obtain ⟨h3, h4⟩ := hb
  simp only at h1 h2 h3 h4
  have s1 := Compare_spec a1 b1 (by omega) (by omega)
  have s2 := Compare_spec a2 b2 (by omega) (by omega)
  have s3 := Or_spec [Can.cmpL a1 b1, Can.cmpL a2 b2] (Nat.le_of_ble_eq_true rfl)
  have hr : cmpM (a1, a2) (b1, b2) = orL [Can.cmpL a1 b1, Can.cmpL a2 b2] := by
    unfold cmpM
    by_cases h : Can.cmpL a1 b1 = 0
    · by_cases h' : Can.cmpL a2 b2 = 0 <;> simp [orL, h, h']
    · simp [orL, h]
  rw [hr]
  generalize Can.cmpL a1 b1 = x at *
  generalize Can.cmpL a2 b2 = y at *
  refine zen Tryz.func44 (by kernel_rfl) rfl Tryz.ntmps44 rfl (by simp) ?_
  refine a_seq ?_
  refine a_reg ?_
  repeat (first | refine gZ pk ?_ | (show AL _ _ _ _ _ _ _; first | refine jB (fun u => ?_)))
  refine zfb 1 2 rfl rfl ?_
  refine zfb 0 3 rfl rfl ?_
  refine zrg ((List.range 13).map fun i => if inL [4, 9, 10, 11] i = true then .eff else .pure) [] [0, 1, 2, 3, 5, 6, 7, 8, 4, 9, 10, 11, 12] .stop mixed rfl rfl (by decide +kernel) ?_
  repeat' (first | (with_reducible show AG _ _ _ _ _ _ _ _ _ _; first | exact zgn | refine zgs ?_ | refine znd ?_ ?_) | (show AMid _ _ _ _; first | refine zmf ?_ | refine zmg (by first | exact OSub.refl _ | exact .drop (OSub.refl _) | exact .drop (.drop (OSub.refl _))) ?_) | refine gY pk ?_ | (show AL _ _ _ _ _ _ _; first | refine jP s1 ?_ | refine jP s2 ?_ | refine s_frzNow 0 rfl rfl rfl (s_build tok rfl rfl rfl rfl rfl rfl rfl rfl (by decide) (by decide) (fun v => AL.nil ⟨v, rfl, rfl, rfl⟩)) ?_ | refine jP s3 ?_) | fail)
  repeat (first | refine gA pk ?_)
  refine finQ ?_
  exact ⟨rfl, rfl⟩
end Go.Proofs.YtimfponihbfimaaGreat
end
section
namespace Go.Proofs.YtimfponihbfimaaGreat
open Go.Sj Go.Sj.Typ Go.Sj.Sta Go.Sj.Inc
set_option maxRecDepth 8000
set_option maxHeartbeats 16000000
abbrev rowM (d : Array Mo) : OB := .row 88 2 (d.toList.map cMo)
abbrev cmpF : AV := .fn (.func 44) [] []
def ltM (a b : Mo) : Bool := decide (cmpM a b < 0)
structure AllB (d : Array Mo) : Prop where
  n : d.size ≤ 1000000
  el : ∀ i : Nat, MoB d[i]!
theorem get_pos (d : Array Mo) {k : Nat} (h : k < d.size) : d[k]! = d[k] := getElem!_pos d k h
theorem get_neg (d : Array Mo) {k : Nat} (h : ¬ k < d.size) : d[k]! = default := getElem!_neg d k h
theorem swp_get (d : Array Mo) (i j k : Nat) : ∃ k' : Nat, (Sort.swp d i j)[k]! = d[k']! := by
  have hs : (Sort.swp d i j).size = d.size := by simp [Sort.swp]
  by_cases hk : k < d.size
  · rw [get_pos _ (by rw [hs]; exact hk)]
    unfold Sort.swp
    by_cases h1 : j = k
    · subst h1
      exact ⟨i, by rw [Array.getElem_setIfInBounds_self]⟩
    · rw [Array.getElem_setIfInBounds_ne (h := h1) (hj := by simpa using hk)]
      by_cases h2 : i = k
      · subst h2
        exact ⟨j, by rw [Array.getElem_setIfInBounds_self]⟩
      · rw [Array.getElem_setIfInBounds_ne (h := h2) (hj := hk)]
        exact ⟨k, (get_pos d hk).symm⟩
  · exact ⟨k, by rw [get_neg _ (by rw [hs]; exact hk), get_neg _ hk]⟩
theorem zsw (d : Array Mo) (i j : Nat) : (Sort.swp d i j).size = d.size := by simp [Sort.swp]
theorem AllB.swp {d : Array Mo} (h : AllB d) (i j : Nat) : AllB (Sort.swp d i j) := ⟨by rw [zsw]; exact h.n, fun k => by
  obtain ⟨k', e⟩ := swp_get d i j k
  rw [e]
  exact h.el k'⟩
theorem zat {d : Array Mo} {z : Int} {j : Nat} (h : z = j) (hj : j < d.size) : d.toList[z.toNat]? = some d[j]! := by
  rw [h, Int.toNat_natCast, get_pos d hj, List.getElem?_eq_getElem (by simpa using hj)]
  simp
theorem icmp (d : Array Mo) (h : AllB d) (i j : Nat) : Pure Tryz.prog 44 [.agg (cMo d[i]!), .agg (cMo d[j]!)] (AI (cmpM d[i]! d[j]!)) := icompare_spec _ _ (h.el i) (h.el j)
section
variable {P : Program} {N : Nat} {ops : List Oper} {Q : St → Own → Prop} {L : Own} {rest : List (Oper × Kd)} {l : List (Nat × AV)} {k : Kd} {q : Nat}
theorem zlm {tt : List (TypeId × TD)} (ok : TOK P tt) (i : Nat) {o : Oper} {T : TypeId} {x : Operand} {d : TD} {v : Value} {E j : Nat} {D : Array Mo} {m : Mo}
    (ho : o.op = .load T x) (hdst : o.dst = some q) (hd : Nat.blt q N = true) (hg : guardA ops o (lk l) = some true) (hk : k ≠ .pure) (hT : lkT tt T = some d) (hp : ∀ a b : AV, partA d [a, b] 0 = some (.agg [a, b])) (hx : ev (lk l) x = .pt v 2 j 0) (hL : L[i]? = some (v, .row E 2 (D.toList.map cMo))) (hj : D.toList[j]? = some m)
    (n : AL P N ops Q rest (lk ((q, .agg (cMo m)) :: l)) L) : AL P N ops Q ((o, k) :: rest) (lk l) L :=
  s_ownLoad ok i ho hdst hd hg hk hT hx hL rfl (cells := cMo m) (by simp only [obAt, List.getElem?_map, hj]; rfl) (hp _ _) (by simp) n
theorem s_storeMo {tt : List (TypeId × TD)} (ok : TOK P tt) (i : Nat) {o : Oper} {T : TypeId} {x y : Operand} {d : TD} {v : Value} {E j : Nat} {D : Array Mo} {m : Mo}
    (ho : o.op = .store T x y) (hdst : o.dst = none) (hg : guardA ops o (lk l) = some true) (hT : lkT tt T = some d) (hd2 : d.size = 2) (hx : ev (lk l) x = .pt v 2 j 0) (hy : ev (lk l) y = .agg (cMo m)) (hL : L[i]? = some (v, .row E 2 (D.toList.map cMo))) (hj : j < D.size)
    (n : AL P N ops Q rest (lk l) (L.set i (v, .row E 2 ((D.setIfInBounds j m).toList.map cMo)))) : AL P N ops Q ((o, .eff) :: rest) (lk l) L := by
  have hget : (D.toList.map cMo)[j]? = some (cMo D[j]) := by simp [hj]
  refine s_store ok i ho hdst hg hT hx hy rfl (by rw [hd2]; rfl) (by omega) hL rfl (cells := cMo D[j]) (by simp only [obAt, hget]; rfl) (by simp [AV.cells]) ?_
  have : obSet (.row E 2 (D.toList.map cMo)) j 0 (AV.cells (.agg (cMo m))) = .row E 2 ((D.setIfInBounds j m).toList.map cMo) := by
    simp only [obSet, List.getD_eq_getElem?_getD, hget, Array.toList_setIfInBounds, List.map_set]
    rfl
  rw [this]
  exact n
theorem zim {tt : List (TypeId × TD)} (ok : TOK P tt) (i : Nat) {o : Oper} {T : TypeId} {x y : Operand} {E0 : TypeId} {s1 b1 : Nat} {z1 : List Value} {d : TD} {E : Nat} {v : Value} {D : Array Mo} {kk : IntKind} {j : Int}
    (ho : o.op = .indexAddr T x y) (hdst : o.dst = some q) (hd : Nat.blt q N = true) (hg : guardA ops o (lk l) = some true) (hk : k ≠ .pure) (hT : lkT tt T = some ⟨.slice E0, s1, b1, z1⟩) (hE : lkT tt E0 = some d) (hx : ev (lk l) x = .lit v) (hL : L[i]? = some (v, .row E 2 (D.toList.map cMo))) (hs : 2 = d.size)
    (hy : ev (lk l) y = .lit (.int kk j)) (h0 : 0 ≤ j) (h1 : j < D.size)
    (n : AL P N ops Q rest (lk ((q, .pt v 2 j.toNat 0) :: l)) L) : AL P N ops Q ((o, k) :: rest) (lk l) L :=
  zoi ok i ho hdst hd hg hk hT hE hx hL hs hy h0 (by simpa using h1) n
end
end Go.Proofs.YtimfponihbfimaaGreat
end
