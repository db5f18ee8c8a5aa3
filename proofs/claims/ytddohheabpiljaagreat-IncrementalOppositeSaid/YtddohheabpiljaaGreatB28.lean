/-
  Parts of the proof of the law IncrementalOpposite (texts W40): steps, plain mathematics, contracts of functions. Each theorem states its own conditions.
-/
import Derived.Test.YtddohheabpiljaaGreatB09
import Derived.Test.YtddohheabpiljaaGreatB15
import Derived.Test.YtddohheabpiljaaGreatB24
import Derived.Test.YtddohheabpiljaaGreatB25
import Derived.Test.YtddohheabpiljaaGreatB26
import Derived.Test.YtddohheabpiljaaGreatB27
section
/-
  Searches: what the program's search asks of its arguments, and the table of subtypes. Conditions: small type graphs.
-/
namespace Go.Proofs.YtddohheabpiljaaGreat
open Go.Sj Go.Sj.Typ Go.Sj.Sta Go.Sj.Inc
set_option maxRecDepth 8000
set_option linter.unusedVariables false
set_option linter.unusedSimpArgs false
set_option maxHeartbeats 16000000

abbrev cB (b : Bool) : List AV := [AB b]
abbrev boolsA (l : List Bool) : AV := .im 1 (l.map cB)
def cRow (l : List Bool) : List AV := [boolsA l]
abbrev tabA (l : List (List Bool)) : AV := .im 1 (l.map cRow)
def tabT (t : Tys) : List (List Bool) := (List.range t.nodes.length).map fun (a : Nat) => (List.range t.nodes.length).map fun (b : Nat) => okT t a b
theorem swithin1_spec (t : Tys) (ht : Small t) (x : Int) : Pure Tryz.prog 122 [AI x, tysP t] (AB (decide ((t.nodes.length : Int) ≤ x))) := by
  have lt : (t.nodes.map cNod).length = t.nodes.length := by simp
  have htn := ht.nodes
  refine a_enter Tryz.func122 (by kernel_rfl) rfl Tryz.ntmps122 rfl (by simp) ?_
  by_cases h : (t.nodes.length : Int) ≤ x
  · rw [decide_eq_true h]
    repeat (first | refine gA pk ?_)
    refine finQ ?_
    exact ⟨rfl, rfl⟩
  · rw [decide_eq_false h]
    repeat (first | refine gA pk ?_)
    refine finQ ?_
    exact ⟨rfl, rfl⟩
theorem swithin2_spec (t : Tys) (ht : Small t) (e : Ed) : Pure Tryz.prog 123 [.agg (cEd e), tysP t] (AB (decide ((t.edges.length : Int) ≤ e.ty))) := by
  have lt : (t.edges.map cEdg).length = t.edges.length := by simp
  have hte := ht.edges
  obtain ⟨a, b, c⟩ := e
  by_cases h : (t.edges.length : Int) ≤ a
  · rw [decide_eq_true h]
    refine a_enter Tryz.func123 (by kernel_rfl) rfl Tryz.ntmps123 rfl (by simp) ?_; refine a_seq ?_; refine a_reg ?_; (repeat (first | refine gZ pk ?_ | (show AL _ _ _ _ _ _ _; first | refine jB (fun u => ?_)))); refine a_frzBox 0 2 rfl rfl ?_
    repeat (first | refine gA pk ?_)
    refine finQ ?_
    exact ⟨rfl, rfl⟩
  · rw [decide_eq_false h]
    refine a_enter Tryz.func123 (by kernel_rfl) rfl Tryz.ntmps123 rfl (by simp) ?_; refine a_seq ?_; refine a_reg ?_; (repeat (first | refine gZ pk ?_ | (show AL _ _ _ _ _ _ _; first | refine jB (fun u => ?_)))); refine a_frzBox 0 2 rfl rfl ?_
    repeat (first | refine gA pk ?_)
    refine finQ ?_
    exact ⟨rfl, rfl⟩
theorem swithin_spec (t : Tys) (ht : Small t) (g : Gr) (hg : g.nodes.length ≤ 1000 ∧ g.edges.length ≤ 1000) : Pure Tryz.prog 106 [tysA t, grA g] (AB (typT t g)) := by
  have s1 := ContainsFuncI_spec g.nodes (by omega) 122 [tysP t] (fun x => decide ((t.nodes.length : Int) ≤ x)) (fun x _ => swithin1_spec t ht x)
  have s2 := ContainsFuncG_spec g.edges (by omega) 123 [tysP t] (fun e => decide ((t.edges.length : Int) ≤ e.ty)) (fun e _ => swithin2_spec t ht e)
  unfold typT
  generalize (g.nodes.any fun x => decide ((t.nodes.length : Int) ≤ x)) = p at *
  generalize (g.edges.any fun e => decide ((t.edges.length : Int) ≤ e.ty)) = q at *
  cases p
  · cases q
    all_goals
      refine a_enter Tryz.func106 (by kernel_rfl) rfl Tryz.ntmps106 rfl (by simp) ?_
      refine a_seq ?_
      refine a_reg ?_
      repeat (first | refine gZ pk ?_ | (show AL _ _ _ _ _ _ _; first | refine jB (fun u => ?_)))
      refine a_frzBox 0 3 rfl rfl ?_
      refine a_frzBox 0 2 rfl rfl ?_
      repeat (first | refine gA pk ?_ | (show AL _ _ _ _ _ _ _; first | refine jP s1 ?_ | refine jP s2 ?_))
      refine finQ ?_
      exact ⟨rfl, rfl⟩
  · refine a_enter Tryz.func106 (by kernel_rfl) rfl Tryz.ntmps106 rfl (by simp) ?_
    refine a_seq ?_
    refine a_reg ?_
    repeat (first | refine gZ pk ?_ | (show AL _ _ _ _ _ _ _; first | refine jB (fun u => ?_)))
    refine a_frzBox 0 3 rfl rfl ?_
    refine a_frzBox 0 2 rfl rfl ?_
    repeat (first | refine gA pk ?_ | (show AL _ _ _ _ _ _ _; first | refine jP s1 ?_ | refine jP s2 ?_))
    refine finQ ?_
    exact ⟨rfl, rfl⟩
theorem svalid_spec (t : Tys) (ht : Small t) (p g : Gr) (hp : OkG p) (hg : OkG g) : Pure Tryz.prog 85 [tysA t, grA p, grA g] (AI (validS t p g)) := by
  have s1 := Valid_spec t ht
  have s2 := gvalid_spec p hp
  have s3 := gvalid_spec g hg
  obtain ⟨r, hr⟩ : ∃ r, validS t p g = r := ⟨_, rfl⟩
  rw [hr]
  unfold validS at hr
  generalize (validR t).1 = nm at s1
  by_cases hv : (validR t).2 = 0
  · rw [if_neg (Decidable.not_not.2 hv)] at hr
    rw [hv] at s1
    by_cases h1 : gvalid p = 0
    · rw [if_neg (Decidable.not_not.2 h1)] at hr
      rw [h1] at s2
      have hP := gvalid_zero.1 h1
      have hpn := hP.nl
      have hpe := hP.el
      have s4 := swithin_spec t ht p ⟨by omega, by omega⟩
      by_cases h2 : gvalid g = 0
      · rw [if_neg (Decidable.not_not.2 h2)] at hr
        rw [h2] at s3
        have hG := gvalid_zero.1 h2
        have hgn := hG.nl
        have hge := hG.el
        have s5 := swithin_spec t ht g ⟨by omega, by omega⟩
        clear hP hG
        generalize typT t p = b1 at *
        generalize typT t g = b2 at *
        obtain ⟨pn, pe⟩ := p
        obtain ⟨gn, ge⟩ := g
        change Pure _ _ [.agg [ints pn, edsA pe]] _ at s2
        change Pure _ _ [.agg [ints gn, edsA ge]] _ at s3
        change Pure _ _ [tysA t, .agg [ints pn, edsA pe]] _ at s4
        change Pure _ _ [tysA t, .agg [ints gn, edsA ge]] _ at s5
        have k0 : ([[ints pn, edsA pe], [ints gn, edsA ge]] : List (List AV))[(0 : Int).toNat]? = some [ints pn, edsA pe] := rfl
        have k1 : ([[ints pn, edsA pe], [ints gn, edsA ge]] : List (List AV))[(1 : Int).toNat]? = some [ints gn, edsA ge] := rfl
        cases b1 <;> cases b2
        all_goals
          subst hr
          refine a_enter Tryz.func85 (by kernel_rfl) rfl Tryz.ntmps85 rfl (by simp) ?_
          refine a_seq ?_
          refine a_reg ?_
          repeat (first | refine gZ pk ?_ | (show AL _ _ _ _ _ _ _; first | refine jB (fun u => ?_)))
          refine a_frzBox 0 5 rfl rfl ?_
          refine a_frzBox 0 4 rfl rfl ?_
          refine a_frzBox 0 3 rfl rfl ?_
          repeat (first | refine gA pk ?_ | (show AL _ _ _ _ _ _ _; first | refine jP s1 ?_ | refine s_frzNow 0 rfl rfl rfl (s_build tok rfl rfl rfl rfl rfl rfl rfl rfl (by decide) (by decide) (fun v => AL.nil ⟨v, rfl, rfl, rfl⟩)) ?_))
          refine a_loopX (fun k : Nat => [(3, tysP t), (4, .ip [ints pn, edsA pe]), (5, .ip [ints gn, edsA ge]), (22, .im 2 [[ints pn, edsA pe], [ints gn, edsA ge]]), (23, AI 2), (24, AI k)]) (fun _ => []) (fun k => k ≤ 2) (fun k => 2 - k) 0 (Nat.zero_le _) ?_ (OSub.none _) ?_
          · exact subQ
          · intro k hk
            have hk3 : k = 0 ∨ k = 1 ∨ k = 2 := by omega
            rcases hk3 with rfl | rfl | rfl
            · repeat (first | refine gA pk ?_ | (show AL _ _ _ _ _ _ _; first | refine jX tok k0 ?_ | refine jL tok (fun u => ?_) | refine jS tok 0 ?_ | refine jO tok 0 ?_ | refine jP s2 ?_))
              exact ⟨1, by omega, by omega, by exact subQ, OSub.none _⟩
            · repeat (first | refine gA pk ?_ | (show AL _ _ _ _ _ _ _; first | refine jX tok k1 ?_ | refine jL tok (fun u => ?_) | refine jS tok 0 ?_ | refine jO tok 0 ?_ | refine jP s3 ?_))
              exact ⟨2, by omega, by omega, by exact subQ, OSub.none _⟩
            · repeat (first | refine gA pk ?_ | (show AL _ _ _ _ _ _ _; first | refine jP s4 ?_ | refine jP s5 ?_))
              refine finQ ?_
              exact ⟨rfl, rfl⟩
      · rw [if_pos h2] at hr
        subst hr
        generalize gvalid g = e at *
        clear hP
        obtain ⟨pn, pe⟩ := p
        obtain ⟨gn, ge⟩ := g
        change Pure _ _ [.agg [ints pn, edsA pe]] _ at s2
        change Pure _ _ [.agg [ints gn, edsA ge]] _ at s3
        have k0 : ([[ints pn, edsA pe], [ints gn, edsA ge]] : List (List AV))[(0 : Int).toNat]? = some [ints pn, edsA pe] := rfl
        have k1 : ([[ints pn, edsA pe], [ints gn, edsA ge]] : List (List AV))[(1 : Int).toNat]? = some [ints gn, edsA ge] := rfl
        refine a_enter Tryz.func85 (by kernel_rfl) rfl Tryz.ntmps85 rfl (by simp) ?_
        refine a_seq ?_
        refine a_reg ?_
        repeat (first | refine gZ pk ?_ | (show AL _ _ _ _ _ _ _; first | refine jB (fun u => ?_)))
        refine a_frzBox 0 5 rfl rfl ?_
        refine a_frzBox 0 4 rfl rfl ?_
        refine a_frzBox 0 3 rfl rfl ?_
        repeat (first | refine gA pk ?_ | (show AL _ _ _ _ _ _ _; first | refine jP s1 ?_ | refine s_frzNow 0 rfl rfl rfl (s_build tok rfl rfl rfl rfl rfl rfl rfl rfl (by decide) (by decide) (fun v => AL.nil ⟨v, rfl, rfl, rfl⟩)) ?_))
        refine a_loopX (fun k : Nat => [(3, tysP t), (4, .ip [ints pn, edsA pe]), (5, .ip [ints gn, edsA ge]), (22, .im 2 [[ints pn, edsA pe], [ints gn, edsA ge]]), (23, AI 2), (24, AI k)]) (fun _ => []) (fun k => k ≤ 1) (fun k => 1 - k) 0 (Nat.zero_le _) ?_ (OSub.none _) ?_
        · exact subQ
        · intro k hk
          have hk3 : k = 0 ∨ k = 1 := by omega
          rcases hk3 with rfl | rfl
          · repeat (first | refine gA pk ?_ | (show AL _ _ _ _ _ _ _; first | refine jX tok k0 ?_ | refine jL tok (fun u => ?_) | refine jS tok 0 ?_ | refine jO tok 0 ?_ | refine jP s2 ?_))
            exact ⟨1, by omega, by omega, by exact subQ, OSub.none _⟩
          · repeat (first | refine gA pk ?_ | (show AL _ _ _ _ _ _ _; first | refine jX tok k1 ?_ | refine jL tok (fun u => ?_) | refine jS tok 0 ?_ | refine jO tok 0 ?_ | refine jP s3 ?_))
            refine finQ ?_
            exact ⟨rfl, rfl⟩
    · rw [if_pos h1] at hr
      subst hr
      generalize gvalid p = e at *
      obtain ⟨pn, pe⟩ := p
      obtain ⟨gn, ge⟩ := g
      change Pure _ _ [.agg [ints pn, edsA pe]] _ at s2
      change Pure _ _ [.agg [ints gn, edsA ge]] _ at s3
      have k0 : ([[ints pn, edsA pe], [ints gn, edsA ge]] : List (List AV))[(0 : Int).toNat]? = some [ints pn, edsA pe] := rfl
      have k1 : ([[ints pn, edsA pe], [ints gn, edsA ge]] : List (List AV))[(1 : Int).toNat]? = some [ints gn, edsA ge] := rfl
      refine a_enter Tryz.func85 (by kernel_rfl) rfl Tryz.ntmps85 rfl (by simp) ?_
      refine a_seq ?_
      refine a_reg ?_
      repeat (first | refine gZ pk ?_ | (show AL _ _ _ _ _ _ _; first | refine jB (fun u => ?_)))
      refine a_frzBox 0 5 rfl rfl ?_
      refine a_frzBox 0 4 rfl rfl ?_
      refine a_frzBox 0 3 rfl rfl ?_
      repeat (first | refine gA pk ?_ | (show AL _ _ _ _ _ _ _; first | refine jP s1 ?_ | refine s_frzNow 0 rfl rfl rfl (s_build tok rfl rfl rfl rfl rfl rfl rfl rfl (by decide) (by decide) (fun v => AL.nil ⟨v, rfl, rfl, rfl⟩)) ?_))
      refine a_loopX (fun k : Nat => [(3, tysP t), (4, .ip [ints pn, edsA pe]), (5, .ip [ints gn, edsA ge]), (22, .im 2 [[ints pn, edsA pe], [ints gn, edsA ge]]), (23, AI 2), (24, AI k)]) (fun _ => []) (fun k => k ≤ 0) (fun k => 0 - k) 0 (Nat.zero_le _) ?_ (OSub.none _) ?_
      · exact subQ
      · intro k hk
        have hk3 : k = 0 := by omega
        subst hk3
        · repeat (first | refine gA pk ?_ | (show AL _ _ _ _ _ _ _; first | refine jX tok k0 ?_ | refine jL tok (fun u => ?_) | refine jS tok 0 ?_ | refine jO tok 0 ?_ | refine jP s2 ?_))
          refine finQ ?_
          exact ⟨rfl, rfl⟩
  · rw [if_pos hv] at hr
    subst hr
    generalize (validR t).2 = e at *
    obtain ⟨pn, pe⟩ := p
    obtain ⟨gn, ge⟩ := g
    change Pure _ _ [.agg [ints pn, edsA pe]] _ at s2
    change Pure _ _ [.agg [ints gn, edsA ge]] _ at s3
    have k0 : ([[ints pn, edsA pe], [ints gn, edsA ge]] : List (List AV))[(0 : Int).toNat]? = some [ints pn, edsA pe] := rfl
    have k1 : ([[ints pn, edsA pe], [ints gn, edsA ge]] : List (List AV))[(1 : Int).toNat]? = some [ints gn, edsA ge] := rfl
    refine a_enter Tryz.func85 (by kernel_rfl) rfl Tryz.ntmps85 rfl (by simp) ?_
    refine a_seq ?_
    refine a_reg ?_
    repeat (first | refine gZ pk ?_ | (show AL _ _ _ _ _ _ _; first | refine jB (fun u => ?_)))
    refine a_frzBox 0 5 rfl rfl ?_
    refine a_frzBox 0 4 rfl rfl ?_
    refine a_frzBox 0 3 rfl rfl ?_
    repeat (first | refine gA pk ?_ | (show AL _ _ _ _ _ _ _; first | refine jP s1 ?_))
    refine finQ ?_
    exact ⟨rfl, rfl⟩
abbrev nilS : AV := .lit (.slice none 0 0)
def optA : Option (List Int) → AV
  | none => nilS
  | some x => ints x
theorem sgiven_spec (l : Option (List Int)) (i : Nat) (hi : ∀ x, l = some x → i < x.length ∧ x.length ≤ 1000) : Pure Tryz.prog 154 [optA l, AI i] (AI (gvn l i)) := by
  cases l with
  | none =>
    show Pure _ _ [nilS, AI i] (AI (-1))
    refine a_enter Tryz.func154 (by kernel_rfl) rfl Tryz.ntmps154 rfl (by simp) ?_
    repeat (first | refine gA pk ?_ | (show AL _ _ _ _ _ _ _; first | refine s_nilNil tok rfl rfl rfl rfl rfl rfl ?_))
    refine finQ ?_
    exact ⟨rfl, rfl⟩
  | some x =>
    obtain ⟨h1, h2⟩ := hi x rfl
    have lx : (rowI x).length = x.length := by simp
    have hx := List.getElem?_eq_getElem h1
    have hg : gvn (some x) i = x[i] := by
      show x.getD i (-1) = _
      rw [List.getD_eq_getElem?_getD, hx]; rfl
    rw [hg]
    generalize x[i] = y at hx
    have xk : (rowI x)[(i : Int).toNat]? = some [AI y] := map_get (f := cI) hx
    cases x with
    | nil => cases h1
    | cons z zs =>
      show Pure _ _ [ints (z :: zs), AI i] _
      refine a_enter Tryz.func154 (by kernel_rfl) rfl Tryz.ntmps154 rfl (by simp) ?_
      repeat (first | refine gA pk ?_)
      refine s_eqNil tok rfl rfl rfl rfl rfl rfl (fun h => ?_) ?_
      · cases h
      · repeat (first | refine gA pk ?_ | (show AL _ _ _ _ _ _ _; first | refine jX tok xk ?_))
        refine finQ ?_
        exact ⟨rfl, rfl⟩
end Go.Proofs.YtddohheabpiljaaGreat

end
