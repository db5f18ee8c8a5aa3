/-
  CodeIn of the reference; the chapter's example: the walks.
-/
import Derived.Test.YtoaenbfidlgjhaaSjQ8
import Derived.Test.YtoaenbfidlgjhaaW13
import Derived.Test.YtoaenbfidlgjhaaW10
namespace Go.Proofs.Ytoaenbfidlgjhaa
open Go.Sj Go.Sj.Typ Go.Sj.Sta Go.Sj.Can
set_option linter.unusedVariables false
set_option linter.unusedSimpArgs false
set_option maxHeartbeats 16000000

theorem any_stop {p : Int → Bool} {o : List Int} {k : Nat} {x : Int} (hx : o[k]? = some x) (h : p x = true) : o.any p = true := List.any_eq_true.2 ⟨x, List.mem_of_getElem? hx, h⟩
theorem none_next {p : Int → Bool} {o : List Int} {k : Nat} {x : Int} (hx : o[k]? = some x) (h : p x = false) (hn : ∀ y ∈ o.take k, p y = false) : ∀ y ∈ o.take (k + 1), p y = false := fun y hy => by
  rw [List.take_add_one, hx] at hy
  rcases List.mem_append.1 hy with hy | hy
  · exact hn y hy
  · simp at hy; subst hy; exact h
theorem rCodeIn_spec (g : Gr) (hg : OkG g) (o : List Int) (ho : o.length ≤ 1000000) : Pure Try.prog 16 [grA g, ints o] (.tup [ints (codeInR g o).1, AI (codeInR g o).2]) := by
  have s1 := rvalid_spec g hg
  have ln : (rowI g.nodes).length = g.nodes.length := by simp
  have lo : (rowI o).length = o.length := by simp
  obtain ⟨r, hr⟩ : ∃ r, codeInR g o = r := ⟨_, rfl⟩
  rw [hr]
  unfold codeInR codeInE at hr
  by_cases h : cvalid g = 0
  · have hV := cvalid_zero.1 h
    have hnl := hV.1.nl
    rw [if_neg (Decidable.not_not.2 h)] at hr
    rw [h] at s1
    by_cases h1 : o.length = g.nodes.length
    · rw [if_neg (Decidable.not_not.2 h1)] at hr
      have h6 : ∀ x k, o[k]? = some x → rngB g x = true → r = ([], 6) := fun x k hx hb => by
        rw [if_pos (any_stop hx hb), if_pos (by decide)] at hr
        exact hr.symm
      have hok6 : (∀ y ∈ o, rngB g y = false) → (∀ x ∈ o, 0 ≤ x ∧ x < g.nodes.length) ∧ (∀ x k, o[k]? = some x → x ∈ o.take k → r = ([], 5)) ∧ (o.Nodup → r = (cd (nN g) (tT g) g.nodes.length o, 0)) := fun hno => by
        have h2 : ¬ o.any (rngB g) = true := by
          rw [List.any_eq_true]
          rintro ⟨x, hx, hb⟩
          rw [hno x hx] at hb
          cases hb
        rw [if_neg h2] at hr
        refine ⟨fun x hx => ?_, fun x k hx hn => ?_, fun hh => ?_⟩
        · have := hno x hx
          unfold rngB at this
          simp only [Bool.or_eq_false_iff, decide_eq_false_iff_not] at this
          omega
        · rw [if_pos (not_nodup hx hn), if_pos (by decide)] at hr
          exact hr.symm
        · rw [if_neg (Decidable.not_not.2 hh), if_neg (by decide)] at hr
          exact hr.symm
      have s4 := fun (hh : o.Nodup) (hrg : ∀ x ∈ o, 0 ≤ x ∧ x < g.nodes.length) => rcodeIn_spec g hV.1 hV.2 o ⟨⟨hh, hrg⟩, h1⟩
      clear hr
      refine a_enter Try.func16 (by kernel_rfl) rfl Try.ntmps16 rfl (by simp) ?_; refine a_seq ?_; refine a_reg ?_; (repeat (first | refine gZ pk ?_ | (show AL _ _ _ _ _ _ _; first | refine jB (fun u => ?_)))); refine a_frzBox 0 2 rfl rfl ?_
      repeat (first | refine gA pk ?_ | (show AL _ _ _ _ _ _ _; first | refine jP s1 ?_))
      refine a_loopX (fun k : Nat => [(1, ints o), (2, grP g), (7, AI k)]) (fun _ => []) (fun k => k ≤ o.length ∧ ∀ y ∈ o.take k, rngB g y = false) (fun k => o.length - k) 0 ⟨Nat.zero_le _, by simp⟩ ?_ (OSub.none _) ?_
      · exact subQ
      · rintro k ⟨hk, hno⟩
        rcases Nat.lt_or_ge k o.length with hl | hl
        · have hx := List.getElem?_eq_getElem hl
          generalize o[k] = x at hx
          have xk : (rowI o)[(k : Int).toNat]? = some [AI x] := map_get (f := cI) hx
          by_cases hb1 : x < 0
          · have hr6 := h6 x k hx (by unfold rngB; rw [decide_eq_true hb1, Bool.true_or])
            subst hr6
            repeat (first | refine gA pk ?_ | (show AL _ _ _ _ _ _ _; first | refine jX tok xk ?_))
            exact fin (x := .tup [.lit _, .lit _]) (.inr rfl) rfl (Sub.tup (l := [.lit (.slice none 0 0), AI 6]) (m := [ints [], AI 6]) ⟨Sub.nil 1, Sub.refl _, trivial⟩) ⟨rfl, rfl⟩ (OSub.none _)
          · by_cases hb2 : (g.nodes.length : Int) ≤ x
            · have hr6 := h6 x k hx (by unfold rngB; rw [decide_eq_true hb2, Bool.or_true])
              subst hr6
              repeat (first | refine gA pk ?_ | (show AL _ _ _ _ _ _ _; first | refine jX tok xk ?_))
              exact fin (x := .tup [.lit _, .lit _]) (.inr rfl) rfl (Sub.tup (l := [.lit (.slice none 0 0), AI 6]) (m := [ints [], AI 6]) ⟨Sub.nil 1, Sub.refl _, trivial⟩) ⟨rfl, rfl⟩ (OSub.none _)
            · have hn2 := none_next hx (by unfold rngB; rw [decide_eq_false hb1, decide_eq_false hb2]; rfl) hno
              repeat (first | refine gA pk ?_ | (show AL _ _ _ _ _ _ _; first | refine jX tok xk ?_))
              exact ⟨k + 1, ⟨by omega, hn2⟩, by omega, by exact subQ, OSub.none _⟩
        · obtain rfl : k = o.length := by omega
          rw [List.take_length] at hno
          obtain ⟨hrg, h5, hok⟩ := hok6 hno
          repeat (first | refine gN pk ?_)
          refine a_loopX (fun k : Nat => [(1, ints o), (2, grP g), (8, AI k)]) (fun _ => []) (fun k => k ≤ o.length ∧ (o.take k).Nodup) (fun k => o.length - k) 0 ⟨Nat.zero_le _, by simp⟩ ?_ (OSub.none _) ?_
          · exact subQ
          · rintro k ⟨hk, hdk⟩
            rcases Nat.lt_or_ge k o.length with hl2 | hl2
            · have hx := List.getElem?_eq_getElem hl2
              generalize o[k] = x at hx
              have xk : (rowI o)[(k : Int).toNat]? = some [AI x] := map_get (f := cI) hx
              have h5' := h5 x k hx
              have hd2 := fun hn => nodup_take hdk hx hn
              repeat (first | refine gN pk ?_)
              refine a_loopX (fun q : Nat => [(1, ints o), (2, grP g), (8, AI k), (9, AI q)]) (fun _ => []) (fun q => q ≤ k ∧ x ∉ o.take q) (fun q => k - q) 0 ⟨Nat.zero_le _, by simp⟩ ?_ (OSub.none _) ?_
              · exact subQ
              · rintro q ⟨hq, hnq⟩
                rcases Nat.lt_or_ge q k with hql | hql
                · have hy := List.getElem?_eq_getElem (l := o) (i := q) (by omega)
                  generalize o[q]'(by omega) = y at hy
                  have yk : (rowI o)[(q : Int).toNat]? = some [AI y] := map_get (f := cI) hy
                  by_cases hxy : x = y
                  · have hr5 := h5' (by
                      rw [List.mem_take_iff_getElem]
                      obtain ⟨z1, z2⟩ := List.getElem?_eq_some_iff.1 hy
                      exact ⟨q, by omega, by rw [z2, hxy]⟩)
                    subst hr5
                    repeat (first | refine gA pk ?_ | (show AL _ _ _ _ _ _ _; first | refine jX tok xk ?_ | refine jX tok yk ?_))
                    exact fin (x := .tup [.lit _, .lit _]) (.inr rfl) rfl (Sub.tup (l := [.lit (.slice none 0 0), AI 5]) (m := [ints [], AI 5]) ⟨Sub.nil 1, Sub.refl _, trivial⟩) ⟨rfl, rfl⟩ (OSub.none _)
                  · have hn2 : x ∉ o.take (q + 1) := fun hm => by
                      rw [List.take_add_one, hy] at hm
                      rcases List.mem_append.1 hm with hm | hm
                      · exact hnq hm
                      · simp at hm; exact hxy hm
                    repeat (first | refine gA pk ?_ | (show AL _ _ _ _ _ _ _; first | refine jX tok xk ?_ | refine jX tok yk ?_))
                    exact ⟨q + 1, ⟨by omega, hn2⟩, by omega, by exact subQ, OSub.none _⟩
                · obtain rfl : q = k := by omega
                  have hd3 := hd2 hnq
                  repeat (first | refine gA pk ?_)
                  exact ⟨q + 1, ⟨by omega, hd3⟩, by omega, by exact subQ, OSub.none _⟩
            · obtain rfl : k = o.length := by omega
              rw [List.take_length] at hdk
              have s6 := s4 hdk hrg
              have hr5 := hok hdk
              subst hr5
              generalize cd (nN g) (tT g) g.nodes.length o = c at *
              repeat (first | refine gA pk ?_ | (show AL _ _ _ _ _ _ _; first | refine jP s6 ?_))
              refine finQ ?_
              exact ⟨rfl, rfl⟩
    · rw [if_pos h1, if_pos (by decide)] at hr
      subst hr
      refine a_enter Try.func16 (by kernel_rfl) rfl Try.ntmps16 rfl (by simp) ?_; refine a_seq ?_; refine a_reg ?_; (repeat (first | refine gZ pk ?_ | (show AL _ _ _ _ _ _ _; first | refine jB (fun u => ?_)))); refine a_frzBox 0 2 rfl rfl ?_
      repeat (first | refine gA pk ?_ | (show AL _ _ _ _ _ _ _; first | refine jP s1 ?_))
      exact fin (x := .tup [.lit _, .lit _]) (.inr rfl) rfl (Sub.tup (l := [.lit (.slice none 0 0), AI 20]) (m := [ints [], AI 20]) ⟨Sub.nil 1, Sub.refl _, trivial⟩) ⟨rfl, rfl⟩ (OSub.none _)
  · rw [if_pos h, if_pos h] at hr
    subst hr
    generalize cvalid g = e at *
    refine a_enter Try.func16 (by kernel_rfl) rfl Try.ntmps16 rfl (by simp) ?_; refine a_seq ?_; refine a_reg ?_; (repeat (first | refine gZ pk ?_ | (show AL _ _ _ _ _ _ _; first | refine jB (fun u => ?_)))); refine a_frzBox 0 2 rfl rfl ?_
    repeat (first | refine gA pk ?_ | (show AL _ _ _ _ _ _ _; first | refine jP s1 ?_))
    exact fin (x := .tup [.lit _, .lit _]) (.inr rfl) rfl (Sub.tup (l := [.lit (.slice none 0 0), AI e]) (m := [ints [], AI e]) ⟨Sub.nil 1, Sub.refl _, trivial⟩) ⟨rfl, rfl⟩ (OSub.none _)
/-! The example. -/
def exC : Gr := ⟨[3, 1], [⟨0, 0, 1⟩]⟩
def exD : Gr := ⟨[1, 3], [⟨0, 1, 0⟩]⟩
theorem exC_ok : OkS' exC := .inl (by decide)
theorem exC_codeIn : codeInR exC [0, 1] = ([2, 3, 0, 1, 1, 0, 0, 0], 0) := by decide +kernel
theorem exC_code : codeR exC = ([2, 1, 0, 3, 0, 1, 0, 0], 0) := by decide +kernel
theorem exC_can : canR exC = (exD, ([1, 0], [0]), 0) := by kernel_rfl
theorem awakeC_spec : Pure Try.prog 11 [] (AB true) := by
  have s1 := CodeIn_spec exC ⟨by decide, by decide⟩ (fun _ => exC_ok) [0, 1] (by decide)
  have s2 := Code_spec exC ⟨by decide, by decide⟩ (fun _ => exC_ok)
  have s3 := COf_spec exC ⟨by decide, by decide⟩ (fun _ => exC_ok)
  rw [exC_codeIn] at s1
  rw [exC_code] at s2
  rw [exC_can] at s3
  have s4 := gSame_spec exD exD ⟨by decide, by decide⟩ ⟨by decide, by decide⟩
  rw [gSame_self] at s4
  have s5 := Equal_spec [2, 3, 0, 1, 1, 0, 0, 0] [2, 3, 0, 1, 1, 0, 0, 0] (by decide) (by decide)
  have s6 := Equal_spec [2, 1, 0, 3, 0, 1, 0, 0] [2, 1, 0, 3, 0, 1, 0, 0] (by decide) (by decide)
  have s7 := Equal_spec [1, 0] [1, 0] (by decide) (by decide)
  rw [decide_eq_true rfl] at s5 s6 s7
  refine a_enter Try.func11 (by kernel_rfl) rfl Try.ntmps11 rfl (by simp) ?_
  repeat (first | refine gA pk ?_ | (show AL _ _ _ _ _ _ _; first | refine jP s1 ?_ | refine jP s2 ?_ | refine jP s3 ?_ | refine jP s4 ?_ | refine jP s5 ?_ | refine jP s6 ?_ | refine jP s7 ?_ | refine s_frzNow 0 rfl rfl rfl (s_build tok rfl rfl rfl rfl rfl rfl rfl rfl (by decide) (by decide) (fun v => AL.nil ⟨v, rfl, rfl, rfl⟩)) ?_ | refine jL tok (fun u => ?_) | refine jS tok 0 ?_ | refine jS tok 1 ?_ | refine jO tok 0 ?_ | refine jO tok 1 ?_ | refine jO tok 2 ?_))
  refine finQ ?_
  exact ⟨rfl, rfl⟩
end Go.Proofs.Ytoaenbfidlgjhaa
