/-
  Comparison, nodes that can be exchanged, open nodes: the reference's walks. Conditions: valid graphs of at most 8 nodes.
-/
import Derived.Test.YtoaenbfidlgjhaaSjQ8
import Derived.Test.YtoaenbfidlgjhaaW14
namespace Go.Proofs.Ytoaenbfidlgjhaa
open Go.Sj Go.Sj.Typ Go.Sj.Sta Go.Sj.Can
set_option linter.unusedVariables false
set_option linter.unusedSimpArgs false
set_option maxHeartbeats 16000000

theorem rcmp_spec (xs ys : List Int) (hx : xs.length ≤ 1000000) (hy : ys.length ≤ 1000000) : Pure Try.prog 54 [ints xs, ints ys] (AI (cmpL xs ys)) := by
  have lx : (rowI xs).length = xs.length := by simp
  have ly : (rowI ys).length = ys.length := by simp
  obtain ⟨r, hr⟩ : ∃ r, cmpL xs ys = r := ⟨_, rfl⟩
  rw [hr]
  refine a_enter Try.func54 (by kernel_rfl) rfl Try.ntmps54 rfl (by simp) ?_
  repeat (first | refine gA pk ?_)
  refine a_loopX (fun k : Nat => [(0, ints xs), (1, ints ys), (5, AI k)]) (fun _ => []) (fun k => k ≤ xs.length ∧ k ≤ ys.length ∧ cmpL (xs.drop k) (ys.drop k) = r) (fun k => xs.length - k) 0 ⟨Nat.zero_le _, Nat.zero_le _, hr⟩ ?_ (OSub.none _) ?_
  · exact subQ
  · rintro k ⟨hk, hk2, hc⟩
    by_cases hkx : k < xs.length
    · by_cases hky : k < ys.length
      · rw [cmpL_drop hkx hky] at hc
        have h1 := List.getElem?_eq_getElem hkx
        have h2 := List.getElem?_eq_getElem hky
        generalize xs[k] = x at *
        generalize ys[k] = y at *
        have xk : (rowI xs)[(k : Int).toNat]? = some [AI x] := map_get (f := cI) h1
        have yk : (rowI ys)[(k : Int).toNat]? = some [AI y] := map_get (f := cI) h2
        by_cases hlt : x < y
        · have : r = -1 := by
            rw [if_pos (by unfold cmpI; rw [if_pos hlt]; decide)] at hc
            rw [← hc]; unfold cmpI; rw [if_pos hlt]
          subst this
          repeat (first | refine gA pk ?_ | (show AL _ _ _ _ _ _ _; first | refine jX tok xk ?_ | refine jX tok yk ?_))
          refine finQ ?_
          exact ⟨rfl, rfl⟩
        · by_cases hgt : y < x
          · have : r = 1 := by
              rw [if_pos (by unfold cmpI; rw [if_neg hlt, if_pos hgt]; decide)] at hc
              rw [← hc]; unfold cmpI; rw [if_neg hlt, if_pos hgt]
            subst this
            repeat (first | refine gA pk ?_ | (show AL _ _ _ _ _ _ _; first | refine jX tok xk ?_ | refine jX tok yk ?_))
            refine finQ ?_
            exact ⟨rfl, rfl⟩
          · rw [if_neg (by rw [Decidable.not_not]; exact cmpI_zero.2 (by omega))] at hc
            repeat (first | refine gA pk ?_ | (show AL _ _ _ _ _ _ _; first | refine jX tok xk ?_ | refine jX tok yk ?_))
            exact ⟨k + 1, ⟨by omega, by omega, hc⟩, by omega, by exact subQ, OSub.none _⟩
      · have e : ys.drop k = [] := List.drop_of_length_le (by omega)
        have : r = 1 := by
          rw [e, List.drop_eq_getElem_cons hkx] at hc
          rw [← hc]; rfl
        subst this
        repeat (first | refine gA pk ?_)
        refine finQ ?_
        exact ⟨rfl, rfl⟩
    · have e : xs.drop k = [] := List.drop_of_length_le (by omega)
      by_cases hky : k < ys.length
      · have : r = -1 := by
          rw [e, List.drop_eq_getElem_cons hky] at hc
          rw [← hc]; rfl
        subst this
        repeat (first | refine gA pk ?_)
        refine finQ ?_
        exact ⟨rfl, rfl⟩
      · have e2 : ys.drop k = [] := List.drop_of_length_le (by omega)
        have : r = 0 := by
          rw [e, e2] at hc
          rw [← hc]; rfl
        subst this
        repeat (first | refine gA pk ?_)
        refine finQ ?_
        exact ⟨rfl, rfl⟩
theorem rin_spec (l : List Int) (hl : l.length ≤ 1000000) (n : Int) : Pure Try.prog 90 [ints l, AI n] (AB (decide (n ∈ l))) := by
  have lx : (rowI l).length = l.length := by simp
  refine a_enter Try.func90 (by kernel_rfl) rfl Try.ntmps90 rfl (by simp) ?_
  repeat (first | refine gA pk ?_)
  refine a_loopX (fun k : Nat => [(0, ints l), (1, AI n), (5, AI k)]) (fun _ => []) (fun k => k ≤ l.length ∧ n ∉ l.take k) (fun k => l.length - k) 0 ⟨Nat.zero_le _, by simp⟩ ?_ (OSub.none _) ?_
  · exact subQ
  · rintro k ⟨hk, hno⟩
    rcases Nat.lt_or_ge k l.length with h | h
    · have hx := List.getElem?_eq_getElem h
      generalize l[k] = x at hx
      have xk : (rowI l)[(k : Int).toNat]? = some [AI x] := map_get (f := cI) hx
      by_cases he : x = n
      · rw [decide_eq_true (by rw [← he]; exact List.mem_of_getElem? hx)]
        repeat (first | refine gA pk ?_ | (show AL _ _ _ _ _ _ _; first | refine jX tok xk ?_))
        refine finQ ?_
        exact ⟨rfl, rfl⟩
      · have hn2 : n ∉ l.take (k + 1) := fun hm => by
          rw [List.take_add_one, hx] at hm
          rcases List.mem_append.1 hm with hm | hm
          · exact hno hm
          · simp at hm; exact he hm.symm
        repeat (first | refine gA pk ?_ | (show AL _ _ _ _ _ _ _; first | refine jX tok xk ?_))
        exact ⟨k + 1, ⟨by omega, hn2⟩, by omega, by exact subQ, OSub.none _⟩
    · rw [List.take_of_length_le (by omega)] at hno
      rw [decide_eq_false hno]
      repeat (first | refine gA pk ?_)
      refine finQ ?_
      exact ⟨rfl, rfl⟩
theorem rtwins_spec (g : Gr) (hg : GV g) (hn : g.nodes.length ≤ 8) (a b : Nat) (ha : a < g.nodes.length) (hb : b < g.nodes.length) : Pure Try.prog 91 [grA g, AI a, AI b] (AB (twB (nN g) (tT g) g.nodes.length a b)) := by
  have hel := hg.el
  have ln : (rowI g.nodes).length = g.nodes.length := by simp
  have na : (rowI g.nodes)[(a : Int).toNat]? = some [AI (nN g a)] := map_get (f := cI) (nodeAt_get (by omega) (by omega))
  have nb : (rowI g.nodes)[(b : Int).toNat]? = some [AI (nN g b)] := map_get (f := cI) (nodeAt_get (by omega) (by omega))
  have st := fun (x y : Int) => rtypes_spec g hg x y
  have sq := fun (x y u v : Int) => rcmp_spec (tT g x y) (tT g u v) (by have := tT_le g x y; omega) (by have := tT_le g u v; omega)
  have saa := st a a
  have sbb := st b b
  have sab := st a b
  have sba := st b a
  have q1 := sq a a b b
  have q2 := sq a b b a
  by_cases h1 : nN g a = nN g b
  · by_cases h2 : tT g a a = tT g b b
    · have z2 : cmpL (tT g a a) (tT g b b) = 0 := by rw [h2, cmpL_self]
      rw [z2] at q1
      by_cases h3 : tT g a b = tT g b a
      · have z3 : cmpL (tT g a b) (tT g b a) = 0 := by rw [h3, cmpL_self]
        rw [z3] at q2
        obtain ⟨r, hr⟩ : ∃ r, twB (nN g) (tT g) g.nodes.length a b = r := ⟨_, rfl⟩
        rw [hr]
        have hmk : (∀ w : Nat, w < g.nodes.length → (w : Int) ≠ a → (w : Int) ≠ b → tT g a w = tT g b w ∧ tT g w a = tT g w b) → r = true := fun hw => hr.symm.trans (twB_iff.2 ⟨h1, h2, h3, hw⟩)
        have hfl : ∀ c : Nat, c < g.nodes.length → (c : Int) ≠ a → (c : Int) ≠ b → ¬ (tT g a c = tT g b c ∧ tT g c a = tT g c b) → r = false := fun c h e1 e2 hn => hr.symm.trans (twB_false fun hT => hn (hT.ot c h e1 e2))
        clear hr z2 z3
        generalize nN g a = x at *
        generalize nN g b = y at *
        refine a_enter Try.func91 (by kernel_rfl) rfl Try.ntmps91 rfl (by simp) ?_; refine a_seq ?_; refine a_reg ?_; (repeat (first | refine gZ pk ?_ | (show AL _ _ _ _ _ _ _; first | refine jB (fun u => ?_)))); refine a_frzBox 0 3 rfl rfl ?_
        repeat (first | refine gN pk ?_)
        refine a_regG ((List.range 35).map fun i => if inL [15, 19, 20, 27, 31, 32] i = true then .eff else .pure) [] [0, 1, 2, 3, 4, 5, 6, 7, 8, 9, 10, 11, 12, 13, 14, 16, 17, 18, 15, 19, 20, 21, 22, 23, 24, 25, 26, 28, 29, 30, 27, 31, 32, 33, 34] .stop mixed rfl rfl (by decide +kernel) ?_
        repeat' (first | (with_reducible show AG _ _ _ _ _ _ _ _ _ _; first | exact ag_none | refine ag_stop ?_ | refine ag_nd ?_ ?_) | (show AMid _ _ _ _; first | refine amid_f ?_ | refine amid_g (by first | exact OSub.refl _ | exact .drop (OSub.refl _) | exact .drop (.drop (OSub.refl _))) ?_) | refine gY pk ?_ | (show AL _ _ _ _ _ _ _; first | refine jX tok na ?_ | refine jX tok nb ?_ | refine jP saa ?_ | refine jP sbb ?_ | refine jP sab ?_ | refine jP sba ?_ | refine jP q1 ?_ | refine jP q2 ?_) | fail)
        repeat (first | refine gN pk ?_)
        refine a_loopX (fun c : Nat => [(1, AI a), (2, AI b), (3, grP g), (7, AI c)]) (fun _ => []) (fun c => c ≤ g.nodes.length ∧ ∀ w : Nat, w < c → (w : Int) ≠ a → (w : Int) ≠ b → tT g a w = tT g b w ∧ tT g w a = tT g w b) (fun c => g.nodes.length - c) 0 ⟨Nat.zero_le _, fun w hw => by omega⟩ ?_ (OSub.none _) ?_
        · exact subQ
        · rintro c ⟨hc, hw⟩
          rcases Nat.lt_or_ge c g.nodes.length with h | h
          · have sac := st a c
            have sbc := st b c
            have sca := st c a
            have scb := st c b
            have q3 := sq a c b c
            have q4 := sq c a c b
            by_cases e1 : c = a
            · subst e1
              have hall : ∀ w : Nat, w < c + 1 → (w : Int) ≠ c → (w : Int) ≠ b → tT g c w = tT g b w ∧ tT g w c = tT g w b := fun w h1 h2 h3 => hw w (by omega) h2 h3
              repeat (first | refine gN pk ?_)
              refine a_regG ((List.range 32).map fun i => if inL [12, 16, 17, 23, 27, 28] i = true then .eff else .pure) [] [0, 1, 2, 3, 4, 5, 6, 7, 8, 9, 10, 11, 13, 14, 15, 12, 16, 17, 18, 19, 20, 21, 22, 24, 25, 26, 23, 27, 28, 29, 30, 31] .stop mixed rfl rfl (by decide +kernel) ?_
              repeat' (first | (with_reducible show AG _ _ _ _ _ _ _ _ _ _; first | exact ag_none | refine ag_stop ?_ | refine ag_nd ?_ ?_) | (show AMid _ _ _ _; first | refine amid_f ?_ | refine amid_g (by first | exact OSub.refl _ | exact .drop (OSub.refl _) | exact .drop (.drop (OSub.refl _))) ?_) | refine gY pk ?_ | (show AL _ _ _ _ _ _ _; first | refine jP sac ?_ | refine jP sbc ?_ | refine jP sca ?_ | refine jP scb ?_ | refine jP q3 ?_ | refine jP q4 ?_) | fail)
              repeat (first | refine gA pk ?_)
              exact ⟨c + 1, ⟨by omega, hall⟩, by omega, by exact subQ, OSub.none _⟩
            · by_cases e2 : c = b
              · subst e2
                have hall : ∀ w : Nat, w < c + 1 → (w : Int) ≠ a → (w : Int) ≠ c → tT g a w = tT g c w ∧ tT g w a = tT g w c := fun w h1 h2 h3 => hw w (by omega) h2 h3
                repeat (first | refine gN pk ?_)
                refine a_regG ((List.range 32).map fun i => if inL [12, 16, 17, 23, 27, 28] i = true then .eff else .pure) [] [0, 1, 2, 3, 4, 5, 6, 7, 8, 9, 10, 11, 13, 14, 15, 12, 16, 17, 18, 19, 20, 21, 22, 24, 25, 26, 23, 27, 28, 29, 30, 31] .stop mixed rfl rfl (by decide +kernel) ?_
                repeat' (first | (with_reducible show AG _ _ _ _ _ _ _ _ _ _; first | exact ag_none | refine ag_stop ?_ | refine ag_nd ?_ ?_) | (show AMid _ _ _ _; first | refine amid_f ?_ | refine amid_g (by first | exact OSub.refl _ | exact .drop (OSub.refl _) | exact .drop (.drop (OSub.refl _))) ?_) | refine gY pk ?_ | (show AL _ _ _ _ _ _ _; first | refine jP sac ?_ | refine jP sbc ?_ | refine jP sca ?_ | refine jP scb ?_ | refine jP q3 ?_ | refine jP q4 ?_) | fail)
                repeat (first | refine gA pk ?_)
                exact ⟨c + 1, ⟨by omega, hall⟩, by omega, by exact subQ, OSub.none _⟩
              · have hf := hfl c h (by omega) (by omega)
                by_cases h4 : tT g a c = tT g b c
                · have z4 : cmpL (tT g a c) (tT g b c) = 0 := by rw [h4, cmpL_self]
                  rw [z4] at q3
                  by_cases h5 : tT g c a = tT g c b
                  · have z5 : cmpL (tT g c a) (tT g c b) = 0 := by rw [h5, cmpL_self]
                    rw [z5] at q4
                    have hall : ∀ w : Nat, w < c + 1 → (w : Int) ≠ a → (w : Int) ≠ b → tT g a w = tT g b w ∧ tT g w a = tT g w b := fun w h1 h2 h3 => by
                      by_cases e : w = c
                      · subst e; exact ⟨h4, h5⟩
                      · exact hw w (by omega) h2 h3
                    repeat (first | refine gN pk ?_)
                    refine a_regG ((List.range 32).map fun i => if inL [12, 16, 17, 23, 27, 28] i = true then .eff else .pure) [] [0, 1, 2, 3, 4, 5, 6, 7, 8, 9, 10, 11, 13, 14, 15, 12, 16, 17, 18, 19, 20, 21, 22, 24, 25, 26, 23, 27, 28, 29, 30, 31] .stop mixed rfl rfl (by decide +kernel) ?_
                    repeat' (first | (with_reducible show AG _ _ _ _ _ _ _ _ _ _; first | exact ag_none | refine ag_stop ?_ | refine ag_nd ?_ ?_) | (show AMid _ _ _ _; first | refine amid_f ?_ | refine amid_g (by first | exact OSub.refl _ | exact .drop (OSub.refl _) | exact .drop (.drop (OSub.refl _))) ?_) | refine gY pk ?_ | (show AL _ _ _ _ _ _ _; first | refine jP sac ?_ | refine jP sbc ?_ | refine jP sca ?_ | refine jP scb ?_ | refine jP q3 ?_ | refine jP q4 ?_) | fail)
                    repeat (first | refine gA pk ?_)
                    exact ⟨c + 1, ⟨by omega, hall⟩, by omega, by exact subQ, OSub.none _⟩
                  · have z5 : cmpL (tT g c a) (tT g c b) ≠ 0 := fun e => h5 (cmpL_eq e)
                    generalize cmpL (tT g c a) (tT g c b) = z at *
                    have hrf : r = false := hf fun hT => h5 hT.2
                    subst hrf
                    repeat (first | refine gN pk ?_)
                    refine a_regG ((List.range 32).map fun i => if inL [12, 16, 17, 23, 27, 28] i = true then .eff else .pure) [] [0, 1, 2, 3, 4, 5, 6, 7, 8, 9, 10, 11, 13, 14, 15, 12, 16, 17, 18, 19, 20, 21, 22, 24, 25, 26, 23, 27, 28, 29, 30, 31] .stop mixed rfl rfl (by decide +kernel) ?_
                    repeat' (first | (with_reducible show AG _ _ _ _ _ _ _ _ _ _; first | exact ag_none | refine ag_stop ?_ | refine ag_nd ?_ ?_) | (show AMid _ _ _ _; first | refine amid_f ?_ | refine amid_g (by first | exact OSub.refl _ | exact .drop (OSub.refl _) | exact .drop (.drop (OSub.refl _))) ?_) | refine gY pk ?_ | (show AL _ _ _ _ _ _ _; first | refine jP sac ?_ | refine jP sbc ?_ | refine jP sca ?_ | refine jP scb ?_ | refine jP q3 ?_ | refine jP q4 ?_) | fail)
                    repeat (first | refine gA pk ?_)
                    refine finQ ?_
                    exact ⟨rfl, rfl⟩
                · have z4 : cmpL (tT g a c) (tT g b c) ≠ 0 := fun e => h4 (cmpL_eq e)
                  generalize cmpL (tT g a c) (tT g b c) = z at *
                  have hrf : r = false := hf fun hT => h4 hT.1
                  subst hrf
                  repeat (first | refine gN pk ?_)
                  refine a_regG ((List.range 32).map fun i => if inL [12, 16, 17, 23, 27, 28] i = true then .eff else .pure) [] [0, 1, 2, 3, 4, 5, 6, 7, 8, 9, 10, 11, 13, 14, 15, 12, 16, 17, 18, 19, 20, 21, 22, 24, 25, 26, 23, 27, 28, 29, 30, 31] .stop mixed rfl rfl (by decide +kernel) ?_
                  repeat' (first | (with_reducible show AG _ _ _ _ _ _ _ _ _ _; first | exact ag_none | refine ag_stop ?_ | refine ag_nd ?_ ?_) | (show AMid _ _ _ _; first | refine amid_f ?_ | refine amid_g (by first | exact OSub.refl _ | exact .drop (OSub.refl _) | exact .drop (.drop (OSub.refl _))) ?_) | refine gY pk ?_ | (show AL _ _ _ _ _ _ _; first | refine jP sac ?_ | refine jP sbc ?_ | refine jP sca ?_ | refine jP scb ?_ | refine jP q3 ?_ | refine jP q4 ?_) | fail)
                  repeat (first | refine gA pk ?_)
                  refine finQ ?_
                  exact ⟨rfl, rfl⟩
          · obtain rfl : c = g.nodes.length := by omega
            have hrt : r = true := hmk hw
            subst hrt
            repeat (first | refine gA pk ?_)
            refine finQ ?_
            exact ⟨rfl, rfl⟩
      · have z3 : cmpL (tT g a b) (tT g b a) ≠ 0 := fun e => h3 (cmpL_eq e)
        generalize cmpL (tT g a b) (tT g b a) = z at *
        rw [twB_false fun hT => h3 hT.ex]
        generalize nN g a = x at *
        generalize nN g b = y at *
        refine a_enter Try.func91 (by kernel_rfl) rfl Try.ntmps91 rfl (by simp) ?_; refine a_seq ?_; refine a_reg ?_; (repeat (first | refine gZ pk ?_ | (show AL _ _ _ _ _ _ _; first | refine jB (fun u => ?_)))); refine a_frzBox 0 3 rfl rfl ?_
        repeat (first | refine gN pk ?_)
        refine a_regG ((List.range 35).map fun i => if inL [15, 19, 20, 27, 31, 32] i = true then .eff else .pure) [] [0, 1, 2, 3, 4, 5, 6, 7, 8, 9, 10, 11, 12, 13, 14, 16, 17, 18, 15, 19, 20, 21, 22, 23, 24, 25, 26, 28, 29, 30, 27, 31, 32, 33, 34] .stop mixed rfl rfl (by decide +kernel) ?_
        repeat' (first | (with_reducible show AG _ _ _ _ _ _ _ _ _ _; first | exact ag_none | refine ag_stop ?_ | refine ag_nd ?_ ?_) | (show AMid _ _ _ _; first | refine amid_f ?_ | refine amid_g (by first | exact OSub.refl _ | exact .drop (OSub.refl _) | exact .drop (.drop (OSub.refl _))) ?_) | refine gY pk ?_ | (show AL _ _ _ _ _ _ _; first | refine jX tok na ?_ | refine jX tok nb ?_ | refine jP saa ?_ | refine jP sbb ?_ | refine jP sab ?_ | refine jP sba ?_ | refine jP q1 ?_ | refine jP q2 ?_) | fail)
        repeat (first | refine gA pk ?_)
        refine finQ ?_
        exact ⟨rfl, rfl⟩
    · have z2 : cmpL (tT g a a) (tT g b b) ≠ 0 := fun e => h2 (cmpL_eq e)
      generalize cmpL (tT g a a) (tT g b b) = z at *
      rw [twB_false fun hT => h2 hT.lp]
      generalize nN g a = x at *
      generalize nN g b = y at *
      refine a_enter Try.func91 (by kernel_rfl) rfl Try.ntmps91 rfl (by simp) ?_; refine a_seq ?_; refine a_reg ?_; (repeat (first | refine gZ pk ?_ | (show AL _ _ _ _ _ _ _; first | refine jB (fun u => ?_)))); refine a_frzBox 0 3 rfl rfl ?_
      repeat (first | refine gN pk ?_)
      refine a_regG ((List.range 35).map fun i => if inL [15, 19, 20, 27, 31, 32] i = true then .eff else .pure) [] [0, 1, 2, 3, 4, 5, 6, 7, 8, 9, 10, 11, 12, 13, 14, 16, 17, 18, 15, 19, 20, 21, 22, 23, 24, 25, 26, 28, 29, 30, 27, 31, 32, 33, 34] .stop mixed rfl rfl (by decide +kernel) ?_
      repeat' (first | (with_reducible show AG _ _ _ _ _ _ _ _ _ _; first | exact ag_none | refine ag_stop ?_ | refine ag_nd ?_ ?_) | (show AMid _ _ _ _; first | refine amid_f ?_ | refine amid_g (by first | exact OSub.refl _ | exact .drop (OSub.refl _) | exact .drop (.drop (OSub.refl _))) ?_) | refine gY pk ?_ | (show AL _ _ _ _ _ _ _; first | refine jX tok na ?_ | refine jX tok nb ?_ | refine jP saa ?_ | refine jP sbb ?_ | refine jP sab ?_ | refine jP sba ?_ | refine jP q1 ?_ | refine jP q2 ?_) | fail)
      repeat (first | refine gA pk ?_)
      refine finQ ?_
      exact ⟨rfl, rfl⟩
  · rw [twB_false fun hT => h1 hT.nd]
    generalize nN g a = x at *
    generalize nN g b = y at *
    refine a_enter Try.func91 (by kernel_rfl) rfl Try.ntmps91 rfl (by simp) ?_; refine a_seq ?_; refine a_reg ?_; (repeat (first | refine gZ pk ?_ | (show AL _ _ _ _ _ _ _; first | refine jB (fun u => ?_)))); refine a_frzBox 0 3 rfl rfl ?_
    repeat (first | refine gN pk ?_)
    refine a_regG ((List.range 35).map fun i => if inL [15, 19, 20, 27, 31, 32] i = true then .eff else .pure) [] [0, 1, 2, 3, 4, 5, 6, 7, 8, 9, 10, 11, 12, 13, 14, 16, 17, 18, 15, 19, 20, 21, 22, 23, 24, 25, 26, 28, 29, 30, 27, 31, 32, 33, 34] .stop mixed rfl rfl (by decide +kernel) ?_
    repeat' (first | (with_reducible show AG _ _ _ _ _ _ _ _ _ _; first | exact ag_none | refine ag_stop ?_ | refine ag_nd ?_ ?_) | (show AMid _ _ _ _; first | refine amid_f ?_ | refine amid_g (by first | exact OSub.refl _ | exact .drop (OSub.refl _) | exact .drop (.drop (OSub.refl _))) ?_) | refine gY pk ?_ | (show AL _ _ _ _ _ _ _; first | refine jX tok na ?_ | refine jX tok nb ?_ | refine jP saa ?_ | refine jP sbb ?_ | refine jP sab ?_ | refine jP sba ?_ | refine jP q1 ?_ | refine jP q2 ?_) | fail)
    repeat (first | refine gA pk ?_)
    refine finQ ?_
    exact ⟨rfl, rfl⟩
/-- What the finder's box holds. -/
def bF : Bst → List AV
  | none => [nilA, nilA, AB false]
  | some (o, c) => [ints o, ints c, AB true]
abbrev fC (g : Gr) (s : Bst) : List AV := ints g.nodes :: edsA g.edges :: bF s
theorem open_spec (g : Gr) (hg : GV g) (hn : g.nodes.length ≤ 8) (s : Bst) (p : List Int) (hp : p.length ≤ 1000) (v : Nat) (hv : v < g.nodes.length) : Pure Try.prog 86 [.ip (fC g s), ints p, AI v] (AB (opn (nN g) (tT g) g.nodes.length p v)) := by
  have s1 := rin_spec p (by omega) v
  have su := fun (u : Nat) => rin_spec p (by omega) u
  have tw := fun (u : Nat) (hu : u < g.nodes.length) => rtwins_spec g hg hn u v hu hv
  obtain ⟨r, hr⟩ : ∃ r, opn (nN g) (tT g) g.nodes.length p v = r := ⟨_, rfl⟩
  rw [hr]
  unfold opn at hr
  by_cases hvp : (v : Int) ∈ p
  · rw [decide_eq_true hvp] at s1 hr
    have : r = false := hr.symm
    subst this
    refine a_enter Try.func86 (by kernel_rfl) rfl Try.ntmps86 rfl (by simp) ?_
    repeat (first | refine gA pk ?_ | (show AL _ _ _ _ _ _ _; first | refine jP s1 ?_))
    refine finQ ?_
    exact ⟨rfl, rfl⟩
  · rw [decide_eq_false hvp] at s1 hr
    rw [Bool.not_false, Bool.true_and] at hr
    have hstop : ∀ u : Nat, u < v → (u : Int) ∉ p → twB (nN g) (tT g) g.nodes.length u v = true → r = false := fun u hu hup ht => by
      rw [← hr, Bool.not_eq_false', List.any_eq_true]
      exact ⟨u, List.mem_range.2 hu, by rw [decide_eq_false hup, ht]; rfl⟩
    have hok : (∀ u : Nat, u < v → (!decide ((u : Int) ∈ p) && twB (nN g) (tT g) g.nodes.length u v) = false) → r = true := fun ho => by
      rw [← hr, Bool.not_eq_true', List.any_eq_false]
      intro u hu
      rw [ho u (List.mem_range.1 hu)]
      decide
    clear hr
    refine a_enter Try.func86 (by kernel_rfl) rfl Try.ntmps86 rfl (by simp) ?_
    repeat (first | refine gA pk ?_ | (show AL _ _ _ _ _ _ _; first | refine jP s1 ?_))
    refine a_loopX (fun u : Nat => [(0, .ip (fC g s)), (1, ints p), (2, AI v), (7, AI u)]) (fun _ => []) (fun u => u ≤ v ∧ ∀ w : Nat, w < u → (!decide ((w : Int) ∈ p) && twB (nN g) (tT g) g.nodes.length w v) = false) (fun u => v - u) 0 ⟨Nat.zero_le _, fun w hw => by omega⟩ ?_ (OSub.none _) ?_
    · exact subQ
    · rintro u ⟨hu, hno⟩
      rcases Nat.lt_or_ge u v with h | h
      · have s2 := su u
        have s3 := tw u (by omega)
        have hnext : (!decide ((u : Int) ∈ p) && twB (nN g) (tT g) g.nodes.length u v) = false → ∀ w : Nat, w < u + 1 → (!decide ((w : Int) ∈ p) && twB (nN g) (tT g) g.nodes.length w v) = false := fun h1 w hw => by
          by_cases e : w = u
          · subst e; exact h1
          · exact hno w (by omega)
        by_cases hup : (u : Int) ∈ p
        · rw [decide_eq_true hup] at s2
          have h3 := hnext (by rw [decide_eq_true hup]; rfl)
          repeat (first | refine gA pk ?_ | (show AL _ _ _ _ _ _ _; first | refine jP s2 ?_))
          exact ⟨u + 1, ⟨by omega, h3⟩, by omega, by exact subQ, OSub.none _⟩
        · rw [decide_eq_false hup] at s2
          have hst := hstop u h hup
          rw [decide_eq_false hup, Bool.not_false, Bool.true_and] at hnext
          cases ht : twB (nN g) (tT g) g.nodes.length u v with
          | true =>
            have : r = false := hst ht
            subst this
            rw [ht] at s3
            repeat (first | refine gA pk ?_ | (show AL _ _ _ _ _ _ _; first | refine jP s2 ?_ | refine jP s3 ?_))
            refine finQ ?_
            exact ⟨rfl, rfl⟩
          | false =>
            rw [ht] at s3
            have h3 := hnext ht
            repeat (first | refine gA pk ?_ | (show AL _ _ _ _ _ _ _; first | refine jP s2 ?_ | refine jP s3 ?_))
            exact ⟨u + 1, ⟨by omega, h3⟩, by omega, by exact subQ, OSub.none _⟩
      · obtain rfl : u = v := by omega
        have : r = true := hok hno
        subst this
        repeat (first | refine gA pk ?_)
        refine finQ ?_
        exact ⟨rfl, rfl⟩
end Go.Proofs.Ytoaenbfidlgjhaa
