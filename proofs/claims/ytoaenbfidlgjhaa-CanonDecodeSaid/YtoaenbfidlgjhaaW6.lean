/-
  Nodes that can be exchanged: the program's walk. Conditions: valid graphs of at most 8 nodes.
-/
import Derived.Test.YtoaenbfidlgjhaaSjQ8
import Derived.Test.YtoaenbfidlgjhaaW5
namespace Go.Proofs.Ytoaenbfidlgjhaa
open Go.Sj Go.Sj.Typ Go.Sj.Sta Go.Sj.Can
set_option linter.unusedVariables false
set_option linter.unusedSimpArgs false
set_option maxHeartbeats 16000000

theorem twB_false {N : Int → Int} {T : Int → Int → List Int} {n : Nat} {u v : Int} (h : ¬ Tw N T n u v) : twB N T n u v = false := by
  cases hq : twB N T n u v with
  | false => rfl
  | true => exact absurd (twB_iff.1 hq) h
theorem twins_spec (g : Gr) (hg : GV g) (hn : g.nodes.length ≤ 8) (a b : Nat) (ha : a < g.nodes.length) (hb : b < g.nodes.length) : Pure Try.prog 69 [tabP g, AI a, AI b] (AB (twB (nN g) (tT g) g.nodes.length a b)) := by
  have hel := hg.el
  have ln : (rowI g.nodes).length = g.nodes.length := by simp
  have na : (rowI g.nodes)[(a : Int).toNat]? = some [AI (nN g a)] := map_get (f := cI) (nodeAt_get (by omega) (by omega))
  have nb : (rowI g.nodes)[(b : Int).toNat]? = some [AI (nN g b)] := map_get (f := cI) (nodeAt_get (by omega) (by omega))
  have st := fun (x y : Nat) (hx : x < g.nodes.length) (hy : y < g.nodes.length) => types_spec g hg x y hx hy
  have sq := fun (x y u v : Int) => Equal_spec (tT g x y) (tT g u v) (by have := tT_le g x y; omega) (by have := tT_le g u v; omega)
  have saa := st a a ha ha
  have sbb := st b b hb hb
  have sab := st a b ha hb
  have sba := st b a hb ha
  have q1 := sq a a b b
  have q2 := sq a b b a
  by_cases h1 : nN g a = nN g b
  · by_cases h2 : tT g a a = tT g b b
    · by_cases h3 : tT g a b = tT g b a
      · rw [decide_eq_true h2] at q1
        rw [decide_eq_true h3] at q2
        obtain ⟨r, hr⟩ : ∃ r, twB (nN g) (tT g) g.nodes.length a b = r := ⟨_, rfl⟩
        rw [hr]
        have hmk : (∀ w : Nat, w < g.nodes.length → (w : Int) ≠ a → (w : Int) ≠ b → tT g a w = tT g b w ∧ tT g w a = tT g w b) → r = true := fun hw => hr.symm.trans (twB_iff.2 ⟨h1, h2, h3, hw⟩)
        generalize nN g a = x at *
        generalize nN g b = y at *
        refine a_enter Try.func69 (by kernel_rfl) rfl Try.ntmps69 rfl (by simp) ?_
        repeat (first | refine gN pk ?_)
        refine a_regG ((List.range 41).map fun i => if inL [21, 25, 26, 33, 37, 38] i = true then .eff else .pure) [] [0, 1, 2, 3, 4, 5, 6, 7, 8, 9, 10, 11, 12, 13, 14, 15, 16, 17, 18, 19, 20, 22, 23, 24, 21, 25, 26, 27, 28, 29, 30, 31, 32, 34, 35, 36, 33, 37, 38, 39, 40] .stop mixed rfl rfl (by decide +kernel) ?_
        repeat' (first | (with_reducible show AG _ _ _ _ _ _ _ _ _ _; first | exact ag_none | refine ag_stop ?_ | refine ag_nd ?_ ?_) | (show AMid _ _ _ _; first | refine amid_f ?_ | refine amid_g (by first | exact OSub.refl _ | exact .drop (OSub.refl _) | exact .drop (.drop (OSub.refl _))) ?_) | refine gY pk ?_ | (show AL _ _ _ _ _ _ _; first | refine jX tok na ?_ | refine jX tok nb ?_ | refine jP saa ?_ | refine jP sbb ?_ | refine jP sab ?_ | refine jP sba ?_ | refine jP q1 ?_ | refine jP q2 ?_) | fail)
        repeat (first | refine gN pk ?_)
        rw [ln]
        refine a_loopX (fun c : Nat => [(0, tabP g), (1, AI a), (2, AI b), (54, AI g.nodes.length), (55, AI c)]) (fun _ => []) (fun c => c ≤ g.nodes.length ∧ ∀ w : Nat, w < c → (w : Int) ≠ a → (w : Int) ≠ b → tT g a w = tT g b w ∧ tT g w a = tT g w b) (fun c => g.nodes.length - c) 0 ⟨Nat.zero_le _, fun w hw => by omega⟩ ?_ (OSub.none _) ?_
        · exact subQ
        · rintro c ⟨hc, hw⟩
          rcases Nat.lt_or_ge c g.nodes.length with h | h
          · have sac := st a c ha h
            have sbc := st b c hb h
            have sca := st c a h ha
            have scb := st c b h hb
            have q3 := sq a c b c
            have q4 := sq c a c b
            by_cases e1 : c = a
            · subst e1
              have hall : ∀ w : Nat, w < c + 1 → (w : Int) ≠ c → (w : Int) ≠ b → tT g c w = tT g b w ∧ tT g w c = tT g w b := fun w h1 h2 h3 => hw w (by omega) h2 h3
              repeat (first | refine gA pk ?_ | (show AL _ _ _ _ _ _ _; first | refine jP sac ?_ | refine jP sbc ?_ | refine jP sca ?_ | refine jP scb ?_ | refine jP q3 ?_ | refine jP q4 ?_))
              exact ⟨c + 1, ⟨by omega, hall⟩, by omega, by exact subQ, OSub.none _⟩
            · by_cases e2 : c = b
              · subst e2
                have hall : ∀ w : Nat, w < c + 1 → (w : Int) ≠ a → (w : Int) ≠ c → tT g a w = tT g c w ∧ tT g w a = tT g w c := fun w h1 h2 h3 => hw w (by omega) h2 h3
                repeat (first | refine gA pk ?_ | (show AL _ _ _ _ _ _ _; first | refine jP sac ?_ | refine jP sbc ?_ | refine jP sca ?_ | refine jP scb ?_ | refine jP q3 ?_ | refine jP q4 ?_))
                exact ⟨c + 1, ⟨by omega, hall⟩, by omega, by exact subQ, OSub.none _⟩
              · by_cases h4 : tT g a c = tT g b c
                · by_cases h5 : tT g c a = tT g c b
                  · rw [decide_eq_true h4] at q3
                    rw [decide_eq_true h5] at q4
                    have hall : ∀ w : Nat, w < c + 1 → (w : Int) ≠ a → (w : Int) ≠ b → tT g a w = tT g b w ∧ tT g w a = tT g w b := fun w h1 h2 h3 => by
                      by_cases e : w = c
                      · subst e; exact ⟨h4, h5⟩
                      · exact hw w (by omega) h2 h3
                    repeat (first | refine gA pk ?_ | (show AL _ _ _ _ _ _ _; first | refine jP sac ?_ | refine jP sbc ?_ | refine jP sca ?_ | refine jP scb ?_ | refine jP q3 ?_ | refine jP q4 ?_))
                    exact ⟨c + 1, ⟨by omega, hall⟩, by omega, by exact subQ, OSub.none _⟩
                  · rw [decide_eq_true h4] at q3
                    rw [decide_eq_false h5] at q4
                    have hrf : r = false := hr.symm.trans (twB_false fun hT => h5 (hT.ot c h (by omega) (by omega)).2)
                    subst hrf
                    repeat (first | refine gA pk ?_ | (show AL _ _ _ _ _ _ _; first | refine jP sac ?_ | refine jP sbc ?_ | refine jP sca ?_ | refine jP scb ?_ | refine jP q3 ?_ | refine jP q4 ?_))
                    refine finQ ?_
                    exact ⟨rfl, rfl⟩
                · rw [decide_eq_false h4] at q3
                  have hrf : r = false := hr.symm.trans (twB_false fun hT => h4 (hT.ot c h (by omega) (by omega)).1)
                  subst hrf
                  repeat (first | refine gA pk ?_ | (show AL _ _ _ _ _ _ _; first | refine jP sac ?_ | refine jP sbc ?_ | refine jP sca ?_ | refine jP scb ?_ | refine jP q3 ?_ | refine jP q4 ?_))
                  refine finQ ?_
                  exact ⟨rfl, rfl⟩
          · obtain rfl : c = g.nodes.length := by omega
            have hrt : r = true := hmk hw
            subst hrt
            repeat (first | refine gA pk ?_)
            refine finQ ?_
            exact ⟨rfl, rfl⟩
      · rw [decide_eq_true h2] at q1
        rw [decide_eq_false h3] at q2
        rw [twB_false fun hT => h3 hT.ex]
        generalize nN g a = x at *
        generalize nN g b = y at *
        refine a_enter Try.func69 (by kernel_rfl) rfl Try.ntmps69 rfl (by simp) ?_
        repeat (first | refine gN pk ?_)
        refine a_regG ((List.range 41).map fun i => if inL [21, 25, 26, 33, 37, 38] i = true then .eff else .pure) [] [0, 1, 2, 3, 4, 5, 6, 7, 8, 9, 10, 11, 12, 13, 14, 15, 16, 17, 18, 19, 20, 22, 23, 24, 21, 25, 26, 27, 28, 29, 30, 31, 32, 34, 35, 36, 33, 37, 38, 39, 40] .stop mixed rfl rfl (by decide +kernel) ?_
        repeat' (first | (with_reducible show AG _ _ _ _ _ _ _ _ _ _; first | exact ag_none | refine ag_stop ?_ | refine ag_nd ?_ ?_) | (show AMid _ _ _ _; first | refine amid_f ?_ | refine amid_g (by first | exact OSub.refl _ | exact .drop (OSub.refl _) | exact .drop (.drop (OSub.refl _))) ?_) | refine gY pk ?_ | (show AL _ _ _ _ _ _ _; first | refine jX tok na ?_ | refine jX tok nb ?_ | refine jP saa ?_ | refine jP sbb ?_ | refine jP sab ?_ | refine jP sba ?_ | refine jP q1 ?_ | refine jP q2 ?_) | fail)
        repeat (first | refine gA pk ?_)
        refine finQ ?_
        exact ⟨rfl, rfl⟩
    · rw [decide_eq_false h2] at q1
      rw [twB_false fun hT => h2 hT.lp]
      generalize nN g a = x at *
      generalize nN g b = y at *
      refine a_enter Try.func69 (by kernel_rfl) rfl Try.ntmps69 rfl (by simp) ?_
      repeat (first | refine gN pk ?_)
      refine a_regG ((List.range 41).map fun i => if inL [21, 25, 26, 33, 37, 38] i = true then .eff else .pure) [] [0, 1, 2, 3, 4, 5, 6, 7, 8, 9, 10, 11, 12, 13, 14, 15, 16, 17, 18, 19, 20, 22, 23, 24, 21, 25, 26, 27, 28, 29, 30, 31, 32, 34, 35, 36, 33, 37, 38, 39, 40] .stop mixed rfl rfl (by decide +kernel) ?_
      repeat' (first | (with_reducible show AG _ _ _ _ _ _ _ _ _ _; first | exact ag_none | refine ag_stop ?_ | refine ag_nd ?_ ?_) | (show AMid _ _ _ _; first | refine amid_f ?_ | refine amid_g (by first | exact OSub.refl _ | exact .drop (OSub.refl _) | exact .drop (.drop (OSub.refl _))) ?_) | refine gY pk ?_ | (show AL _ _ _ _ _ _ _; first | refine jX tok na ?_ | refine jX tok nb ?_ | refine jP saa ?_ | refine jP sbb ?_ | refine jP sab ?_ | refine jP sba ?_ | refine jP q1 ?_ | refine jP q2 ?_) | fail)
      repeat (first | refine gA pk ?_)
      refine finQ ?_
      exact ⟨rfl, rfl⟩
  · rw [twB_false fun hT => h1 hT.nd]
    generalize nN g a = x at *
    generalize nN g b = y at *
    refine a_enter Try.func69 (by kernel_rfl) rfl Try.ntmps69 rfl (by simp) ?_
    repeat (first | refine gN pk ?_)
    refine a_regG ((List.range 41).map fun i => if inL [21, 25, 26, 33, 37, 38] i = true then .eff else .pure) [] [0, 1, 2, 3, 4, 5, 6, 7, 8, 9, 10, 11, 12, 13, 14, 15, 16, 17, 18, 19, 20, 22, 23, 24, 21, 25, 26, 27, 28, 29, 30, 31, 32, 34, 35, 36, 33, 37, 38, 39, 40] .stop mixed rfl rfl (by decide +kernel) ?_
    repeat' (first | (with_reducible show AG _ _ _ _ _ _ _ _ _ _; first | exact ag_none | refine ag_stop ?_ | refine ag_nd ?_ ?_) | (show AMid _ _ _ _; first | refine amid_f ?_ | refine amid_g (by first | exact OSub.refl _ | exact .drop (OSub.refl _) | exact .drop (.drop (OSub.refl _))) ?_) | refine gY pk ?_ | (show AL _ _ _ _ _ _ _; first | refine jX tok na ?_ | refine jX tok nb ?_ | refine jP saa ?_ | refine jP sbb ?_ | refine jP sab ?_ | refine jP sba ?_ | refine jP q1 ?_ | refine jP q2 ?_) | fail)
    repeat (first | refine gA pk ?_)
    refine finQ ?_
    exact ⟨rfl, rfl⟩
end Go.Proofs.Ytoaenbfidlgjhaa
