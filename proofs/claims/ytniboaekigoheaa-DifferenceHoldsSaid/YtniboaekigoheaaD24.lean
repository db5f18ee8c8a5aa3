/-
  Tests that hold, by the reference: the walks; a predicate that finds numbers.
-/
import Derived.Test.YtniboaekigoheaaD23
namespace Go.Proofs.Ytniboaekigoheaa
open Go.Sj Go.Sj.Dif
set_option linter.unusedVariables false
set_option maxHeartbeats 4000000

def Sm (a : Int) : Prop := -1099511627776 ≤ a ∧ a ≤ 1099511627776
theorem Sm.inW {a : Int} (h : Sm a) : InW a := by
  obtain ⟨h1, h2⟩ := h
  exact ⟨by omega, by omega⟩
def valB : Option Int → AV
  | some s => .tup [AI s, AB true]
  | none => .tup [AI 0, AB false]
theorem refValue_spec (V : List Int) (hV : ∀ x ∈ V, Sm x) (v a : Int) (ha : Sm a) : Pure Try.prog 62 [.agg [AI v, AI a], ints V] (valB (valO V v a)) := by
  have lV : (rowI V).length = V.length := by simp
  by_cases h1 : v = -1
  · rw [show valO V v a = some a by simp [valO, h1]]
    subst h1
    refine a_enter Try.func62 (by kernel_rfl) rfl Try.ntmps62 rfl (by simp) ?_
    refine a_seq ?_
    refine a_reg ?_
    repeat (first
    | refine a_seq ?_
    | refine t_lit tok rfl rfl rfl rfl ?_
    | refine t_im tok rfl rfl rfl rfl ?_
    | refine t_ip tok rfl rfl rfl rfl ?_
    | refine t_pt tok rfl rfl rfl rfl ?_
    | refine t_agg tok rfl rfl rfl rfl ?_
    | refine t_tup tok rfl rfl rfl rfl ?_
    | refine t_fn tok rfl rfl rfl rfl ?_
    | refine AL.nil ?_
    | refine s_skip rfl rfl rfl ?_
    | refine s_cmpT rfl rfl rfl rfl rfl rfl rfl (by first | (simp only [cmpP]; omega) | exact rfl) ?_
    | refine s_cmpF rfl rfl rfl rfl rfl rfl rfl (by first | (simp only [cmpP]; omega) | exact rfl) ?_
    | refine s_arith rfl rfl rfl rfl rfl rfl rfl (by first | (exact IntWalk.i64_in _ (by omega)) | (exact IntWalk.u8_in _ (by omega))) ?_
    | refine s_box rfl rfl rfl rfl rfl rfl (fun u => ?_)
    | refine a_condT rfl ?_
    | refine a_condF rfl ?_
    | refine a_skip ?_
    | refine a_exit ?_
    | refine a_ret ?_
    | refine a_block ?_)
    refine a_frzBox 0 2 rfl rfl ?_
    repeat (first
    | refine a_seq ?_
    | refine a_reg ?_
    | refine a_regP mixed (by decide +kernel) ?_
    | refine t_lit tok rfl rfl rfl rfl ?_
    | refine t_im tok rfl rfl rfl rfl ?_
    | refine t_ip tok rfl rfl rfl rfl ?_
    | refine t_pt tok rfl rfl rfl rfl ?_
    | refine t_agg tok rfl rfl rfl rfl ?_
    | refine t_tup tok rfl rfl rfl rfl ?_
    | refine t_fn tok rfl rfl rfl rfl ?_
    | refine AL.nil ?_
    | refine s_skip rfl rfl rfl ?_
    | refine s_cmpT rfl rfl rfl rfl rfl rfl rfl (by first | (simp only [cmpP]; omega) | exact rfl) ?_
    | refine s_cmpF rfl rfl rfl rfl rfl rfl rfl (by first | (simp only [cmpP]; omega) | exact rfl) ?_
    | refine s_arith rfl rfl rfl rfl rfl rfl rfl (by first | (exact IntWalk.i64_in _ (by omega)) | (exact IntWalk.u8_in _ (by omega))) ?_
    | refine a_condT rfl ?_
    | refine a_condF rfl ?_
    | refine a_skip ?_
    | refine a_exit ?_
    | refine a_ret ?_
    | refine a_block ?_)
    first | refine fin (x := .lit _) (.inr rfl) rfl (Sub.refl _) ?_ (OSub.none _) | refine fin (x := .im _ _) (.inr rfl) rfl (Sub.refl _) ?_ (OSub.none _) | refine fin (x := .tup [.lit _, .lit _]) (.inr rfl) rfl (Sub.refl _) ?_ (OSub.none _) | refine fin (x := .tup [.im _ _, .lit _]) (.inr rfl) rfl (Sub.refl _) ?_ (OSub.none _) | refine fin (x := .tup [.lit _, .lit _, .lit _]) (.inr rfl) rfl (Sub.refl _) ?_ (OSub.none _) | refine fin (x := .agg _) (.inr rfl) rfl (Sub.refl _) ?_ (OSub.none _)
    exact ⟨rfl, rfl⟩
  · by_cases h2 : v < 0
    · rw [show valO V v a = none by simp [valO, h1, h2]]
      refine a_enter Try.func62 (by kernel_rfl) rfl Try.ntmps62 rfl (by simp) ?_
      refine a_seq ?_
      refine a_reg ?_
      repeat (first
    | refine a_seq ?_
    | refine t_lit tok rfl rfl rfl rfl ?_
    | refine t_im tok rfl rfl rfl rfl ?_
    | refine t_ip tok rfl rfl rfl rfl ?_
    | refine t_pt tok rfl rfl rfl rfl ?_
    | refine t_agg tok rfl rfl rfl rfl ?_
    | refine t_tup tok rfl rfl rfl rfl ?_
    | refine t_fn tok rfl rfl rfl rfl ?_
    | refine AL.nil ?_
    | refine s_skip rfl rfl rfl ?_
    | refine s_cmpT rfl rfl rfl rfl rfl rfl rfl (by first | (simp only [cmpP]; omega) | exact rfl) ?_
    | refine s_cmpF rfl rfl rfl rfl rfl rfl rfl (by first | (simp only [cmpP]; omega) | exact rfl) ?_
    | refine s_arith rfl rfl rfl rfl rfl rfl rfl (by first | (exact IntWalk.i64_in _ (by omega)) | (exact IntWalk.u8_in _ (by omega))) ?_
    | refine s_box rfl rfl rfl rfl rfl rfl (fun u => ?_)
    | refine a_condT rfl ?_
    | refine a_condF rfl ?_
    | refine a_skip ?_
    | refine a_exit ?_
    | refine a_ret ?_
    | refine a_block ?_)
      refine a_frzBox 0 2 rfl rfl ?_
      repeat (first
    | refine a_seq ?_
    | refine a_reg ?_
    | refine a_regP mixed (by decide +kernel) ?_
    | refine t_lit tok rfl rfl rfl rfl ?_
    | refine t_im tok rfl rfl rfl rfl ?_
    | refine t_ip tok rfl rfl rfl rfl ?_
    | refine t_pt tok rfl rfl rfl rfl ?_
    | refine t_agg tok rfl rfl rfl rfl ?_
    | refine t_tup tok rfl rfl rfl rfl ?_
    | refine t_fn tok rfl rfl rfl rfl ?_
    | refine AL.nil ?_
    | refine s_skip rfl rfl rfl ?_
    | refine s_cmpT rfl rfl rfl rfl rfl rfl rfl (by first | (simp only [cmpP]; omega) | exact rfl) ?_
    | refine s_cmpF rfl rfl rfl rfl rfl rfl rfl (by first | (simp only [cmpP]; omega) | exact rfl) ?_
    | refine s_arith rfl rfl rfl rfl rfl rfl rfl (by first | (exact IntWalk.i64_in _ (by omega)) | (exact IntWalk.u8_in _ (by omega))) ?_
    | refine a_condT rfl ?_
    | refine a_condF rfl ?_
    | refine a_skip ?_
    | refine a_exit ?_
    | refine a_ret ?_
    | refine a_block ?_)
      first | refine fin (x := .lit _) (.inr rfl) rfl (Sub.refl _) ?_ (OSub.none _) | refine fin (x := .im _ _) (.inr rfl) rfl (Sub.refl _) ?_ (OSub.none _) | refine fin (x := .tup [.lit _, .lit _]) (.inr rfl) rfl (Sub.refl _) ?_ (OSub.none _) | refine fin (x := .tup [.im _ _, .lit _]) (.inr rfl) rfl (Sub.refl _) ?_ (OSub.none _) | refine fin (x := .tup [.lit _, .lit _, .lit _]) (.inr rfl) rfl (Sub.refl _) ?_ (OSub.none _) | refine fin (x := .agg _) (.inr rfl) rfl (Sub.refl _) ?_ (OSub.none _)
      exact ⟨rfl, rfl⟩
    · by_cases h3 : (V.length : Int) ≤ v
      · rw [show valO V v a = none by simp [valO, h1, h3]]
        refine a_enter Try.func62 (by kernel_rfl) rfl Try.ntmps62 rfl (by simp) ?_
        refine a_seq ?_
        refine a_reg ?_
        repeat (first
    | refine a_seq ?_
    | refine t_lit tok rfl rfl rfl rfl ?_
    | refine t_im tok rfl rfl rfl rfl ?_
    | refine t_ip tok rfl rfl rfl rfl ?_
    | refine t_pt tok rfl rfl rfl rfl ?_
    | refine t_agg tok rfl rfl rfl rfl ?_
    | refine t_tup tok rfl rfl rfl rfl ?_
    | refine t_fn tok rfl rfl rfl rfl ?_
    | refine AL.nil ?_
    | refine s_skip rfl rfl rfl ?_
    | refine s_cmpT rfl rfl rfl rfl rfl rfl rfl (by first | (simp only [cmpP]; omega) | exact rfl) ?_
    | refine s_cmpF rfl rfl rfl rfl rfl rfl rfl (by first | (simp only [cmpP]; omega) | exact rfl) ?_
    | refine s_arith rfl rfl rfl rfl rfl rfl rfl (by first | (exact IntWalk.i64_in _ (by omega)) | (exact IntWalk.u8_in _ (by omega))) ?_
    | refine s_box rfl rfl rfl rfl rfl rfl (fun u => ?_)
    | refine a_condT rfl ?_
    | refine a_condF rfl ?_
    | refine a_skip ?_
    | refine a_exit ?_
    | refine a_ret ?_
    | refine a_block ?_)
        refine a_frzBox 0 2 rfl rfl ?_
        repeat (first
    | refine a_seq ?_
    | refine a_reg ?_
    | refine a_regP mixed (by decide +kernel) ?_
    | refine t_lit tok rfl rfl rfl rfl ?_
    | refine t_im tok rfl rfl rfl rfl ?_
    | refine t_ip tok rfl rfl rfl rfl ?_
    | refine t_pt tok rfl rfl rfl rfl ?_
    | refine t_agg tok rfl rfl rfl rfl ?_
    | refine t_tup tok rfl rfl rfl rfl ?_
    | refine t_fn tok rfl rfl rfl rfl ?_
    | refine AL.nil ?_
    | refine s_skip rfl rfl rfl ?_
    | refine s_cmpT rfl rfl rfl rfl rfl rfl rfl (by first | (simp only [cmpP]; omega) | exact rfl) ?_
    | refine s_cmpF rfl rfl rfl rfl rfl rfl rfl (by first | (simp only [cmpP]; omega) | exact rfl) ?_
    | refine s_arith rfl rfl rfl rfl rfl rfl rfl (by first | (exact IntWalk.i64_in _ (by omega)) | (exact IntWalk.u8_in _ (by omega))) ?_
    | refine a_condT rfl ?_
    | refine a_condF rfl ?_
    | refine a_skip ?_
    | refine a_exit ?_
    | refine a_ret ?_
    | refine a_block ?_)
        first | refine fin (x := .lit _) (.inr rfl) rfl (Sub.refl _) ?_ (OSub.none _) | refine fin (x := .im _ _) (.inr rfl) rfl (Sub.refl _) ?_ (OSub.none _) | refine fin (x := .tup [.lit _, .lit _]) (.inr rfl) rfl (Sub.refl _) ?_ (OSub.none _) | refine fin (x := .tup [.im _ _, .lit _]) (.inr rfl) rfl (Sub.refl _) ?_ (OSub.none _) | refine fin (x := .tup [.lit _, .lit _, .lit _]) (.inr rfl) rfl (Sub.refl _) ?_ (OSub.none _) | refine fin (x := .agg _) (.inr rfl) rfl (Sub.refl _) ?_ (OSub.none _)
        exact ⟨rfl, rfl⟩
      · have h4 : v.toNat < V.length := by omega
        have hx : V[v.toNat]? = some V[v.toNat] := List.getElem?_eq_getElem h4
        have hin := hV _ (List.getElem_mem h4)
        have hg : V.getD v.toNat 0 = V[v.toNat] := by rw [List.getD_eq_getElem?_getD, hx]; rfl
        rw [show valO V v a = some (V[v.toNat] + a) by simp only [valO, if_neg h1]; rw [if_neg (by omega), hg]]
        generalize V[v.toNat] = y at *
        obtain ⟨i1, i2⟩ := hin
        obtain ⟨j1, j2⟩ := ha
        have xk : (rowI V)[v.toNat]? = some [AI y] := map_get hx
        refine a_enter Try.func62 (by kernel_rfl) rfl Try.ntmps62 rfl (by simp) ?_
        refine a_seq ?_
        refine a_reg ?_
        repeat (first
    | refine a_seq ?_
    | refine t_lit tok rfl rfl rfl rfl ?_
    | refine t_im tok rfl rfl rfl rfl ?_
    | refine t_ip tok rfl rfl rfl rfl ?_
    | refine t_pt tok rfl rfl rfl rfl ?_
    | refine t_agg tok rfl rfl rfl rfl ?_
    | refine t_tup tok rfl rfl rfl rfl ?_
    | refine t_fn tok rfl rfl rfl rfl ?_
    | refine AL.nil ?_
    | refine s_skip rfl rfl rfl ?_
    | refine s_cmpT rfl rfl rfl rfl rfl rfl rfl (by first | (simp only [cmpP]; omega) | exact rfl) ?_
    | refine s_cmpF rfl rfl rfl rfl rfl rfl rfl (by first | (simp only [cmpP]; omega) | exact rfl) ?_
    | refine s_arith rfl rfl rfl rfl rfl rfl rfl (by first | (exact IntWalk.i64_in _ (by omega)) | (exact IntWalk.u8_in _ (by omega))) ?_
    | refine s_box rfl rfl rfl rfl rfl rfl (fun u => ?_)
    | refine a_condT rfl ?_
    | refine a_condF rfl ?_
    | refine a_skip ?_
    | refine a_exit ?_
    | refine a_ret ?_
    | refine a_block ?_)
        refine a_frzBox 0 2 rfl rfl ?_
        repeat (first
    | refine a_seq ?_
    | refine a_reg ?_
    | refine a_regP mixed (by decide +kernel) ?_
    | refine t_lit tok rfl rfl rfl rfl ?_
    | refine t_im tok rfl rfl rfl rfl ?_
    | refine t_ip tok rfl rfl rfl rfl ?_
    | refine t_pt tok rfl rfl rfl rfl ?_
    | refine t_agg tok rfl rfl rfl rfl ?_
    | refine t_tup tok rfl rfl rfl rfl ?_
    | refine t_fn tok rfl rfl rfl rfl ?_
    | refine AL.nil ?_
    | refine s_skip rfl rfl rfl ?_
    | refine s_cmpT rfl rfl rfl rfl rfl rfl rfl (by first | (simp only [cmpP]; omega) | exact rfl) ?_
    | refine s_cmpF rfl rfl rfl rfl rfl rfl rfl (by first | (simp only [cmpP]; omega) | exact rfl) ?_
    | refine s_arith rfl rfl rfl rfl rfl rfl rfl (by first | (exact IntWalk.i64_in _ (by omega)) | (exact IntWalk.u8_in _ (by omega))) ?_
    | refine s_index tok rfl rfl rfl rfl rfl rfl rfl rfl rfl (by omega) xk ?_
    | refine a_condT rfl ?_
    | refine a_condF rfl ?_
    | refine a_skip ?_
    | refine a_exit ?_
    | refine a_ret ?_
    | refine a_block ?_)
        first | refine fin (x := .lit _) (.inr rfl) rfl (Sub.refl _) ?_ (OSub.none _) | refine fin (x := .im _ _) (.inr rfl) rfl (Sub.refl _) ?_ (OSub.none _) | refine fin (x := .tup [.lit _, .lit _]) (.inr rfl) rfl (Sub.refl _) ?_ (OSub.none _) | refine fin (x := .tup [.im _ _, .lit _]) (.inr rfl) rfl (Sub.refl _) ?_ (OSub.none _) | refine fin (x := .tup [.lit _, .lit _, .lit _]) (.inr rfl) rfl (Sub.refl _) ?_ (OSub.none _) | refine fin (x := .agg _) (.inr rfl) rfl (Sub.refl _) ?_ (OSub.none _)
        exact ⟨rfl, rfl⟩
theorem refHolds_spec (x : Tst) (V : List Int) (h1 : Sm x.la) (h2 : Sm x.ra) (hV : ∀ y ∈ V, Sm y) : Pure Try.prog 38 [.agg (cT x), ints V] (AB (holdsR x V)) := by
  obtain ⟨k, lv, la, rv, ra⟩ := x
  simp only at h1 h2
  have s1 := refValue_spec V hV lv la h1
  have s2 := refValue_spec V hV rv ra h2
  rw [show cT ⟨k, lv, la, rv, ra⟩ = [AI k, AI lv, AI la, AI rv, AI ra] from rfl]
  simp only [holdsR]
  cases e1 : valO V lv la with
  | none =>
    rw [e1] at s1
    generalize valO V rv ra = o2 at *
    cases o2 with
    | none =>
      simp only [valB] at s1 s2
      refine a_enter Try.func38 (by kernel_rfl) rfl Try.ntmps38 rfl (by simp) ?_
      refine a_seq ?_
      refine a_reg ?_
      repeat (first
    | refine a_seq ?_
    | refine t_lit tok rfl rfl rfl rfl ?_
    | refine t_im tok rfl rfl rfl rfl ?_
    | refine t_ip tok rfl rfl rfl rfl ?_
    | refine t_pt tok rfl rfl rfl rfl ?_
    | refine t_agg tok rfl rfl rfl rfl ?_
    | refine t_tup tok rfl rfl rfl rfl ?_
    | refine t_fn tok rfl rfl rfl rfl ?_
    | refine AL.nil ?_
    | refine s_skip rfl rfl rfl ?_
    | refine s_cmpT rfl rfl rfl rfl rfl rfl rfl (by first | (simp only [cmpP]; omega) | exact rfl) ?_
    | refine s_cmpF rfl rfl rfl rfl rfl rfl rfl (by first | (simp only [cmpP]; omega) | exact rfl) ?_
    | refine s_arith rfl rfl rfl rfl rfl rfl rfl (by first | (exact IntWalk.i64_in _ (by omega)) | (exact IntWalk.u8_in _ (by omega))) ?_
    | refine s_box rfl rfl rfl rfl rfl rfl (fun u => ?_)
    | refine a_condT rfl ?_
    | refine a_condF rfl ?_
    | refine a_skip ?_
    | refine a_exit ?_
    | refine a_ret ?_
    | refine a_block ?_)
      refine a_frzBox 0 2 rfl rfl ?_
      repeat (first
    | refine a_seq ?_
    | refine a_reg ?_
    | refine a_regP mixed (by decide +kernel) ?_
    | refine t_lit tok rfl rfl rfl rfl ?_
    | refine t_im tok rfl rfl rfl rfl ?_
    | refine t_ip tok rfl rfl rfl rfl ?_
    | refine t_pt tok rfl rfl rfl rfl ?_
    | refine t_agg tok rfl rfl rfl rfl ?_
    | refine t_tup tok rfl rfl rfl rfl ?_
    | refine t_fn tok rfl rfl rfl rfl ?_
    | refine AL.nil ?_
    | refine s_skip rfl rfl rfl ?_
    | refine s_cmpT rfl rfl rfl rfl rfl rfl rfl (by first | (simp only [cmpP]; omega) | exact rfl) ?_
    | refine s_cmpF rfl rfl rfl rfl rfl rfl rfl (by first | (simp only [cmpP]; omega) | exact rfl) ?_
    | refine s_arith rfl rfl rfl rfl rfl rfl rfl (by first | (exact IntWalk.i64_in _ (by omega)) | (exact IntWalk.u8_in _ (by omega))) ?_
    | refine s_callP rfl rfl rfl rfl rfl (s1) (SubL.of_eq rfl) ?_
    | refine s_callP rfl rfl rfl rfl rfl (s2) (SubL.of_eq rfl) ?_
    | refine a_condT rfl ?_
    | refine a_condF rfl ?_
    | refine a_skip ?_
    | refine a_exit ?_
    | refine a_ret ?_
    | refine a_block ?_)
      first | refine fin (x := .lit _) (.inr rfl) rfl (Sub.refl _) ?_ (OSub.none _) | refine fin (x := .im _ _) (.inr rfl) rfl (Sub.refl _) ?_ (OSub.none _) | refine fin (x := .tup [.lit _, .lit _]) (.inr rfl) rfl (Sub.refl _) ?_ (OSub.none _) | refine fin (x := .tup [.im _ _, .lit _]) (.inr rfl) rfl (Sub.refl _) ?_ (OSub.none _) | refine fin (x := .tup [.lit _, .lit _, .lit _]) (.inr rfl) rfl (Sub.refl _) ?_ (OSub.none _) | refine fin (x := .agg _) (.inr rfl) rfl (Sub.refl _) ?_ (OSub.none _)
      exact ⟨rfl, rfl⟩
    | some t =>
      simp only [valB] at s1 s2
      refine a_enter Try.func38 (by kernel_rfl) rfl Try.ntmps38 rfl (by simp) ?_
      refine a_seq ?_
      refine a_reg ?_
      repeat (first
    | refine a_seq ?_
    | refine t_lit tok rfl rfl rfl rfl ?_
    | refine t_im tok rfl rfl rfl rfl ?_
    | refine t_ip tok rfl rfl rfl rfl ?_
    | refine t_pt tok rfl rfl rfl rfl ?_
    | refine t_agg tok rfl rfl rfl rfl ?_
    | refine t_tup tok rfl rfl rfl rfl ?_
    | refine t_fn tok rfl rfl rfl rfl ?_
    | refine AL.nil ?_
    | refine s_skip rfl rfl rfl ?_
    | refine s_cmpT rfl rfl rfl rfl rfl rfl rfl (by first | (simp only [cmpP]; omega) | exact rfl) ?_
    | refine s_cmpF rfl rfl rfl rfl rfl rfl rfl (by first | (simp only [cmpP]; omega) | exact rfl) ?_
    | refine s_arith rfl rfl rfl rfl rfl rfl rfl (by first | (exact IntWalk.i64_in _ (by omega)) | (exact IntWalk.u8_in _ (by omega))) ?_
    | refine s_box rfl rfl rfl rfl rfl rfl (fun u => ?_)
    | refine a_condT rfl ?_
    | refine a_condF rfl ?_
    | refine a_skip ?_
    | refine a_exit ?_
    | refine a_ret ?_
    | refine a_block ?_)
      refine a_frzBox 0 2 rfl rfl ?_
      repeat (first
    | refine a_seq ?_
    | refine a_reg ?_
    | refine a_regP mixed (by decide +kernel) ?_
    | refine t_lit tok rfl rfl rfl rfl ?_
    | refine t_im tok rfl rfl rfl rfl ?_
    | refine t_ip tok rfl rfl rfl rfl ?_
    | refine t_pt tok rfl rfl rfl rfl ?_
    | refine t_agg tok rfl rfl rfl rfl ?_
    | refine t_tup tok rfl rfl rfl rfl ?_
    | refine t_fn tok rfl rfl rfl rfl ?_
    | refine AL.nil ?_
    | refine s_skip rfl rfl rfl ?_
    | refine s_cmpT rfl rfl rfl rfl rfl rfl rfl (by first | (simp only [cmpP]; omega) | exact rfl) ?_
    | refine s_cmpF rfl rfl rfl rfl rfl rfl rfl (by first | (simp only [cmpP]; omega) | exact rfl) ?_
    | refine s_arith rfl rfl rfl rfl rfl rfl rfl (by first | (exact IntWalk.i64_in _ (by omega)) | (exact IntWalk.u8_in _ (by omega))) ?_
    | refine s_callP rfl rfl rfl rfl rfl (s1) (SubL.of_eq rfl) ?_
    | refine s_callP rfl rfl rfl rfl rfl (s2) (SubL.of_eq rfl) ?_
    | refine a_condT rfl ?_
    | refine a_condF rfl ?_
    | refine a_skip ?_
    | refine a_exit ?_
    | refine a_ret ?_
    | refine a_block ?_)
      first | refine fin (x := .lit _) (.inr rfl) rfl (Sub.refl _) ?_ (OSub.none _) | refine fin (x := .im _ _) (.inr rfl) rfl (Sub.refl _) ?_ (OSub.none _) | refine fin (x := .tup [.lit _, .lit _]) (.inr rfl) rfl (Sub.refl _) ?_ (OSub.none _) | refine fin (x := .tup [.im _ _, .lit _]) (.inr rfl) rfl (Sub.refl _) ?_ (OSub.none _) | refine fin (x := .tup [.lit _, .lit _, .lit _]) (.inr rfl) rfl (Sub.refl _) ?_ (OSub.none _) | refine fin (x := .agg _) (.inr rfl) rfl (Sub.refl _) ?_ (OSub.none _)
      exact ⟨rfl, rfl⟩
  | some s =>
    rw [e1] at s1
    cases e2 : valO V rv ra with
    | none =>
      rw [e2] at s2
      simp only [valB] at s1 s2
      refine a_enter Try.func38 (by kernel_rfl) rfl Try.ntmps38 rfl (by simp) ?_
      refine a_seq ?_
      refine a_reg ?_
      repeat (first
    | refine a_seq ?_
    | refine t_lit tok rfl rfl rfl rfl ?_
    | refine t_im tok rfl rfl rfl rfl ?_
    | refine t_ip tok rfl rfl rfl rfl ?_
    | refine t_pt tok rfl rfl rfl rfl ?_
    | refine t_agg tok rfl rfl rfl rfl ?_
    | refine t_tup tok rfl rfl rfl rfl ?_
    | refine t_fn tok rfl rfl rfl rfl ?_
    | refine AL.nil ?_
    | refine s_skip rfl rfl rfl ?_
    | refine s_cmpT rfl rfl rfl rfl rfl rfl rfl (by first | (simp only [cmpP]; omega) | exact rfl) ?_
    | refine s_cmpF rfl rfl rfl rfl rfl rfl rfl (by first | (simp only [cmpP]; omega) | exact rfl) ?_
    | refine s_arith rfl rfl rfl rfl rfl rfl rfl (by first | (exact IntWalk.i64_in _ (by omega)) | (exact IntWalk.u8_in _ (by omega))) ?_
    | refine s_box rfl rfl rfl rfl rfl rfl (fun u => ?_)
    | refine a_condT rfl ?_
    | refine a_condF rfl ?_
    | refine a_skip ?_
    | refine a_exit ?_
    | refine a_ret ?_
    | refine a_block ?_)
      refine a_frzBox 0 2 rfl rfl ?_
      repeat (first
    | refine a_seq ?_
    | refine a_reg ?_
    | refine a_regP mixed (by decide +kernel) ?_
    | refine t_lit tok rfl rfl rfl rfl ?_
    | refine t_im tok rfl rfl rfl rfl ?_
    | refine t_ip tok rfl rfl rfl rfl ?_
    | refine t_pt tok rfl rfl rfl rfl ?_
    | refine t_agg tok rfl rfl rfl rfl ?_
    | refine t_tup tok rfl rfl rfl rfl ?_
    | refine t_fn tok rfl rfl rfl rfl ?_
    | refine AL.nil ?_
    | refine s_skip rfl rfl rfl ?_
    | refine s_cmpT rfl rfl rfl rfl rfl rfl rfl (by first | (simp only [cmpP]; omega) | exact rfl) ?_
    | refine s_cmpF rfl rfl rfl rfl rfl rfl rfl (by first | (simp only [cmpP]; omega) | exact rfl) ?_
    | refine s_arith rfl rfl rfl rfl rfl rfl rfl (by first | (exact IntWalk.i64_in _ (by omega)) | (exact IntWalk.u8_in _ (by omega))) ?_
    | refine s_callP rfl rfl rfl rfl rfl (s1) (SubL.of_eq rfl) ?_
    | refine s_callP rfl rfl rfl rfl rfl (s2) (SubL.of_eq rfl) ?_
    | refine a_condT rfl ?_
    | refine a_condF rfl ?_
    | refine a_skip ?_
    | refine a_exit ?_
    | refine a_ret ?_
    | refine a_block ?_)
      first | refine fin (x := .lit _) (.inr rfl) rfl (Sub.refl _) ?_ (OSub.none _) | refine fin (x := .im _ _) (.inr rfl) rfl (Sub.refl _) ?_ (OSub.none _) | refine fin (x := .tup [.lit _, .lit _]) (.inr rfl) rfl (Sub.refl _) ?_ (OSub.none _) | refine fin (x := .tup [.im _ _, .lit _]) (.inr rfl) rfl (Sub.refl _) ?_ (OSub.none _) | refine fin (x := .tup [.lit _, .lit _, .lit _]) (.inr rfl) rfl (Sub.refl _) ?_ (OSub.none _) | refine fin (x := .agg _) (.inr rfl) rfl (Sub.refl _) ?_ (OSub.none _)
      exact ⟨rfl, rfl⟩
    | some t =>
      rw [e2] at s2
      simp only [valB] at s1 s2
      show Pure Try.prog _ _ (AB (if k = 1 then decide (s ≤ t) else if k = 2 then decide (s = t) else false))
      by_cases k1 : k = 1
      · rw [if_pos k1]
        by_cases w1 : s ≤ t
        · rw [decide_eq_true w1]
          refine a_enter Try.func38 (by kernel_rfl) rfl Try.ntmps38 rfl (by simp) ?_
          refine a_seq ?_
          refine a_reg ?_
          repeat (first
    | refine a_seq ?_
    | refine t_lit tok rfl rfl rfl rfl ?_
    | refine t_im tok rfl rfl rfl rfl ?_
    | refine t_ip tok rfl rfl rfl rfl ?_
    | refine t_pt tok rfl rfl rfl rfl ?_
    | refine t_agg tok rfl rfl rfl rfl ?_
    | refine t_tup tok rfl rfl rfl rfl ?_
    | refine t_fn tok rfl rfl rfl rfl ?_
    | refine AL.nil ?_
    | refine s_skip rfl rfl rfl ?_
    | refine s_cmpT rfl rfl rfl rfl rfl rfl rfl (by first | (simp only [cmpP]; omega) | exact rfl) ?_
    | refine s_cmpF rfl rfl rfl rfl rfl rfl rfl (by first | (simp only [cmpP]; omega) | exact rfl) ?_
    | refine s_arith rfl rfl rfl rfl rfl rfl rfl (by first | (exact IntWalk.i64_in _ (by omega)) | (exact IntWalk.u8_in _ (by omega))) ?_
    | refine s_box rfl rfl rfl rfl rfl rfl (fun u => ?_)
    | refine a_condT rfl ?_
    | refine a_condF rfl ?_
    | refine a_skip ?_
    | refine a_exit ?_
    | refine a_ret ?_
    | refine a_block ?_)
          refine a_frzBox 0 2 rfl rfl ?_
          repeat (first
    | refine a_seq ?_
    | refine a_reg ?_
    | refine a_regP mixed (by decide +kernel) ?_
    | refine t_lit tok rfl rfl rfl rfl ?_
    | refine t_im tok rfl rfl rfl rfl ?_
    | refine t_ip tok rfl rfl rfl rfl ?_
    | refine t_pt tok rfl rfl rfl rfl ?_
    | refine t_agg tok rfl rfl rfl rfl ?_
    | refine t_tup tok rfl rfl rfl rfl ?_
    | refine t_fn tok rfl rfl rfl rfl ?_
    | refine AL.nil ?_
    | refine s_skip rfl rfl rfl ?_
    | refine s_cmpT rfl rfl rfl rfl rfl rfl rfl (by first | (simp only [cmpP]; omega) | exact rfl) ?_
    | refine s_cmpF rfl rfl rfl rfl rfl rfl rfl (by first | (simp only [cmpP]; omega) | exact rfl) ?_
    | refine s_arith rfl rfl rfl rfl rfl rfl rfl (by first | (exact IntWalk.i64_in _ (by omega)) | (exact IntWalk.u8_in _ (by omega))) ?_
    | refine s_callP rfl rfl rfl rfl rfl (s1) (SubL.of_eq rfl) ?_
    | refine s_callP rfl rfl rfl rfl rfl (s2) (SubL.of_eq rfl) ?_
    | refine a_condT rfl ?_
    | refine a_condF rfl ?_
    | refine a_skip ?_
    | refine a_exit ?_
    | refine a_ret ?_
    | refine a_block ?_)
          first | refine fin (x := .lit _) (.inr rfl) rfl (Sub.refl _) ?_ (OSub.none _) | refine fin (x := .im _ _) (.inr rfl) rfl (Sub.refl _) ?_ (OSub.none _) | refine fin (x := .tup [.lit _, .lit _]) (.inr rfl) rfl (Sub.refl _) ?_ (OSub.none _) | refine fin (x := .tup [.im _ _, .lit _]) (.inr rfl) rfl (Sub.refl _) ?_ (OSub.none _) | refine fin (x := .tup [.lit _, .lit _, .lit _]) (.inr rfl) rfl (Sub.refl _) ?_ (OSub.none _) | refine fin (x := .agg _) (.inr rfl) rfl (Sub.refl _) ?_ (OSub.none _)
          exact ⟨rfl, rfl⟩
        · rw [decide_eq_false w1]
          refine a_enter Try.func38 (by kernel_rfl) rfl Try.ntmps38 rfl (by simp) ?_
          refine a_seq ?_
          refine a_reg ?_
          repeat (first
    | refine a_seq ?_
    | refine t_lit tok rfl rfl rfl rfl ?_
    | refine t_im tok rfl rfl rfl rfl ?_
    | refine t_ip tok rfl rfl rfl rfl ?_
    | refine t_pt tok rfl rfl rfl rfl ?_
    | refine t_agg tok rfl rfl rfl rfl ?_
    | refine t_tup tok rfl rfl rfl rfl ?_
    | refine t_fn tok rfl rfl rfl rfl ?_
    | refine AL.nil ?_
    | refine s_skip rfl rfl rfl ?_
    | refine s_cmpT rfl rfl rfl rfl rfl rfl rfl (by first | (simp only [cmpP]; omega) | exact rfl) ?_
    | refine s_cmpF rfl rfl rfl rfl rfl rfl rfl (by first | (simp only [cmpP]; omega) | exact rfl) ?_
    | refine s_arith rfl rfl rfl rfl rfl rfl rfl (by first | (exact IntWalk.i64_in _ (by omega)) | (exact IntWalk.u8_in _ (by omega))) ?_
    | refine s_box rfl rfl rfl rfl rfl rfl (fun u => ?_)
    | refine a_condT rfl ?_
    | refine a_condF rfl ?_
    | refine a_skip ?_
    | refine a_exit ?_
    | refine a_ret ?_
    | refine a_block ?_)
          refine a_frzBox 0 2 rfl rfl ?_
          repeat (first
    | refine a_seq ?_
    | refine a_reg ?_
    | refine a_regP mixed (by decide +kernel) ?_
    | refine t_lit tok rfl rfl rfl rfl ?_
    | refine t_im tok rfl rfl rfl rfl ?_
    | refine t_ip tok rfl rfl rfl rfl ?_
    | refine t_pt tok rfl rfl rfl rfl ?_
    | refine t_agg tok rfl rfl rfl rfl ?_
    | refine t_tup tok rfl rfl rfl rfl ?_
    | refine t_fn tok rfl rfl rfl rfl ?_
    | refine AL.nil ?_
    | refine s_skip rfl rfl rfl ?_
    | refine s_cmpT rfl rfl rfl rfl rfl rfl rfl (by first | (simp only [cmpP]; omega) | exact rfl) ?_
    | refine s_cmpF rfl rfl rfl rfl rfl rfl rfl (by first | (simp only [cmpP]; omega) | exact rfl) ?_
    | refine s_arith rfl rfl rfl rfl rfl rfl rfl (by first | (exact IntWalk.i64_in _ (by omega)) | (exact IntWalk.u8_in _ (by omega))) ?_
    | refine s_callP rfl rfl rfl rfl rfl (s1) (SubL.of_eq rfl) ?_
    | refine s_callP rfl rfl rfl rfl rfl (s2) (SubL.of_eq rfl) ?_
    | refine a_condT rfl ?_
    | refine a_condF rfl ?_
    | refine a_skip ?_
    | refine a_exit ?_
    | refine a_ret ?_
    | refine a_block ?_)
          first | refine fin (x := .lit _) (.inr rfl) rfl (Sub.refl _) ?_ (OSub.none _) | refine fin (x := .im _ _) (.inr rfl) rfl (Sub.refl _) ?_ (OSub.none _) | refine fin (x := .tup [.lit _, .lit _]) (.inr rfl) rfl (Sub.refl _) ?_ (OSub.none _) | refine fin (x := .tup [.im _ _, .lit _]) (.inr rfl) rfl (Sub.refl _) ?_ (OSub.none _) | refine fin (x := .tup [.lit _, .lit _, .lit _]) (.inr rfl) rfl (Sub.refl _) ?_ (OSub.none _) | refine fin (x := .agg _) (.inr rfl) rfl (Sub.refl _) ?_ (OSub.none _)
          exact ⟨rfl, rfl⟩
      · rw [if_neg k1]
        by_cases k2 : k = 2
        · rw [if_pos k2]
          by_cases w1 : s = t
          · rw [decide_eq_true w1]
            refine a_enter Try.func38 (by kernel_rfl) rfl Try.ntmps38 rfl (by simp) ?_
            refine a_seq ?_
            refine a_reg ?_
            repeat (first
    | refine a_seq ?_
    | refine t_lit tok rfl rfl rfl rfl ?_
    | refine t_im tok rfl rfl rfl rfl ?_
    | refine t_ip tok rfl rfl rfl rfl ?_
    | refine t_pt tok rfl rfl rfl rfl ?_
    | refine t_agg tok rfl rfl rfl rfl ?_
    | refine t_tup tok rfl rfl rfl rfl ?_
    | refine t_fn tok rfl rfl rfl rfl ?_
    | refine AL.nil ?_
    | refine s_skip rfl rfl rfl ?_
    | refine s_cmpT rfl rfl rfl rfl rfl rfl rfl (by first | (simp only [cmpP]; omega) | exact rfl) ?_
    | refine s_cmpF rfl rfl rfl rfl rfl rfl rfl (by first | (simp only [cmpP]; omega) | exact rfl) ?_
    | refine s_arith rfl rfl rfl rfl rfl rfl rfl (by first | (exact IntWalk.i64_in _ (by omega)) | (exact IntWalk.u8_in _ (by omega))) ?_
    | refine s_box rfl rfl rfl rfl rfl rfl (fun u => ?_)
    | refine a_condT rfl ?_
    | refine a_condF rfl ?_
    | refine a_skip ?_
    | refine a_exit ?_
    | refine a_ret ?_
    | refine a_block ?_)
            refine a_frzBox 0 2 rfl rfl ?_
            repeat (first
    | refine a_seq ?_
    | refine a_reg ?_
    | refine a_regP mixed (by decide +kernel) ?_
    | refine t_lit tok rfl rfl rfl rfl ?_
    | refine t_im tok rfl rfl rfl rfl ?_
    | refine t_ip tok rfl rfl rfl rfl ?_
    | refine t_pt tok rfl rfl rfl rfl ?_
    | refine t_agg tok rfl rfl rfl rfl ?_
    | refine t_tup tok rfl rfl rfl rfl ?_
    | refine t_fn tok rfl rfl rfl rfl ?_
    | refine AL.nil ?_
    | refine s_skip rfl rfl rfl ?_
    | refine s_cmpT rfl rfl rfl rfl rfl rfl rfl (by first | (simp only [cmpP]; omega) | exact rfl) ?_
    | refine s_cmpF rfl rfl rfl rfl rfl rfl rfl (by first | (simp only [cmpP]; omega) | exact rfl) ?_
    | refine s_arith rfl rfl rfl rfl rfl rfl rfl (by first | (exact IntWalk.i64_in _ (by omega)) | (exact IntWalk.u8_in _ (by omega))) ?_
    | refine s_callP rfl rfl rfl rfl rfl (s1) (SubL.of_eq rfl) ?_
    | refine s_callP rfl rfl rfl rfl rfl (s2) (SubL.of_eq rfl) ?_
    | refine a_condT rfl ?_
    | refine a_condF rfl ?_
    | refine a_skip ?_
    | refine a_exit ?_
    | refine a_ret ?_
    | refine a_block ?_)
            first | refine fin (x := .lit _) (.inr rfl) rfl (Sub.refl _) ?_ (OSub.none _) | refine fin (x := .im _ _) (.inr rfl) rfl (Sub.refl _) ?_ (OSub.none _) | refine fin (x := .tup [.lit _, .lit _]) (.inr rfl) rfl (Sub.refl _) ?_ (OSub.none _) | refine fin (x := .tup [.im _ _, .lit _]) (.inr rfl) rfl (Sub.refl _) ?_ (OSub.none _) | refine fin (x := .tup [.lit _, .lit _, .lit _]) (.inr rfl) rfl (Sub.refl _) ?_ (OSub.none _) | refine fin (x := .agg _) (.inr rfl) rfl (Sub.refl _) ?_ (OSub.none _)
            exact ⟨rfl, rfl⟩
          · rw [decide_eq_false w1]
            refine a_enter Try.func38 (by kernel_rfl) rfl Try.ntmps38 rfl (by simp) ?_
            refine a_seq ?_
            refine a_reg ?_
            repeat (first
    | refine a_seq ?_
    | refine t_lit tok rfl rfl rfl rfl ?_
    | refine t_im tok rfl rfl rfl rfl ?_
    | refine t_ip tok rfl rfl rfl rfl ?_
    | refine t_pt tok rfl rfl rfl rfl ?_
    | refine t_agg tok rfl rfl rfl rfl ?_
    | refine t_tup tok rfl rfl rfl rfl ?_
    | refine t_fn tok rfl rfl rfl rfl ?_
    | refine AL.nil ?_
    | refine s_skip rfl rfl rfl ?_
    | refine s_cmpT rfl rfl rfl rfl rfl rfl rfl (by first | (simp only [cmpP]; omega) | exact rfl) ?_
    | refine s_cmpF rfl rfl rfl rfl rfl rfl rfl (by first | (simp only [cmpP]; omega) | exact rfl) ?_
    | refine s_arith rfl rfl rfl rfl rfl rfl rfl (by first | (exact IntWalk.i64_in _ (by omega)) | (exact IntWalk.u8_in _ (by omega))) ?_
    | refine s_box rfl rfl rfl rfl rfl rfl (fun u => ?_)
    | refine a_condT rfl ?_
    | refine a_condF rfl ?_
    | refine a_skip ?_
    | refine a_exit ?_
    | refine a_ret ?_
    | refine a_block ?_)
            refine a_frzBox 0 2 rfl rfl ?_
            repeat (first
    | refine a_seq ?_
    | refine a_reg ?_
    | refine a_regP mixed (by decide +kernel) ?_
    | refine t_lit tok rfl rfl rfl rfl ?_
    | refine t_im tok rfl rfl rfl rfl ?_
    | refine t_ip tok rfl rfl rfl rfl ?_
    | refine t_pt tok rfl rfl rfl rfl ?_
    | refine t_agg tok rfl rfl rfl rfl ?_
    | refine t_tup tok rfl rfl rfl rfl ?_
    | refine t_fn tok rfl rfl rfl rfl ?_
    | refine AL.nil ?_
    | refine s_skip rfl rfl rfl ?_
    | refine s_cmpT rfl rfl rfl rfl rfl rfl rfl (by first | (simp only [cmpP]; omega) | exact rfl) ?_
    | refine s_cmpF rfl rfl rfl rfl rfl rfl rfl (by first | (simp only [cmpP]; omega) | exact rfl) ?_
    | refine s_arith rfl rfl rfl rfl rfl rfl rfl (by first | (exact IntWalk.i64_in _ (by omega)) | (exact IntWalk.u8_in _ (by omega))) ?_
    | refine s_callP rfl rfl rfl rfl rfl (s1) (SubL.of_eq rfl) ?_
    | refine s_callP rfl rfl rfl rfl rfl (s2) (SubL.of_eq rfl) ?_
    | refine a_condT rfl ?_
    | refine a_condF rfl ?_
    | refine a_skip ?_
    | refine a_exit ?_
    | refine a_ret ?_
    | refine a_block ?_)
            first | refine fin (x := .lit _) (.inr rfl) rfl (Sub.refl _) ?_ (OSub.none _) | refine fin (x := .im _ _) (.inr rfl) rfl (Sub.refl _) ?_ (OSub.none _) | refine fin (x := .tup [.lit _, .lit _]) (.inr rfl) rfl (Sub.refl _) ?_ (OSub.none _) | refine fin (x := .tup [.im _ _, .lit _]) (.inr rfl) rfl (Sub.refl _) ?_ (OSub.none _) | refine fin (x := .tup [.lit _, .lit _, .lit _]) (.inr rfl) rfl (Sub.refl _) ?_ (OSub.none _) | refine fin (x := .agg _) (.inr rfl) rfl (Sub.refl _) ?_ (OSub.none _)
            exact ⟨rfl, rfl⟩
        · rw [if_neg k2]
          refine a_enter Try.func38 (by kernel_rfl) rfl Try.ntmps38 rfl (by simp) ?_
          refine a_seq ?_
          refine a_reg ?_
          repeat (first
    | refine a_seq ?_
    | refine t_lit tok rfl rfl rfl rfl ?_
    | refine t_im tok rfl rfl rfl rfl ?_
    | refine t_ip tok rfl rfl rfl rfl ?_
    | refine t_pt tok rfl rfl rfl rfl ?_
    | refine t_agg tok rfl rfl rfl rfl ?_
    | refine t_tup tok rfl rfl rfl rfl ?_
    | refine t_fn tok rfl rfl rfl rfl ?_
    | refine AL.nil ?_
    | refine s_skip rfl rfl rfl ?_
    | refine s_cmpT rfl rfl rfl rfl rfl rfl rfl (by first | (simp only [cmpP]; omega) | exact rfl) ?_
    | refine s_cmpF rfl rfl rfl rfl rfl rfl rfl (by first | (simp only [cmpP]; omega) | exact rfl) ?_
    | refine s_arith rfl rfl rfl rfl rfl rfl rfl (by first | (exact IntWalk.i64_in _ (by omega)) | (exact IntWalk.u8_in _ (by omega))) ?_
    | refine s_box rfl rfl rfl rfl rfl rfl (fun u => ?_)
    | refine a_condT rfl ?_
    | refine a_condF rfl ?_
    | refine a_skip ?_
    | refine a_exit ?_
    | refine a_ret ?_
    | refine a_block ?_)
          refine a_frzBox 0 2 rfl rfl ?_
          repeat (first
    | refine a_seq ?_
    | refine a_reg ?_
    | refine a_regP mixed (by decide +kernel) ?_
    | refine t_lit tok rfl rfl rfl rfl ?_
    | refine t_im tok rfl rfl rfl rfl ?_
    | refine t_ip tok rfl rfl rfl rfl ?_
    | refine t_pt tok rfl rfl rfl rfl ?_
    | refine t_agg tok rfl rfl rfl rfl ?_
    | refine t_tup tok rfl rfl rfl rfl ?_
    | refine t_fn tok rfl rfl rfl rfl ?_
    | refine AL.nil ?_
    | refine s_skip rfl rfl rfl ?_
    | refine s_cmpT rfl rfl rfl rfl rfl rfl rfl (by first | (simp only [cmpP]; omega) | exact rfl) ?_
    | refine s_cmpF rfl rfl rfl rfl rfl rfl rfl (by first | (simp only [cmpP]; omega) | exact rfl) ?_
    | refine s_arith rfl rfl rfl rfl rfl rfl rfl (by first | (exact IntWalk.i64_in _ (by omega)) | (exact IntWalk.u8_in _ (by omega))) ?_
    | refine s_callP rfl rfl rfl rfl rfl (s1) (SubL.of_eq rfl) ?_
    | refine s_callP rfl rfl rfl rfl rfl (s2) (SubL.of_eq rfl) ?_
    | refine a_condT rfl ?_
    | refine a_condF rfl ?_
    | refine a_skip ?_
    | refine a_exit ?_
    | refine a_ret ?_
    | refine a_block ?_)
          first | refine fin (x := .lit _) (.inr rfl) rfl (Sub.refl _) ?_ (OSub.none _) | refine fin (x := .im _ _) (.inr rfl) rfl (Sub.refl _) ?_ (OSub.none _) | refine fin (x := .tup [.lit _, .lit _]) (.inr rfl) rfl (Sub.refl _) ?_ (OSub.none _) | refine fin (x := .tup [.im _ _, .lit _]) (.inr rfl) rfl (Sub.refl _) ?_ (OSub.none _) | refine fin (x := .tup [.lit _, .lit _, .lit _]) (.inr rfl) rfl (Sub.refl _) ?_ (OSub.none _) | refine fin (x := .agg _) (.inr rfl) rfl (Sub.refl _) ?_ (OSub.none _)
          exact ⟨rfl, rfl⟩

def idxL (l : List Int) (p : Int → Bool) : Int := match l.findIdx? p with
  | some k => k
  | none => -1
theorem idx_atI {A : List Int} {p : Int → Bool} {k : Nat} {a : Int} (h : ∀ x ∈ A.take k, p x = false) (ha : A[k]? = some a) (hp : p a = true) : A.findIdx? p = some k := by
  obtain ⟨hk, rfl⟩ := List.getElem?_eq_some_iff.1 ha
  rw [List.findIdx?_eq_some_iff_getElem]
  refine ⟨hk, hp, fun j hj => ?_⟩
  have : A[j]'(by omega) ∈ A.take k := List.mem_take_iff_getElem.2 ⟨j, by omega, rfl⟩
  simp [h _ this]
theorem IndexFuncI_spec (A : List Int) (hA : A.length ≤ 1000) (g : FuncId) (p : Int → Bool) (hg : ∀ a ∈ A, Pure Try.prog g [AI a] (AB (p a))) :
    Pure Try.prog 61 [ints A, .fn (.func g) [] []] (AI (idxL A p)) := by
  have la : (rowI A).length = A.length := by simp
  refine a_enter Try.func61 (by kernel_rfl) rfl Try.ntmps61 rfl (by simp) ?_
  repeat (first
    | refine a_seq ?_
    | refine a_reg ?_
    | refine a_regP mixed (by decide +kernel) ?_
    | refine t_lit tok rfl rfl rfl rfl ?_
    | refine t_im tok rfl rfl rfl rfl ?_
    | refine t_ip tok rfl rfl rfl rfl ?_
    | refine t_pt tok rfl rfl rfl rfl ?_
    | refine t_agg tok rfl rfl rfl rfl ?_
    | refine t_tup tok rfl rfl rfl rfl ?_
    | refine t_fn tok rfl rfl rfl rfl ?_
    | refine AL.nil ?_
    | refine s_skip rfl rfl rfl ?_
    | refine s_cmpT rfl rfl rfl rfl rfl rfl rfl (by first | (simp only [cmpP]; omega) | exact rfl) ?_
    | refine s_cmpF rfl rfl rfl rfl rfl rfl rfl (by first | (simp only [cmpP]; omega) | exact rfl) ?_
    | refine s_arith rfl rfl rfl rfl rfl rfl rfl (by first | (exact IntWalk.i64_in _ (by omega)) | (exact IntWalk.u8_in _ (by omega))) ?_
    | refine a_condT rfl ?_
    | refine a_condF rfl ?_
    | refine a_skip ?_
    | refine a_exit ?_
    | refine a_ret ?_
    | refine a_block ?_)
  rw [la]
  refine a_loopX (fun k : Nat => [(0, ints A), (1, .fn (.func g) [] []), (7, AI A.length), (8, AI k)]) (fun _ => []) (fun k => k ≤ A.length ∧ ∀ x ∈ A.take k, p x = false) (fun k => A.length - k) 0 ⟨Nat.zero_le _, by simp⟩ ?_ (OSub.refl _) ?_
  · repeat (first | exact subs_nil | refine subs_cons (Sub.of_eq rfl) ?_ | refine subs_cons (Sub.nil _) ?_)
  · rintro k ⟨hk, hno⟩
    rcases Nat.lt_or_ge k A.length with h | h
    · have hx := List.getElem?_eq_getElem h
      have hc := hg _ (List.getElem_mem h)
      generalize A[k] = a at hx hc
      have xk : (rowI A)[(k : Int).toNat]? = some [AI a] := map_get hx
      cases hp : p a with
      | true =>
        rw [hp] at hc
        rw [show idxL A p = (k : Int) by simp only [idxL, idx_atI hno hx hp]]
        repeat (first
    | refine a_seq ?_
    | refine a_reg ?_
    | refine a_regP mixed (by decide +kernel) ?_
    | refine t_lit tok rfl rfl rfl rfl ?_
    | refine t_im tok rfl rfl rfl rfl ?_
    | refine t_ip tok rfl rfl rfl rfl ?_
    | refine t_pt tok rfl rfl rfl rfl ?_
    | refine t_agg tok rfl rfl rfl rfl ?_
    | refine t_tup tok rfl rfl rfl rfl ?_
    | refine t_fn tok rfl rfl rfl rfl ?_
    | refine AL.nil ?_
    | refine s_skip rfl rfl rfl ?_
    | refine s_cmpT rfl rfl rfl rfl rfl rfl rfl (by first | (simp only [cmpP]; omega) | exact rfl) ?_
    | refine s_cmpF rfl rfl rfl rfl rfl rfl rfl (by first | (simp only [cmpP]; omega) | exact rfl) ?_
    | refine s_arith rfl rfl rfl rfl rfl rfl rfl (by first | (exact IntWalk.i64_in _ (by omega)) | (exact IntWalk.u8_in _ (by omega))) ?_
    | refine s_index tok rfl rfl rfl rfl rfl rfl rfl rfl rfl (by omega) xk ?_
    | refine s_callP rfl rfl rfl rfl rfl (hc) (SubL.of_eq rfl) ?_
    | refine a_condT rfl ?_
    | refine a_condF rfl ?_
    | refine a_skip ?_
    | refine a_exit ?_
    | refine a_ret ?_
    | refine a_block ?_)
        first | refine fin (x := .lit _) (.inr rfl) rfl (Sub.refl _) ?_ (OSub.none _) | refine fin (x := .im _ _) (.inr rfl) rfl (Sub.refl _) ?_ (OSub.none _) | refine fin (x := .tup [.lit _, .lit _]) (.inr rfl) rfl (Sub.refl _) ?_ (OSub.none _) | refine fin (x := .tup [.im _ _, .lit _]) (.inr rfl) rfl (Sub.refl _) ?_ (OSub.none _) | refine fin (x := .tup [.lit _, .lit _, .lit _]) (.inr rfl) rfl (Sub.refl _) ?_ (OSub.none _) | refine fin (x := .agg _) (.inr rfl) rfl (Sub.refl _) ?_ (OSub.none _)
        exact ⟨rfl, rfl⟩
      | false =>
        rw [hp] at hc
        repeat (first
    | refine a_seq ?_
    | refine a_reg ?_
    | refine a_regP mixed (by decide +kernel) ?_
    | refine t_lit tok rfl rfl rfl rfl ?_
    | refine t_im tok rfl rfl rfl rfl ?_
    | refine t_ip tok rfl rfl rfl rfl ?_
    | refine t_pt tok rfl rfl rfl rfl ?_
    | refine t_agg tok rfl rfl rfl rfl ?_
    | refine t_tup tok rfl rfl rfl rfl ?_
    | refine t_fn tok rfl rfl rfl rfl ?_
    | refine AL.nil ?_
    | refine s_skip rfl rfl rfl ?_
    | refine s_cmpT rfl rfl rfl rfl rfl rfl rfl (by first | (simp only [cmpP]; omega) | exact rfl) ?_
    | refine s_cmpF rfl rfl rfl rfl rfl rfl rfl (by first | (simp only [cmpP]; omega) | exact rfl) ?_
    | refine s_arith rfl rfl rfl rfl rfl rfl rfl (by first | (exact IntWalk.i64_in _ (by omega)) | (exact IntWalk.u8_in _ (by omega))) ?_
    | refine s_index tok rfl rfl rfl rfl rfl rfl rfl rfl rfl (by omega) xk ?_
    | refine s_callP rfl rfl rfl rfl rfl (hc) (SubL.of_eq rfl) ?_
    | refine a_condT rfl ?_
    | refine a_condF rfl ?_
    | refine a_skip ?_
    | refine a_exit ?_
    | refine a_ret ?_
    | refine a_block ?_)
        refine ⟨k + 1, ⟨by omega, none_take hno hx hp⟩, by omega, ?_, OSub.none _⟩
        repeat (first | exact subs_nil | refine subs_cons (Sub.of_eq rfl) ?_ | refine subs_cons (Sub.nil _) ?_)
    · obtain rfl : k = A.length := by omega
      rw [List.take_length] at hno
      rw [show idxL A p = -1 by simp only [idxL, List.findIdx?_eq_none_iff.2 (fun x hx => hno x hx)]]
      repeat (first
    | refine a_seq ?_
    | refine a_reg ?_
    | refine a_regP mixed (by decide +kernel) ?_
    | refine t_lit tok rfl rfl rfl rfl ?_
    | refine t_im tok rfl rfl rfl rfl ?_
    | refine t_ip tok rfl rfl rfl rfl ?_
    | refine t_pt tok rfl rfl rfl rfl ?_
    | refine t_agg tok rfl rfl rfl rfl ?_
    | refine t_tup tok rfl rfl rfl rfl ?_
    | refine t_fn tok rfl rfl rfl rfl ?_
    | refine AL.nil ?_
    | refine s_skip rfl rfl rfl ?_
    | refine s_cmpT rfl rfl rfl rfl rfl rfl rfl (by first | (simp only [cmpP]; omega) | exact rfl) ?_
    | refine s_cmpF rfl rfl rfl rfl rfl rfl rfl (by first | (simp only [cmpP]; omega) | exact rfl) ?_
    | refine s_arith rfl rfl rfl rfl rfl rfl rfl (by first | (exact IntWalk.i64_in _ (by omega)) | (exact IntWalk.u8_in _ (by omega))) ?_
    | refine a_condT rfl ?_
    | refine a_condF rfl ?_
    | refine a_skip ?_
    | refine a_exit ?_
    | refine a_ret ?_
    | refine a_block ?_)
      first | refine fin (x := .lit _) (.inr rfl) rfl (Sub.refl _) ?_ (OSub.refl _) | refine fin (x := .im _ _) (.inr rfl) rfl (Sub.refl _) ?_ (OSub.refl _) | refine fin (x := .tup [.lit _, .lit _]) (.inr rfl) rfl (Sub.refl _) ?_ (OSub.refl _) | refine fin (x := .tup [.im _ _, .lit _]) (.inr rfl) rfl (Sub.refl _) ?_ (OSub.refl _) | refine fin (x := .tup [.lit _, .lit _, .lit _]) (.inr rfl) rfl (Sub.refl _) ?_ (OSub.refl _) | refine fin (x := .agg _) (.inr rfl) rfl (Sub.refl _) ?_ (OSub.refl _)
      exact ⟨rfl, rfl⟩
theorem idxL_any (A : List Int) (p : Int → Bool) : (A.any p = true ∧ 0 ≤ idxL A p) ∨ (A.any p = false ∧ idxL A p = -1) := by
  cases e : A.findIdx? p with
  | none =>
    refine .inr ⟨?_, by simp only [idxL, e]⟩
    simpa using List.findIdx?_eq_none_iff.1 e
  | some k =>
    obtain ⟨h1, h2, h3⟩ := List.findIdx?_eq_some_iff_getElem.1 e
    refine .inl ⟨List.any_eq_true.2 ⟨A[k], List.getElem_mem h1, h2⟩, ?_⟩
    simp only [idxL, e]
    omega
theorem ContainsFuncI_spec (A : List Int) (hA : A.length ≤ 1000) (g : FuncId) (p : Int → Bool) (hg : ∀ a ∈ A, Pure Try.prog g [AI a] (AB (p a))) :
    Pure Try.prog 36 [ints A, .fn (.func g) [] []] (AB (A.any p)) := by
  have h := IndexFuncI_spec A hA g p hg
  rcases idxL_any A p with ⟨h1, h2⟩ | ⟨h1, h2⟩
  · rw [h1]
    generalize idxL A p = i at *
    refine a_enter Try.func36 (by kernel_rfl) rfl Try.ntmps36 rfl (by simp) ?_
    repeat (first
    | refine a_seq ?_
    | refine a_reg ?_
    | refine a_regP mixed (by decide +kernel) ?_
    | refine t_lit tok rfl rfl rfl rfl ?_
    | refine t_im tok rfl rfl rfl rfl ?_
    | refine t_ip tok rfl rfl rfl rfl ?_
    | refine t_pt tok rfl rfl rfl rfl ?_
    | refine t_agg tok rfl rfl rfl rfl ?_
    | refine t_tup tok rfl rfl rfl rfl ?_
    | refine t_fn tok rfl rfl rfl rfl ?_
    | refine AL.nil ?_
    | refine s_skip rfl rfl rfl ?_
    | refine s_cmpT rfl rfl rfl rfl rfl rfl rfl (by first | (simp only [cmpP]; omega) | exact rfl) ?_
    | refine s_cmpF rfl rfl rfl rfl rfl rfl rfl (by first | (simp only [cmpP]; omega) | exact rfl) ?_
    | refine s_arith rfl rfl rfl rfl rfl rfl rfl (by first | (exact IntWalk.i64_in _ (by omega)) | (exact IntWalk.u8_in _ (by omega))) ?_
    | refine s_callP rfl rfl rfl rfl rfl (h) (SubL.of_eq rfl) ?_
    | refine a_condT rfl ?_
    | refine a_condF rfl ?_
    | refine a_skip ?_
    | refine a_exit ?_
    | refine a_ret ?_
    | refine a_block ?_)
    first | refine fin (x := .lit _) (.inr rfl) rfl (Sub.refl _) ?_ (OSub.none _) | refine fin (x := .im _ _) (.inr rfl) rfl (Sub.refl _) ?_ (OSub.none _) | refine fin (x := .tup [.lit _, .lit _]) (.inr rfl) rfl (Sub.refl _) ?_ (OSub.none _) | refine fin (x := .tup [.im _ _, .lit _]) (.inr rfl) rfl (Sub.refl _) ?_ (OSub.none _) | refine fin (x := .tup [.lit _, .lit _, .lit _]) (.inr rfl) rfl (Sub.refl _) ?_ (OSub.none _) | refine fin (x := .agg _) (.inr rfl) rfl (Sub.refl _) ?_ (OSub.none _)
    exact ⟨rfl, rfl⟩
  · rw [h1]
    rw [h2] at h
    refine a_enter Try.func36 (by kernel_rfl) rfl Try.ntmps36 rfl (by simp) ?_
    repeat (first
    | refine a_seq ?_
    | refine a_reg ?_
    | refine a_regP mixed (by decide +kernel) ?_
    | refine t_lit tok rfl rfl rfl rfl ?_
    | refine t_im tok rfl rfl rfl rfl ?_
    | refine t_ip tok rfl rfl rfl rfl ?_
    | refine t_pt tok rfl rfl rfl rfl ?_
    | refine t_agg tok rfl rfl rfl rfl ?_
    | refine t_tup tok rfl rfl rfl rfl ?_
    | refine t_fn tok rfl rfl rfl rfl ?_
    | refine AL.nil ?_
    | refine s_skip rfl rfl rfl ?_
    | refine s_cmpT rfl rfl rfl rfl rfl rfl rfl (by first | (simp only [cmpP]; omega) | exact rfl) ?_
    | refine s_cmpF rfl rfl rfl rfl rfl rfl rfl (by first | (simp only [cmpP]; omega) | exact rfl) ?_
    | refine s_arith rfl rfl rfl rfl rfl rfl rfl (by first | (exact IntWalk.i64_in _ (by omega)) | (exact IntWalk.u8_in _ (by omega))) ?_
    | refine s_callP rfl rfl rfl rfl rfl (h) (SubL.of_eq rfl) ?_
    | refine a_condT rfl ?_
    | refine a_condF rfl ?_
    | refine a_skip ?_
    | refine a_exit ?_
    | refine a_ret ?_
    | refine a_block ?_)
    first | refine fin (x := .lit _) (.inr rfl) rfl (Sub.refl _) ?_ (OSub.none _) | refine fin (x := .im _ _) (.inr rfl) rfl (Sub.refl _) ?_ (OSub.none _) | refine fin (x := .tup [.lit _, .lit _]) (.inr rfl) rfl (Sub.refl _) ?_ (OSub.none _) | refine fin (x := .tup [.im _ _, .lit _]) (.inr rfl) rfl (Sub.refl _) ?_ (OSub.none _) | refine fin (x := .tup [.lit _, .lit _, .lit _]) (.inr rfl) rfl (Sub.refl _) ?_ (OSub.none _) | refine fin (x := .agg _) (.inr rfl) rfl (Sub.refl _) ?_ (OSub.none _)
    exact ⟨rfl, rfl⟩
end Go.Proofs.Ytniboaekigoheaa
