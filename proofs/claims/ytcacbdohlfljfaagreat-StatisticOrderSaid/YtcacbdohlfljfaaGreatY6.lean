/-
  Names, by the reference: the walks, the end.
-/
import Derived.Test.YtcacbdohlfljfaaGreatSjQ8
import Derived.Test.YtcacbdohlfljfaaGreatY5
namespace Go.Proofs.YtcacbdohlfljfaaGreat
open Go.Sj Go.Sj.Typ
set_option linter.unusedVariables false
set_option maxHeartbeats 4000000

theorem text_spec (s : ByteArray) : Pure Tryz.prog 127 [.agg [AI 1, AS s, AI 0]] (AS s) := by
  refine a_enter Tryz.func127 (by kernel_rfl) rfl Tryz.ntmps127 rfl (by simp) ?_; refine a_seq ?_; refine a_reg ?_; (repeat (first | refine gZ pk ?_ | (show AL _ _ _ _ _ _ _; first | refine jB (fun u => ?_)))); refine a_frzBox 0 1 rfl rfl ?_
  repeat (first | refine gA pk ?_)
  refine finQ ?_
  exact ⟨rfl, rfl⟩
theorem Right_spec (s : ByteArray) (hs : s.size ≤ 1000000) : Pure Tryz.prog 121 [.agg [AI 1, AS s, AI 0]] (AB (nameB s)) := by
  have s1 := text_spec s
  by_cases h0 : s.size = 0
  · have he : s = ⟨#[]⟩ := by
      cases s with | mk d =>
      congr
      exact Array.eq_empty_of_size_eq_zero h0
    subst he
    rw [show nameB ⟨#[]⟩ = false from by decide]
    refine a_enter Tryz.func121 (by kernel_rfl) rfl Tryz.ntmps121 rfl (by simp) ?_; refine a_seq ?_; refine a_reg ?_; (repeat (first | refine gZ pk ?_ | (show AL _ _ _ _ _ _ _; first | refine jB (fun u => ?_)))); refine a_frzBox 0 1 rfl rfl ?_
    repeat (first | refine gA pk ?_ | (show AL _ _ _ _ _ _ _; first | refine jP s1 ?_ | refine s_strEqT rfl rfl rfl rfl rfl rfl (by first | rfl | assumption) ?_))
    refine finQ ?_
    exact ⟨rfl, rfl⟩
  · have s2 := one_spec s (by omega) hs
    have hne : s ≠ ⟨#[]⟩ := by rintro rfl; exact h0 rfl
    generalize hnb : nameB s = nb at *
    refine a_enter Tryz.func121 (by kernel_rfl) rfl Tryz.ntmps121 rfl (by simp) ?_; refine a_seq ?_; refine a_reg ?_; (repeat (first | refine gZ pk ?_ | (show AL _ _ _ _ _ _ _; first | refine jB (fun u => ?_)))); refine a_frzBox 0 1 rfl rfl ?_
    repeat' (first | refine gA pk ?_ | (show AL _ _ _ _ _ _ _; first | refine jL tok (fun u => ?_) | refine jS tok 0 ?_ | refine jO tok 0 ?_ | refine jP s1 ?_ | refine s_strEqF rfl rfl rfl rfl rfl rfl (by assumption) ?_ | (refine s_call (Lc := []) rfl rfl rfl rfl rfl (s2) (SubL.of_eq rfl) (List.Perm.refl _) ?_; rintro _ _ ⟨⟨k, t, n, e, rfl, hiff⟩, rfl⟩) | (refine s_cmp rfl rfl rfl rfl rfl rfl rfl (fun hb => ?_) (fun hb => ?_) <;> simp only [cmpP] at hb)) | fail)
    all_goals refine finQ ?_
    all_goals refine ⟨?_, rfl⟩
    all_goals cases nb with
      | true => first | rfl | (obtain ⟨h1, h2, h3⟩ := hiff.2 rfl; exfalso; omega)
      | false => first | rfl | (exfalso; have := hiff.1 ⟨by omega, by omega, by omega⟩; cases this)
theorem refIsName_spec (s : ByteArray) (hs : s.size ≤ 1000000) : Pure Tryz.prog 106 [AS s] (AB (nameB s)) := by
  have h := Right_spec s hs
  generalize nameB s = b at *
  refine a_enter Tryz.func106 (by kernel_rfl) rfl Tryz.ntmps106 rfl (by simp) ?_
  repeat (first | refine gA pk ?_ | (show AL _ _ _ _ _ _ _; first | refine jP h ?_))
  refine finQ ?_
  exact ⟨rfl, rfl⟩
end Go.Proofs.YtcacbdohlfljfaaGreat
