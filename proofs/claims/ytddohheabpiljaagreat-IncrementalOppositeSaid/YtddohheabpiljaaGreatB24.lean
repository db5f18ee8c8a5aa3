/-
  Parts of the proof of the law IncrementalOpposite (texts Y16, Y18): steps, plain mathematics, contracts of functions. Each theorem states its own conditions.
-/
import Derived.Test.YtddohheabpiljaaGreatB09
import Derived.Test.YtddohheabpiljaaGreatB22
import Derived.Test.YtddohheabpiljaaGreatB23
section
/-
  Is, Meet, Join, Fits, Ancestors, Below, by the program and by the reference: the walks.
-/
namespace Go.Proofs.YtddohheabpiljaaGreat
open Go.Sj Go.Sj.Typ
set_option maxRecDepth 8000
set_option linter.unusedVariables false
set_option maxHeartbeats 4000000

theorem given1_spec (a : Int) (t : Tys) : Pure Tryz.prog 183 [AI a, tysP t] (AB (outB t a)) := by
  have ln : (t.nodes.map cNod).length = t.nodes.length := by simp
  unfold outB
  refine a_enter Tryz.func183 (by kernel_rfl) rfl Tryz.ntmps183 rfl (by simp) ?_
  repeat' (first | refine gA pk ?_ | (show AL _ _ _ _ _ _ _; first | (refine s_cmp rfl rfl rfl rfl rfl rfl rfl (fun hb => ?_) (fun hb => ?_) <;> simp only [cmpP] at hb)) | fail)
  all_goals first | ((refine finQ ?_); exact ⟨ABt (by omega), rfl⟩) | ((refine finQ ?_); exact ⟨ABf (by omega), rfl⟩)
theorem given_spec (t : Tys) (ht : Small t) (l : List Int) (hl : l.length ≤ 1000) : Pure Tryz.prog 172 [tysA t, ints l] (AI (givenR t l)) := by
  have s1 := Valid_spec t ht
  have s2 := ContainsFuncI_spec l (by omega) 183 [tysP t] (outB t) (fun a _ => given1_spec a t)
  unfold givenR
  generalize (validR t).2 = e at *
  generalize (validR t).1 = nm at *
  generalize l.any (outB t) = b at *
  by_cases he : e = 0
  · subst he
    rw [if_neg (by decide)]
    cases b with
    | true =>
      rw [if_pos rfl]
      refine a_enter Tryz.func172 (by kernel_rfl) rfl Tryz.ntmps172 rfl (by simp) ?_; refine a_seq ?_; refine a_reg ?_; (repeat (first | refine gZ pk ?_ | (show AL _ _ _ _ _ _ _; first | refine jB (fun u => ?_)))); refine a_frzBox 0 2 rfl rfl ?_
      repeat (first | refine gA pk ?_ | (show AL _ _ _ _ _ _ _; first | refine jP s1 ?_ | refine jP s2 ?_))
      refine finQ ?_
      exact ⟨rfl, rfl⟩
    | false =>
      rw [if_neg (by decide)]
      refine a_enter Tryz.func172 (by kernel_rfl) rfl Tryz.ntmps172 rfl (by simp) ?_; refine a_seq ?_; refine a_reg ?_; (repeat (first | refine gZ pk ?_ | (show AL _ _ _ _ _ _ _; first | refine jB (fun u => ?_)))); refine a_frzBox 0 2 rfl rfl ?_
      repeat (first | refine gA pk ?_ | (show AL _ _ _ _ _ _ _; first | refine jP s1 ?_ | refine jP s2 ?_))
      refine finQ ?_
      exact ⟨rfl, rfl⟩
  · rw [if_pos he]
    refine a_enter Tryz.func172 (by kernel_rfl) rfl Tryz.ntmps172 rfl (by simp) ?_; refine a_seq ?_; refine a_reg ?_; (repeat (first | refine gZ pk ?_ | (show AL _ _ _ _ _ _ _; first | refine jB (fun u => ?_)))); refine a_frzBox 0 2 rfl rfl ?_
    repeat (first | refine gA pk ?_ | (show AL _ _ _ _ _ _ _; first | refine jP s1 ?_))
    refine finQ ?_
    exact ⟨rfl, rfl⟩
theorem given_own (t : Tys) (ht : Small t) (l : List Int) (hl : l.length ≤ 1000) (v : Value) : ACalls Tryz.prog 172 [tysA t, .lit v] [(v, .row 3 1 (rowI l))] (fun y L => y = AI (givenR t l) ∧ L = []) :=
  ACalls.give (given_spec t ht l hl) trivial ⟨FZ.refl _, FZ.here, trivial⟩
end Go.Proofs.YtddohheabpiljaaGreat

end
section
/-
  Fits, Ancestors, Below, by the program and by the reference: the walks.
-/
namespace Go.Proofs.YtddohheabpiljaaGreat
open Go.Sj Go.Sj.Typ
set_option maxRecDepth 8000
set_option linter.unusedVariables false
set_option maxHeartbeats 4000000

theorem given_own1 (t : Tys) (ht : Small t) (a : Int) (v : Value) : ACalls Tryz.prog 172 [tysA t, .lit v] [(v, .row 3 1 [[AI a]])] (fun y L => y = AI (givenR t [a]) ∧ L = []) := given_own t ht [a] (by simp) v
theorem given_at1 {t : Tys} (ht : Small t) {a : Int} (h : givenR t [a] = 0) : PR t.nodes t.nodes.length ∧ (0 ≤ a ∧ a < t.nodes.length) ∧ t.nodes.length ≤ 1000 :=
  ⟨given_pr h, (given_ok h).2 a (by simp), by have := ht.nodes; omega⟩
theorem rng_succ (p : Int → Bool) (k : Nat) : ((List.range (k + 1)).map fun (i : Nat) => (i : Int)).filter p = ((List.range k).map fun (i : Nat) => (i : Int)).filter p ++ if p k = true then [(k : Int)] else [] := by
  rw [List.range_succ, List.map_append, List.filter_append]
  congr 1
  simp only [List.map_cons, List.map_nil, List.filter_cons, List.filter_nil]
theorem rng_len (p : Int → Bool) (k : Nat) : (((List.range k).map fun (i : Nat) => (i : Int)).filter p).length ≤ k := by
  have := List.length_filter_le p ((List.range k).map fun (i : Nat) => (i : Int))
  simpa using this
theorem Below_spec (t : Tys) (ht : Small t) (a : Int) : Pure Tryz.prog 153 [tysA t, AI a] (.tup [ints (belR t a).1, AI (belR t a).2]) := by
  have s1 := given_own1 t ht a
  have ln : (t.nodes.map cNod).length = t.nodes.length := by simp
  have nil1 : Sub (.lit (.slice none 0 0)) (ints []) := Sub.nil 1
  unfold belR
  by_cases hg : givenR t [a] = 0
  · obtain ⟨hp, ha, hk⟩ := given_at1 ht hg
    rw [hg] at s1
    rw [if_neg (by omega)]
    have hst := rng_succ (fun x => decide (a ∈ up t.nodes x))
    have hln := rng_len (fun x => decide (a ∈ up t.nodes x))
    have s2 : ∀ i : Int, 0 ≤ i → i < t.nodes.length → Pure Tryz.prog 173 [tysA t, AI i, AI a] (AB (decide (a ∈ up t.nodes i))) := fun i hi h2 => is_spec t _ (Nat.le_refl _) hk hp i a (by omega) h2
    generalize hP : (fun x => decide (a ∈ up t.nodes x)) = P at *
    have hP2 : ∀ x, decide (a ∈ up t.nodes x) = P x := fun x => by rw [← hP]
    simp only [hP2] at s2 hst
    refine a_enter Tryz.func153 (by kernel_rfl) rfl Tryz.ntmps153 rfl (by simp) ?_; refine a_seq ?_; refine a_reg ?_; (repeat (first | refine gZ pk ?_ | (show AL _ _ _ _ _ _ _; first | refine jB (fun u => ?_)))); refine a_frzBox 0 2 rfl rfl ?_
    repeat (first | refine gA pk ?_ | (show AL _ _ _ _ _ _ _; first | refine s_build1 tok rfl rfl rfl rfl rfl rfl rfl rfl (fun u => ?_)))
    refine s_callO 0 rfl rfl rfl rfl rfl rfl (s1 _) (SubL.of_eq rfl) ?_
    rintro _ _ ⟨rfl, rfl⟩
    repeat (first | refine gA pk ?_)
    rw [ln]
    refine a_loop2 (fun (k : Nat) (v : Value) => [(1, AI a), (2, tysP t), (7, .lit v), (18, AI t.nodes.length), (19, AI k)]) (fun k v => [(v, .row 3 1 (rowI (((List.range k).map fun (i : Nat) => (i : Int)).filter P)))]) (fun k _ => k ≤ t.nodes.length) (fun k _ => t.nodes.length - k) 0 (.slice none 0 0) (by omega) ?_ (.free (OSub.none _)) ?_
    · exact subQ
    · intro k v hk
      by_cases hlt : k < t.nodes.length
      · have s3 := s2 k (by omega) (by omega)
        have hs := hst k
        have hl := hln k
        generalize ((List.range k).map fun (i : Nat) => (i : Int)).filter P = out at *
        have lo : (rowI out).length = out.length := by simp
        cases hb : P k with
        | true =>
          rw [hb] at s3
          rw [hb, if_pos rfl] at hs
          repeat (first | refine gA pk ?_ | (show AL _ _ _ _ _ _ _; first | refine jP s3 ?_))
          (first | refine s_build1 tok rfl rfl rfl rfl rfl rfl rfl rfl (fun u => ?_) | refine s_build1M tok rfl rfl rfl rfl rfl rfl rfl (fun u => ?_) | refine s_build1A tok rfl rfl rfl rfl rfl rfl rfl rfl (by decide) (fun u => ?_)); refine s_append1 tok 0 rfl rfl rfl rfl rfl rfl (by decide) rfl rfl rfl rfl (by omega) (by omega) (fun v' => ?_)
          repeat (first | refine gA pk ?_)
          refine ⟨k + 1, v', by omega, by omega, by exact subQ, ?_⟩
          rw [hs, rowI, List.map_append]
          exact OSub.refl _
        | false =>
          rw [hb] at s3
          rw [hb, if_neg (by decide), List.append_nil] at hs
          repeat (first | refine gA pk ?_ | (show AL _ _ _ _ _ _ _; first | refine jP s3 ?_))
          refine ⟨k + 1, v, by omega, by omega, by exact subQ, ?_⟩
          rw [hs]
          exact OSub.refl _
      · obtain rfl : k = t.nodes.length := by omega
        repeat (first | refine gA pk ?_)
        exact finF 0 (x := .tup [.lit _, .lit _]) (.inr rfl) rfl rfl (FZ.tup (m := [ints (((List.range t.nodes.length).map fun (i : Nat) => (i : Int)).filter P), AI 0]) ⟨FZ.here, FZ.refl _, trivial⟩) ⟨rfl, rfl⟩
  · rw [if_pos hg]
    generalize givenR t [a] = g at *
    refine a_enter Tryz.func153 (by kernel_rfl) rfl Tryz.ntmps153 rfl (by simp) ?_; refine a_seq ?_; refine a_reg ?_; (repeat (first | refine gZ pk ?_ | (show AL _ _ _ _ _ _ _; first | refine jB (fun u => ?_)))); refine a_frzBox 0 2 rfl rfl ?_
    repeat (first | refine gA pk ?_ | (show AL _ _ _ _ _ _ _; first | refine s_build1 tok rfl rfl rfl rfl rfl rfl rfl rfl (fun u => ?_)))
    refine s_callO 0 rfl rfl rfl rfl rfl rfl (s1 _) (SubL.of_eq rfl) ?_
    rintro _ _ ⟨rfl, rfl⟩
    repeat (first | refine gA pk ?_)
    exact fin (x := .tup [.lit _, .lit _]) (.inr rfl) rfl (Sub.tup (l := [.lit (.slice none 0 0), AI g]) (m := [ints [], AI g]) ⟨nil1, Sub.refl _, trivial⟩) ⟨rfl, rfl⟩ (OSub.none _)
end Go.Proofs.YtddohheabpiljaaGreat

end
