/-
  Parts of the proof of the law IncrementalOpposite (texts D33): steps, plain mathematics, contracts of functions. Each theorem states its own conditions.
-/
import Derived.Test.YtddohheabpiljaaGreatB05
import Derived.Test.YtddohheabpiljaaGreatB09
import Derived.Test.YtddohheabpiljaaGreatB10
section
/-
  Repeated rows: the walks of bits.Mul and slices.Repeat at one number (D6, on the type table alone). Conditions: small counts.
-/
namespace Go.Proofs.YtddohheabpiljaaGreat
open Go.Sj
set_option maxRecDepth 8000
set_option linter.unusedVariables false
set_option maxHeartbeats 1000000

theorem Mul64_spec (c : Nat) (hc : c ≤ 1000000) : Pure Tryz.prog 158 [.lit (.int .u64 1), .lit (.int .u64 c)] (.tup [.lit (.int .u64 0), .lit (.int .u64 c)]) := by
  refine a_enter Tryz.func158 (by kernel_rfl) rfl Tryz.ntmps158 rfl (by simp) ?_
  repeat (first | refine gA pk ?_ | (show AL _ _ _ _ _ _ _; first | refine s_and32 rfl rfl rfl rfl rfl rfl (by omega) ?_ | refine s_shr32 rfl rfl rfl rfl rfl rfl (by omega) ?_ | refine s_arith rfl rfl rfl rfl rfl rfl rfl (IntWalk.u64_in _ (by omega)) ?_))
  refine fin (x := .tup [.lit _, .lit _]) (y := .tup [.lit (.int .u64 0), .lit (.int .u64 c)]) (.inr rfl) rfl (Sub.tup ⟨Sub.of_eq ?_, Sub.of_eq ?_, trivial⟩) ⟨rfl, rfl⟩ (OSub.refl _)
  · congr 2 <;> omega
  · congr 2 <;> omega
theorem Mul_spec (c : Nat) (hc : c ≤ 1000000) : Pure Tryz.prog 130 [.lit (.int .u64 1), .lit (.int .u64 c)] (.tup [.lit (.int .u64 0), .lit (.int .u64 c)]) := by
  refine a_enter Tryz.func130 (by kernel_rfl) rfl Tryz.ntmps130 rfl (by simp) ?_
  repeat (first | refine gA pk ?_ | (show AL _ _ _ _ _ _ _; first | refine jP (Mul64_spec c hc) ?_))
  refine finR ?_
  exact ⟨rfl, rfl⟩

theorem rep_step {α : Type} (x z : α) {n c m : Nat} (hn : n ≤ c) (hm : m = min n (c - n)) :
    (List.replicate n x ++ List.replicate (c - n) z).take n ++ (List.replicate n x ++ List.replicate (c - n) z).take m ++ (List.replicate n x ++ List.replicate (c - n) z).drop (n + m) = List.replicate (n + m) x ++ List.replicate (c - (n + m)) z := by
  have a1 : (List.replicate n x ++ List.replicate (c - n) z).take n = List.replicate n x := by
    rw [List.take_append_of_le_length (by simp)]; simp
  have a2 : (List.replicate n x ++ List.replicate (c - n) z).take m = List.replicate m x := by
    rw [List.take_append_of_le_length (by simp; omega), List.take_replicate, Nat.min_eq_left (by omega)]
  have a3 : (List.replicate n x ++ List.replicate (c - n) z).drop (n + m) = List.replicate (c - (n + m)) z := by
    rw [List.drop_append, List.drop_of_length_le (by simp), List.nil_append, List.length_replicate, List.drop_replicate, show c - n - (n + m - n) = c - (n + m) by omega]
  rw [a1, a2, a3, List.replicate_append_replicate]

theorem Repeat_spec (x : Int) (c : Nat) (hc : c ≤ 1000000) : Gives Tryz.prog 111 [ints [x], AI c] 3 1 (rowI (List.replicate c x)) := by
  refine a_enter Tryz.func111 (by kernel_rfl) rfl Tryz.ntmps111 rfl (by simp) ?_
  repeat (first | refine gA pk ?_ | (show AL _ _ _ _ _ _ _; first | refine jP (Mul_spec c hc) ?_ | refine s_conv tok rfl rfl rfl rfl rfl rfl rfl (IntWalk.u64_in _ (by first | omega | (simp only [List.length_map, List.length_cons, List.length_nil]; omega))) ?_ | refine s_conv tok rfl rfl rfl rfl rfl rfl rfl (IntWalk.i64_in _ (by omega)) ?_))
  refine s_make tok rfl rfl rfl rfl rfl rfl rfl rfl (by omega) (by omega) (by simp; omega) (by omega) (fun v => ?_)
  rw [show List.replicate (c : Int).toNat ([Value.int .i64 0].map AV.lit) = rowI (List.replicate c 0) by rw [Int.toNat_natCast]; simp [rowI, cI]]
  repeat (first | refine gA pk ?_)
  refine s_copyIm tok 0 (min 1 c) rfl rfl rfl rfl rfl rfl (by decide) rfl rfl rfl rfl (rowI_cell _) (by simp) ?_
  rw [show (rowI [x]).take (min 1 c) ++ (rowI (List.replicate c 0)).drop (min 1 c) = rowI (List.replicate (min 1 c) x ++ List.replicate (c - min 1 c) 0) by
    rcases Nat.eq_zero_or_pos c with h | h
    · subst h; rfl
    · rw [show min 1 c = 1 by omega]; simp [rowI]]
  repeat (first | refine gA pk ?_)
  refine a_loopX (fun n : Nat => [(7, .lit v), (8, AI n)]) (fun n => [(v, .row 3 1 (rowI (List.replicate n x ++ List.replicate (c - n) 0)))]) (fun n => n ≤ c ∧ (n = 0 → c = 0)) (fun n => c - n) (min 1 c) ⟨by omega, by omega⟩ ?_ (OSub.refl _) ?_
  · exact subQ
  · rintro n ⟨hn, h0⟩
    have lr : (rowI (List.replicate n x ++ List.replicate (c - n) (0 : Int))).length = c := by simp; omega
    rcases Nat.lt_or_ge n c with h1 | h1
    · obtain ⟨m, hm⟩ : ∃ m, m = min n (c - n) := ⟨_, rfl⟩
      have hs := rep_step x (0 : Int) hn hm
      repeat (first | (show AWp _ _ _ _ _ _; first | refine a_regD [.pure, .pure, .pure, .read, .pure, .pure, .read, .eff, .pure, .pure] mixed rfl (by decide +kernel) ?_) | refine gN pk ?_ | (show AL _ _ _ _ _ _ _; first | refine s_ownLen tok 0 rfl rfl rfl rfl (by decide) rfl rfl rfl ?_))
      refine s_ownPart tok 0 (a := n) (b := c) rfl rfl rfl rfl (by decide) rfl rfl rfl rfl rfl (by exact ⟨_, rfl⟩) (by exact lr.symm) (by omega) (by omega) ?_
      repeat (first | refine gA pk ?_)
      refine s_ownPart tok 0 (a := 0) (b := n) rfl rfl rfl rfl (by decide) rfl rfl rfl rfl rfl rfl (by exact ⟨_, rfl⟩) (by omega) (by omega) ?_
      refine s_copyOwn tok 0 (n := c) m rfl rfl rfl rfl rfl rfl (by decide) rfl rfl lr.symm rfl rfl (by omega) (by omega) (rowI_cell _) (by rw [lr]; exact hm) ?_
      rw [show (rowI (List.replicate n x ++ List.replicate (c - n) 0)).take n ++ (rowI (List.replicate n x ++ List.replicate (c - n) 0)).take m ++ (rowI (List.replicate n x ++ List.replicate (c - n) 0)).drop (n + m) = rowI (List.replicate (n + m) x ++ List.replicate (c - (n + m)) 0) by
        rw [← hs]; simp only [rowI, List.map_append, List.map_take, List.map_drop]]
      repeat (first | refine gA pk ?_)
      refine ⟨n + m, ⟨by omega, by omega⟩, by omega, ?_, OSub.refl _⟩
      exact subQ
    · obtain rfl : n = c := by omega
      repeat (first | refine gA pk ?_ | (show AL _ _ _ _ _ _ _; first | refine s_ownLen tok 0 rfl rfl rfl rfl (by decide) rfl rfl rfl ?_))
      refine finR ?_
      exact ⟨v, rfl, by simp⟩
end Go.Proofs.YtddohheabpiljaaGreat

end
