/-
  The laws on bounds and on the lattice, at the arguments as they are read.
-/
import Derived.Test.YtjkgjlaockihaaaP15
import Derived.Test.YtjkgjlaockihaaaSjT
namespace Go.Proofs.Ytjkgjlaockihaaa
open Go.Sj Go.Sj.Part
set_option linter.unusedVariables false

theorem u8_nat {x : List Int} (h : (∀ a ∈ x, (Lit.int .u8 a).wf = true) ∧ x.length ≤ maxLen) : ∃ l : List Nat, x.map (fun n => [AV.lit (.int .u8 n)]) = l.map cU ∧ (∀ n ∈ l, n < 256) ∧ l.length = x.length := by
  have hb : ∀ a ∈ x, 0 ≤ a ∧ a < 256 := fun a ha => by
    have := h.1 a ha
    simp only [Lit.wf, Bool.and_eq_true, decide_eq_true_eq] at this
    rw [show IntKind.u8.min = 0 by decide, show IntKind.u8.max = 255 by decide] at this
    omega
  refine ⟨x.map Int.toNat, ?_, fun n hn => ?_, by simp⟩
  · rw [List.map_map]
    apply List.map_congr_left
    intro a ha
    have := hb a ha
    simp only [Function.comp, cU]
    rw [show ((a.toNat : Nat) : Int) = a by omega]
  · rw [List.mem_map] at hn
    obtain ⟨a, ha, rfl⟩ := hn
    have := hb a ha
    omega

theorem PartitionBounds_spec (x : List Int) (hx : (∀ a ∈ x, (Lit.int .u8 a).wf = true) ∧ x.length ≤ maxLen) (y : List Int) (hy : (∀ a ∈ y, (Lit.int .u8 a).wf = true) ∧ y.length ≤ maxLen) (z : List Int) (hz : (∀ a ∈ z, (Lit.int .u8 a).wf = true) ∧ z.length ≤ maxLen) :
    Pure Try.prog 5 [.im 1 (x.map fun n => [.lit (.int .u8 n)]), .im 1 (y.map fun n => [.lit (.int .u8 n)]), .im 1 (z.map fun n => [.lit (.int .u8 n)])] (AB true) := by
  obtain ⟨a, ea, ha, _⟩ := u8_nat hx
  obtain ⟨b, eb, hb, _⟩ := u8_nat hy
  obtain ⟨c, ec, hc, _⟩ := u8_nat hz
  rw [ea, eb, ec]
  exact PartitionBounds_nat a b c ha hb hc

theorem PartitionLattice_spec (x : List Int) (hx : (∀ a ∈ x, (Lit.int .u8 a).wf = true) ∧ x.length ≤ maxLen) (y : List Int) (hy : (∀ a ∈ y, (Lit.int .u8 a).wf = true) ∧ y.length ≤ maxLen) (z : List Int) (hz : (∀ a ∈ z, (Lit.int .u8 a).wf = true) ∧ z.length ≤ maxLen) :
    Pure Try.prog 6 [.im 1 (x.map fun n => [.lit (.int .u8 n)]), .im 1 (y.map fun n => [.lit (.int .u8 n)]), .im 1 (z.map fun n => [.lit (.int .u8 n)])] (AB true) := by
  obtain ⟨a, ea, ha, _⟩ := u8_nat hx
  obtain ⟨b, eb, hb, _⟩ := u8_nat hy
  obtain ⟨c, ec, hc, _⟩ := u8_nat hz
  rw [ea, eb, ec]
  exact PartitionLattice_nat a b c ha hb hc
end Go.Proofs.Ytjkgjlaockihaaa
