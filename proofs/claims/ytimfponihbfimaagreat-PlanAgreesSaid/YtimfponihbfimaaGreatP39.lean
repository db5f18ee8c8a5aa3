/- Parts of a proof. -/
import Derived.Test.YtimfponihbfimaaGreatP32
import Derived.Test.YtimfponihbfimaaGreatP38
set_option linter.unusedVariables false
set_option linter.unusedSimpArgs false
section
namespace Go.Proofs.YtimfponihbfimaaGreat
open Go.Sj Go.Sj.Typ Go.Sj.Sta Go.Sj.Inc
set_option maxRecDepth 8000
set_option maxHeartbeats 16000000
abbrev AU (n : Nat) : AV := .lit (.int .u64 (n : Int))
theorem bitsLen_div {n k : Nat} (h : 2 ^ k ≤ n) : Sort.bitsLen n = k + Sort.bitsLen (n / 2 ^ k) := by
  apply Nat.le_antisymm
  · rw [Sort.bitsLen_le_iff]
    have h1 := Sort.lt_two_pow_bitsLen (n / 2 ^ k)
    rw [Nat.div_lt_iff_lt_mul (Nat.two_pow_pos k)] at h1
    rw [Nat.pow_add, Nat.mul_comm]
    exact h1
  · have h1 := Sort.lt_two_pow_bitsLen n
    have hk : k < Sort.bitsLen n := by
      rcases Nat.lt_or_ge k (Sort.bitsLen n) with h2 | h2
      · exact h2
      · have := (Sort.bitsLen_le_iff n k).1 h2
        omega
    have h3 : Sort.bitsLen (n / 2 ^ k) ≤ Sort.bitsLen n - k := by
      rw [Sort.bitsLen_le_iff, Nat.div_lt_iff_lt_mul (Nat.two_pow_pos k), ← Nat.pow_add, Nat.sub_add_cancel (by omega)]
      exact h1
    omega
theorem bitsLen_20 {n : Nat} (h : n ≤ 1000000) : Sort.bitsLen n ≤ 20 := (Sort.bitsLen_le_iff n 20).2 (by omega)
theorem len64E_spec (n : Nat) (hn : n ≤ 1000000) : ACalls Tryz.prog 133 [AU n] [] (fun y L => y = AI (Sort.bitsLen n : Nat) ∧ L = []) := by
  rcases Nat.lt_or_ge n 65536 with h1 | h1
  · rcases Nat.lt_or_ge n 256 with h2 | h2
    · obtain ⟨z, hz0⟩ : ∃ z : Nat, z = Sort.bitsLen n := ⟨_, rfl⟩
      refine zen Tryz.func133 (by kernel_rfl) rfl Tryz.ntmps133 rfl (by simp) ?_
      repeat (first | refine gN pk ?_ | (show AL _ _ _ _ _ _ _; first | refine zcv tok rfl rfl rfl rfl rfl rfl rfl (IntWalk.u8_in _ (by omega)) ?_ | refine s_strIx tok rfl rfl rfl rfl rfl rfl rfl (by omega) (Int.lt_of_lt_of_le (b := 256) (by omega) (by decide +kernel)) ?_))
      rw [Int.toNat_natCast]
      generalize hbz : byt _ _ = w
      have hw : w = (z : Int) := by
        rw [← hbz, hz0]
        clear hz0 hbz hn h1
        revert n
        decide +kernel
      have hz : z ≤ 20 := by rw [hz0]; exact bitsLen_20 hn
      rw [hw]
      rw [← hz0]
      clear hbz hw hz0
      repeat (first | refine gA pk ?_ | (show AL _ _ _ _ _ _ _; first | refine zcv tok rfl rfl rfl rfl rfl rfl rfl (IntWalk.i64_in _ (by omega)) ?_))
      rw [show (0 : Int) + (z : Int) = z by omega]
      exact fin (x := .lit _) (.inr rfl) rfl (Sub.refl _) ⟨rfl, rfl⟩ (OSub.none _)
    · obtain ⟨m, hm⟩ : ∃ m, n / 256 = m := ⟨_, rfl⟩
      have hb := bitsLen_div (n := n) (k := 8) (by omega)
      rw [show (2 ^ 8 : Nat) = 256 by decide, hm] at hb
      obtain ⟨z, hz0⟩ : ∃ z : Nat, z = Sort.bitsLen m := ⟨_, rfl⟩
      have hm2 : m < 256 := by omega
      refine zen Tryz.func133 (by kernel_rfl) rfl Tryz.ntmps133 rfl (by simp) ?_
      repeat (first | refine gN pk ?_ | (show AL _ _ _ _ _ _ _; first | refine s_shrU (c := 8) rfl rfl rfl rfl rfl rfl (by omega) ?_))
      rw [show ((n / 2 ^ 8 : Nat) : Int) = (m : Int) by rw [show (2 ^ 8 : Nat) = 256 by decide, hm]]
      repeat (first | refine gN pk ?_ | (show AL _ _ _ _ _ _ _; first | refine zcv tok rfl rfl rfl rfl rfl rfl rfl (IntWalk.u8_in _ (by omega)) ?_ | refine s_strIx tok rfl rfl rfl rfl rfl rfl rfl (by omega) (Int.lt_of_lt_of_le (b := 256) (by omega) (by decide +kernel)) ?_))
      rw [Int.toNat_natCast]
      generalize hbz : byt _ _ = w
      have hw : w = (z : Int) := by
        rw [← hbz, hz0]
        clear hz0 hbz hn h1 hm hb
        revert m
        decide +kernel
      have hz : z ≤ 20 := by rw [hz0]; exact bitsLen_20 (by omega)
      rw [hw, hb]
      rw [← hz0]
      clear hbz hw hz0
      repeat (first | refine gA pk ?_ | (show AL _ _ _ _ _ _ _; first | refine zcv tok rfl rfl rfl rfl rfl rfl rfl (IntWalk.i64_in _ (by omega)) ?_))
      rw [show (0 : Int) + 8 + (z : Int) = ((8 + z : Nat) : Int) by omega]
      exact fin (x := .lit _) (.inr rfl) rfl (Sub.refl _) ⟨rfl, rfl⟩ (OSub.none _)
  · obtain ⟨m, hm⟩ : ∃ m, n / 65536 = m := ⟨_, rfl⟩
    have hb := bitsLen_div (n := n) (k := 16) (by omega)
    rw [show (2 ^ 16 : Nat) = 65536 by decide, hm] at hb
    obtain ⟨z, hz0⟩ : ∃ z : Nat, z = Sort.bitsLen m := ⟨_, rfl⟩
    have hm2 : m < 256 := by omega
    refine zen Tryz.func133 (by kernel_rfl) rfl Tryz.ntmps133 rfl (by simp) ?_
    repeat (first | refine gN pk ?_ | (show AL _ _ _ _ _ _ _; first | refine s_shrU (c := 16) rfl rfl rfl rfl rfl rfl (by omega) ?_))
    rw [show ((n / 2 ^ 16 : Nat) : Int) = (m : Int) by rw [show (2 ^ 16 : Nat) = 65536 by decide, hm]]
    repeat (first | refine gN pk ?_ | (show AL _ _ _ _ _ _ _; first | refine zcv tok rfl rfl rfl rfl rfl rfl rfl (IntWalk.u8_in _ (by omega)) ?_ | refine s_strIx tok rfl rfl rfl rfl rfl rfl rfl (by omega) (Int.lt_of_lt_of_le (b := 256) (by omega) (by decide +kernel)) ?_))
    rw [Int.toNat_natCast]
    generalize hbz : byt _ _ = w
    have hw : w = (z : Int) := by
      rw [← hbz, hz0]
      clear hz0 hbz hn h1 hm hb
      revert m
      decide +kernel
    have hz : z ≤ 20 := by rw [hz0]; exact bitsLen_20 (by omega)
    rw [hw, hb]
    rw [← hz0]
    clear hbz hw hz0
    repeat (first | refine gA pk ?_ | (show AL _ _ _ _ _ _ _; first | refine zcv tok rfl rfl rfl rfl rfl rfl rfl (IntWalk.i64_in _ (by omega)) ?_))
    rw [show (0 : Int) + 16 + (z : Int) = ((16 + z : Nat) : Int) by omega]
    exact fin (x := .lit _) (.inr rfl) rfl (Sub.refl _) ⟨rfl, rfl⟩ (OSub.none _)
theorem lenE_spec (n : Nat) (hn : n ≤ 1000000) : Pure Tryz.prog 81 [AU n] (AI (Sort.bitsLen n : Nat)) := by
  have s1 := len64E_spec n hn
  generalize Sort.bitsLen n = z at *
  refine zen Tryz.func81 (by kernel_rfl) rfl Tryz.ntmps81 rfl (by simp) ?_
  repeat (first | refine gA pk ?_ | (show AL _ _ _ _ _ _ _; first | refine zsc (Lc := []) (Lr := []) rfl rfl rfl rfl rfl s1 (SubL.of_eq rfl) (List.Perm.refl _) ?_; rintro _ _ ⟨rfl, rfl⟩))
  exact fin (x := .lit _) (.inr rfl) rfl (Sub.refl _) ⟨rfl, rfl⟩ (OSub.none _)
theorem npow_spec (n : Nat) (hn : n ≤ 1000000) : Pure Tryz.prog 173 [AI n] (AU (1 <<< Sort.bitsLen n)) := by
  have s1 := lenE_spec n hn
  have hz := bitsLen_20 hn
  rw [Nat.one_shiftLeft]
  generalize Sort.bitsLen n = z at *
  have hp : (2 : Nat) ^ z ≤ 2 ^ 20 := Nat.pow_le_pow_right (by decide) hz
  have e1 : 1 * 2 ^ z % 18446744073709551616 = 2 ^ z := by omega
  refine zen Tryz.func173 (by kernel_rfl) rfl Tryz.ntmps173 rfl (by simp) ?_
  repeat (first | refine gA pk ?_ | (show AL _ _ _ _ _ _ _; first | refine zcv tok rfl rfl rfl rfl rfl rfl rfl (IntWalk.u64_in _ (by omega)) ?_ | refine jP s1 ?_ | refine s_shlU (a := 1) rfl rfl rfl rfl rfl rfl (by omega) ?_))
  rw [e1]
  exact fin (x := .lit _) (.inr rfl) rfl (Sub.refl _) ⟨rfl, rfl⟩ (OSub.none _)
theorem xorNext_eq (r : UInt64) : (Sort.xorNext r).toNat =
    (let a := r.toNat ^^^ (r.toNat * 2 ^ 13 % 18446744073709551616)
     let b := a ^^^ (a / 2 ^ 7)
     b ^^^ (b * 2 ^ 17 % 18446744073709551616)) := by
  simp [Sort.xorNext, UInt64.toNat_xor, UInt64.toNat_shiftLeft, UInt64.toNat_shiftRight, Nat.shiftLeft_eq, Nat.shiftRight_eq_div_pow]
theorem xnext_spec (p : Value) (r : UInt64) : ACalls Tryz.prog 174 [.pt p 0 0 0] [(p, .box [AU r.toNat])] (fun y M => y = AU (Sort.xorNext r).toNat ∧ M = [(p, .box [AU (Sort.xorNext r).toNat])]) := by
  have h := xorNext_eq r
  have hlt := (Sort.xorNext r).toNat_lt
  have hx := r.toNat_lt
  generalize (Sort.xorNext r).toNat = w at *
  generalize r.toNat = x at *
  simp only at h
  obtain ⟨A0, hA⟩ : ∃ A0, x * 2 ^ 13 % 18446744073709551616 = A0 := ⟨_, rfl⟩
  rw [hA] at h
  have a0 : A0 < 18446744073709551616 := by omega
  obtain ⟨A, hA2⟩ : ∃ A, x ^^^ A0 = A := ⟨_, rfl⟩
  rw [hA2] at h
  have a1 : A < 18446744073709551616 := by rw [← hA2]; exact Nat.xor_lt_two_pow (n := 64) (by omega) (by omega)
  obtain ⟨B0, hB⟩ : ∃ B0, A / 2 ^ 7 = B0 := ⟨_, rfl⟩
  rw [hB] at h
  have b0 : B0 < 18446744073709551616 := by omega
  obtain ⟨B, hB2⟩ : ∃ B, A ^^^ B0 = B := ⟨_, rfl⟩
  rw [hB2] at h
  have b1 : B < 18446744073709551616 := by rw [← hB2]; exact Nat.xor_lt_two_pow (n := 64) (by omega) (by omega)
  obtain ⟨C0, hC⟩ : ∃ C0, B * 2 ^ 17 % 18446744073709551616 = C0 := ⟨_, rfl⟩
  rw [hC] at h
  have c0 : C0 < 18446744073709551616 := by omega
  refine zen Tryz.func174 (by kernel_rfl) rfl Tryz.ntmps174 rfl (by simp) ?_
  repeat (first | refine gN pk ?_)
  refine zrg ((List.range 10).map fun i => if inL [9] i = true then .eff else if inL [2, 5] i = true then .read else .pure) [] [0, 1, 2, 3, 4, 5, 6, 7, 8, 9] .stop mixed rfl rfl (by decide +kernel) ?_
  repeat' (first | (with_reducible show AG _ _ _ _ _ _ _ _ _ _; first | exact zgn | refine zgs ?_ | refine znd ?_ ?_) | (show AMid _ _ _ _; first | refine zmf ?_ | refine zmg (by first | exact OSub.refl _ | exact .drop (OSub.refl _) | exact .drop (.drop (OSub.refl _))) ?_) | refine gY pk ?_ | (show AL _ _ _ _ _ _ _; first | refine jO tok 0 ?_ | refine s_shlU (c := 13) rfl rfl rfl rfl rfl rfl (by decide) ?_ | (rw [hA]; refine s_xorU rfl rfl rfl rfl rfl rfl (by omega) (by omega) ?_) | refine jS tok 0 ?_) | fail)
  rw [hA2]
  repeat (first | refine gN pk ?_)
  refine zrg ((List.range 10).map fun i => if inL [9] i = true then .eff else if inL [2, 5] i = true then .read else .pure) [] [0, 1, 2, 3, 4, 5, 6, 7, 8, 9] .stop mixed rfl rfl (by decide +kernel) ?_
  repeat' (first | (with_reducible show AG _ _ _ _ _ _ _ _ _ _; first | exact zgn | refine zgs ?_ | refine znd ?_ ?_) | (show AMid _ _ _ _; first | refine zmf ?_ | refine zmg (by first | exact OSub.refl _ | exact .drop (OSub.refl _) | exact .drop (.drop (OSub.refl _))) ?_) | refine gY pk ?_ | (show AL _ _ _ _ _ _ _; first | refine jO tok 0 ?_ | refine s_shrU (c := 7) rfl rfl rfl rfl rfl rfl (by decide) ?_ | (rw [hB]; refine s_xorU rfl rfl rfl rfl rfl rfl (by omega) (by omega) ?_) | refine jS tok 0 ?_) | fail)
  rw [hB2]
  repeat (first | refine gN pk ?_)
  refine zrg ((List.range 10).map fun i => if inL [9] i = true then .eff else if inL [2, 5] i = true then .read else .pure) [] [0, 1, 2, 3, 4, 5, 6, 7, 8, 9] .stop mixed rfl rfl (by decide +kernel) ?_
  repeat' (first | (with_reducible show AG _ _ _ _ _ _ _ _ _ _; first | exact zgn | refine zgs ?_ | refine znd ?_ ?_) | (show AMid _ _ _ _; first | refine zmf ?_ | refine zmg (by first | exact OSub.refl _ | exact .drop (OSub.refl _) | exact .drop (.drop (OSub.refl _))) ?_) | refine gY pk ?_ | (show AL _ _ _ _ _ _ _; first | refine jO tok 0 ?_ | refine s_shlU (c := 17) rfl rfl rfl rfl rfl rfl (by decide) ?_ | (rw [hC]; refine s_xorU rfl rfl rfl rfl rfl rfl (by omega) (by omega) ?_) | refine jS tok 0 ?_) | fail)
  rw [← h]
  repeat (first | refine gA pk ?_ | (show AL _ _ _ _ _ _ _; first | refine jO tok 0 ?_))
  exact fin (x := .lit _) (.inr rfl) rfl (Sub.refl _) ⟨rfl, rfl⟩ (OSub.refl _)
def bpR (a L M i0 : Nat) : Nat → Nat → UInt64 × Array Mo → Array Mo
  | 0, _, st => st.2
  | k + 1, t, st => bpR a L M i0 k (t + 1) (Sort.breakStep a L M st (i0 + t))
theorem break_eq (d : Array Mo) (a L : Nat) (h8 : 8 ≤ L) : Sort.breakPatterns d a (a + L) = bpR a L (1 <<< Sort.bitsLen L) (a + L / 4 * 2 - 1) 3 0 (UInt64.ofNat L, d) := by
  unfold Sort.breakPatterns
  simp only [Nat.add_sub_cancel_left]
  rw [if_pos h8]
  rfl
theorem break_spec (d : Array Mo) (hd : AllB d) (a b : Nat) (hab : a ≤ b) (hb : b ≤ d.size) (v : Value) :
    ACalls Tryz.prog 126 [.lit v, AI a, AI b, cmpF] [(v, rowM d)] (fun y M => y = .tup [] ∧ M = [(v, rowM (Sort.breakPatterns d a b))]) := by
  have hn := hd.n
  obtain ⟨L, rfl⟩ : ∃ L, b = a + L := ⟨b - a, by omega⟩
  by_cases h8 : 8 ≤ L
  · rw [break_eq d a L h8]
    have s1 := npow_spec L (by omega)
    have hp := Sort.two_pow_bitsLen_le (n := L) (by omega)
    have hp0 := Nat.two_pow_pos (Sort.bitsLen L)
    have h20 : (2 : Nat) ^ Sort.bitsLen L ≤ 2 ^ 20 := Nat.pow_le_pow_right (by decide) (bitsLen_20 (by omega))
    rw [← Nat.one_shiftLeft] at hp hp0 h20
    generalize 1 <<< Sort.bitsLen L = M at *
    obtain ⟨q, hq⟩ : ∃ q, L / 4 * 2 = q := ⟨_, rfl⟩
    have hq2 : 4 ≤ q ∧ q ≤ L - 4 := by omega
    rw [hq]
    obtain ⟨R, hR⟩ : ∃ R, bpR a L M (a + q - 1) 3 0 (UInt64.ofNat L, d) = R := ⟨_, rfl⟩
    rw [hR]
    have hL : (UInt64.ofNat L).toNat = L := by
      rw [UInt64.toNat_ofNat']
      omega
    have hL2 : ((a + L : Nat) : Int) - (a : Int) = L := by omega
    have hqz : (L : Int) / 4 * 2 = (q : Int) := by omega
    have hix : (a : Int) + (q : Int) - 1 = ((a + q - 1 + 0 : Nat) : Int) := by omega
    refine zen Tryz.func126 (by kernel_rfl) rfl Tryz.ntmps126 rfl (by simp) ?_
    repeat (first | refine gA pk ?_ | (show AL _ _ _ _ _ _ _; first | refine s_quo rfl rfl rfl rfl rfl rfl (by omega) (by omega) (IntWalk.i64_in _ (by omega)) ?_ | refine jL tok (fun ur => ?_) | refine zcv tok rfl rfl rfl rfl rfl rfl rfl (IntWalk.u64_in _ (by omega)) ?_ | (rw [hL2]; refine jP s1 ?_) | refine jS tok 0 ?_ | refine jP s1 ?_))
    rw [hqz, hix]
    obtain ⟨r0, hr0⟩ : ∃ r0 : UInt64, UInt64.ofNat L = r0 := ⟨_, rfl⟩
    rw [hr0] at hL hR
    rw [show OB.box [.lit (.int .u64 ((L : Nat) : Int))] = OB.box [AU r0.toNat] by rw [hL]]
    clear s1 hr0 hL hix
    refine zlx (fun x : Nat × (UInt64 × Array Mo) => [(0, .lit v), (1, AI a), (8, AI L), (9, .pt ur 0 0 0), (10, AU M), (11, AI ((a + q - 1 + x.1 : Nat) : Int))]) (fun x => [(ur, .box [AU x.2.1.toNat]), (v, rowM x.2.2)]) (fun x => x.1 ≤ 3 ∧ AllB x.2.2 ∧ x.2.2.size = d.size ∧ bpR a L M (a + q - 1) (3 - x.1) x.1 x.2 = R) (fun x => 3 - x.1) (0, (r0, d)) ⟨by show 0 ≤ 3; omega, hd, rfl, hR⟩ ?_ (OSub.refl _) ?_
    · exact subQ
    clear hR
    rintro ⟨t, r1, f⟩ ⟨m1, m2, m3, m4⟩
    simp only at m1 m2 m3 m4
    dsimp only
    have hM1 : (M : Int) - 1 = ((M - 1 : Nat) : Int) := by omega
    rcases Nat.lt_or_ge t 3 with ht | ht
    · obtain ⟨k, hk⟩ : ∃ k, 3 - t = k + 1 := ⟨2 - t, by omega⟩
      rw [hk, bpR] at m4
      rw [show k = 3 - (t + 1) by omega] at m4
      unfold Sort.breakStep at m4
      simp only [] at m4
      have nxt := fun p => xnext_spec p r1
      generalize Sort.xorNext r1 = r at *
      have hrl := r.toNat_lt
      obtain ⟨o, ho⟩ : ∃ o, r.toNat &&& (M - 1) = o := ⟨_, rfl⟩
      have ho2 : o ≤ M - 1 := by rw [← ho]; exact Nat.and_le_right
      rw [ho] at m4
      by_cases hoL : o ≥ L
      · rw [if_pos hoL] at m4
        have s1 := zat (d := f) (z := ((a + q - 1 + t : Nat) : Int)) (j := a + q - 1 + t) (by omega) (by omega)
        have s2 := zat (d := f) (z := ((a : Int) + ((o : Int) - L))) (j := a + (o - L)) (by omega) (by omega)
        have se1 : (((a + q - 1 + t : Nat) : Int) : Int).toNat = a + q - 1 + t := by omega
        have se2 : (((a : Int) + ((o : Int) - L)) : Int).toNat = a + (o - L) := by omega
        have sw : (f.setIfInBounds (a + q - 1 + t) f[a + (o - L)]!).setIfInBounds (a + (o - L)) f[a + q - 1 + t]! = Sort.swp f (a + q - 1 + t) (a + (o - L)) := rfl
        have sk := m2.swp (a + q - 1 + t) (a + (o - L))
        have sn := zsw f (a + q - 1 + t) (a + (o - L))
        generalize Sort.swp f (a + q - 1 + t) (a + (o - L)) = sF at *
        generalize f[a + q - 1 + t]! = sx at *
        generalize f[a + (o - L)]! = sy at *
        repeat (first | refine gN pk ?_ | (show AL _ _ _ _ _ _ _; first | refine s_quo rfl rfl rfl rfl rfl rfl (by omega) (by omega) (IntWalk.i64_in _ (by omega)) ?_ | refine zsc (Lc := [(ur, .box [AU r1.toNat])]) (Lr := [(v, rowM f)]) rfl rfl rfl rfl rfl (nxt ur) (SubL.of_eq rfl) (List.Perm.refl _) ?_; rintro _ _ ⟨rfl, rfl⟩ | refine s_arith rfl rfl rfl rfl rfl rfl rfl (IntWalk.u64_in _ (by omega)) ?_ | (rw [hM1]; refine s_andU rfl rfl rfl rfl rfl rfl (by omega) (by omega) ?_; rw [ho]) | refine zcv tok rfl rfl rfl rfl rfl rfl rfl (IntWalk.i64_in _ (by omega)) ?_))
        refine zrg ((List.range 20).map fun i => if inL [17, 19] i = true then .eff else if inL [10, 11, 14, 15, 16, 18] i = true then .read else .pure) [] [0, 1, 2, 3, 4, 5, 6, 7, 8, 9, 10, 11, 12, 13, 14, 15, 16, 17, 18, 19] .stop mixed rfl rfl (by decide +kernel) ?_
        repeat' (first | (with_reducible show AG _ _ _ _ _ _ _ _ _ _; first | exact zgn | refine zgs ?_ | refine znd ?_ ?_) | (show AMid _ _ _ _; first | refine zmf ?_ | refine zmg (by first | exact OSub.refl _ | exact .drop (OSub.refl _) | exact .drop (.drop (OSub.refl _))) ?_) | refine gY pk ?_ | (show AL _ _ _ _ _ _ _; first | refine zim tok 1 rfl rfl rfl rfl (by decide) rfl rfl rfl rfl rfl rfl (by omega) (by first | omega | (simp only [Array.size_setIfInBounds]; omega)) ?_ | refine zlm tok 1 rfl rfl rfl rfl (by decide) rfl (fun _ _ => rfl) rfl rfl s1 ?_ | refine zlm tok 1 rfl rfl rfl rfl (by decide) rfl (fun _ _ => rfl) rfl rfl s2 ?_ | refine s_storeMo tok 1 rfl rfl rfl rfl rfl rfl rfl rfl (by first | omega | (simp only [Array.size_setIfInBounds]; omega)) ?_) | fail)
        rw [se1, se2, sw]
        repeat (first | refine gA pk ?_)
        refine ⟨(t + 1, (r, sF)), ⟨by show t + 1 ≤ 3; omega, sk, by show sF.size = _; omega, m4⟩, by show 3 - (t + 1) < 3 - t; omega, ?_, OSub.refl _⟩
        rw [show (((a + q - 1 + t : Nat) : Int) + 1) = ((a + q - 1 + (t + 1) : Nat) : Int) by omega]
        exact subQ
      · rw [if_neg hoL] at m4
        have s1 := zat (d := f) (z := ((a + q - 1 + t : Nat) : Int)) (j := a + q - 1 + t) (by omega) (by omega)
        have s2 := zat (d := f) (z := ((a : Int) + (o : Int))) (j := a + o) (by omega) (by omega)
        have se1 : (((a + q - 1 + t : Nat) : Int) : Int).toNat = a + q - 1 + t := by omega
        have se2 : (((a : Int) + (o : Int)) : Int).toNat = a + o := by omega
        have sw : (f.setIfInBounds (a + q - 1 + t) f[a + o]!).setIfInBounds (a + o) f[a + q - 1 + t]! = Sort.swp f (a + q - 1 + t) (a + o) := rfl
        have sk := m2.swp (a + q - 1 + t) (a + o)
        have sn := zsw f (a + q - 1 + t) (a + o)
        generalize Sort.swp f (a + q - 1 + t) (a + o) = sF at *
        generalize f[a + q - 1 + t]! = sx at *
        generalize f[a + o]! = sy at *
        repeat (first | refine gN pk ?_ | (show AL _ _ _ _ _ _ _; first | refine s_quo rfl rfl rfl rfl rfl rfl (by omega) (by omega) (IntWalk.i64_in _ (by omega)) ?_ | refine zsc (Lc := [(ur, .box [AU r1.toNat])]) (Lr := [(v, rowM f)]) rfl rfl rfl rfl rfl (nxt ur) (SubL.of_eq rfl) (List.Perm.refl _) ?_; rintro _ _ ⟨rfl, rfl⟩ | refine s_arith rfl rfl rfl rfl rfl rfl rfl (IntWalk.u64_in _ (by omega)) ?_ | (rw [hM1]; refine s_andU rfl rfl rfl rfl rfl rfl (by omega) (by omega) ?_; rw [ho]) | refine zcv tok rfl rfl rfl rfl rfl rfl rfl (IntWalk.i64_in _ (by omega)) ?_))
        refine zrg ((List.range 20).map fun i => if inL [17, 19] i = true then .eff else if inL [10, 11, 14, 15, 16, 18] i = true then .read else .pure) [] [0, 1, 2, 3, 4, 5, 6, 7, 8, 9, 10, 11, 12, 13, 14, 15, 16, 17, 18, 19] .stop mixed rfl rfl (by decide +kernel) ?_
        repeat' (first | (with_reducible show AG _ _ _ _ _ _ _ _ _ _; first | exact zgn | refine zgs ?_ | refine znd ?_ ?_) | (show AMid _ _ _ _; first | refine zmf ?_ | refine zmg (by first | exact OSub.refl _ | exact .drop (OSub.refl _) | exact .drop (.drop (OSub.refl _))) ?_) | refine gY pk ?_ | (show AL _ _ _ _ _ _ _; first | refine zim tok 1 rfl rfl rfl rfl (by decide) rfl rfl rfl rfl rfl rfl (by omega) (by first | omega | (simp only [Array.size_setIfInBounds]; omega)) ?_ | refine zlm tok 1 rfl rfl rfl rfl (by decide) rfl (fun _ _ => rfl) rfl rfl s1 ?_ | refine zlm tok 1 rfl rfl rfl rfl (by decide) rfl (fun _ _ => rfl) rfl rfl s2 ?_ | refine s_storeMo tok 1 rfl rfl rfl rfl rfl rfl rfl rfl (by first | omega | (simp only [Array.size_setIfInBounds]; omega)) ?_) | fail)
        rw [se1, se2, sw]
        repeat (first | refine gA pk ?_)
        refine ⟨(t + 1, (r, sF)), ⟨by show t + 1 ≤ 3; omega, sk, by show sF.size = _; omega, m4⟩, by show 3 - (t + 1) < 3 - t; omega, ?_, OSub.refl _⟩
        rw [show (((a + q - 1 + t : Nat) : Int) + 1) = ((a + q - 1 + (t + 1) : Nat) : Int) by omega]
        exact subQ
    · obtain rfl : t = 3 := by omega
      rw [show 3 - 3 = 0 by omega, bpR] at m4
      subst m4
      repeat (first | refine gA pk ?_ | (show AL _ _ _ _ _ _ _; first | refine s_quo rfl rfl rfl rfl rfl rfl (by omega) (by omega) (IntWalk.i64_in _ (by omega)) ?_))
      exact fin (x := .tup []) (.inl rfl) rfl (Sub.refl _) ⟨rfl, rfl⟩ (OSub.drop (OSub.refl _))
  · have e : Sort.breakPatterns d a (a + L) = d := by
      unfold Sort.breakPatterns
      simp only [Nat.add_sub_cancel_left]
      rw [if_neg h8]
    rw [e]
    refine zen Tryz.func126 (by kernel_rfl) rfl Tryz.ntmps126 rfl (by simp) ?_
    repeat (first | refine gA pk ?_)
    exact fin (x := .tup []) (.inl rfl) rfl (Sub.refl _) ⟨rfl, rfl⟩ (OSub.refl _)
end Go.Proofs.YtimfponihbfimaaGreat
end
section
namespace Go.Proofs.YtimfponihbfimaaGreat
open Go.Sj Go.Sj.Typ Go.Sj.Sta Go.Sj.Inc
set_option maxRecDepth 8000
set_option maxHeartbeats 16000000
theorem ins_spec (d : Array Mo) (hd : AllB d) (a b : Nat) (hab : a ≤ b) (hb : b ≤ d.size) (v : Value) :
    ACalls Tryz.prog 124 [.lit v, AI a, AI b, cmpF] [(v, rowM d)] (fun y M => y = .tup [] ∧ M = [(v, rowM (Sort.insertionSort ltM d a b))]) := by
  have hn := hd.n
  refine zen Tryz.func124 (by kernel_rfl) rfl Tryz.ntmps124 rfl (by simp) ?_
  repeat (first | refine gA pk ?_)
  refine zlx (fun x : Nat × Array Mo => [(0, .lit v), (1, AI a), (2, AI b), (3, cmpF), (8, AI x.1)]) (fun x => [(v, rowM x.2)]) (fun x => a + 1 ≤ x.1 ∧ AllB x.2 ∧ x.2.size = d.size ∧ Sort.insOuter ltM a b x.1 x.2 = Sort.insertionSort ltM d a b) (fun x => b - x.1) (a + 1, d) ⟨Nat.le_refl _, hd, rfl, rfl⟩ ?_ (OSub.refl _) ?_
  · exact subQ
  · rintro ⟨i, e⟩ ⟨h1, h2, h3, h4⟩
    simp only at h1 h2 h3 h4
    rcases Nat.lt_or_ge i b with h | h
    · rw [Sort.insOuter, if_pos h] at h4
      repeat (first | refine gN pk ?_)
      refine zlx (fun x : Nat × Array Mo => [(0, .lit v), (1, AI a), (2, AI b), (3, cmpF), (8, AI i), (9, AI x.1)]) (fun x => [(v, rowM x.2)]) (fun x => x.1 ≤ i ∧ a ≤ x.1 ∧ AllB x.2 ∧ x.2.size = d.size ∧ Sort.insInner ltM a x.1 x.2 = Sort.insInner ltM a i e) (fun x => x.1) (i, e) ⟨Nat.le_refl _, by show a ≤ i; omega, h2, h3, rfl⟩ ?_ (OSub.refl _) ?_
      · exact subQ
      · rintro ⟨j, f⟩ ⟨k1, k2, k3, k4, k5⟩
        simp only at k1 k2 k3 k4 k5
        rcases Nat.lt_or_ge a j with hj | hj
        · obtain ⟨j, rfl⟩ : ∃ j', j = j' + 1 := ⟨j - 1, by omega⟩
          have g1 := zat (d := f) (z := ((j + 1 : Nat) : Int)) rfl (by omega)
          have g2 := zat (d := f) (z := ((j + 1 : Nat) : Int) - 1) (j := j) (by omega) (by omega)
          have hc := icmp f k3 (j + 1) j
          have e1 : (((j + 1 : Nat) : Int)).toNat = j + 1 := by omega
          have e2 : (((j + 1 : Nat) : Int) - 1).toNat = j := by omega
          have hsw : (f.setIfInBounds (j + 1) f[j]!).setIfInBounds j f[j + 1]! = Sort.swp f (j + 1) j := rfl
          have hk := k3.swp (j + 1) j
          have hks := zsw f (j + 1) j
          rw [Sort.insInner] at k5
          have hl : (decide (j + 1 > a) && ltM f[j + 1]! f[j]!) = decide (cmpM f[j + 1]! f[j]! < 0) := by rw [decide_eq_true hj, Bool.true_and]; rfl
          rw [hl] at k5
          generalize Sort.swp f (j + 1) j = F at *
          generalize f[j + 1]! = x at *
          generalize f[j]! = y at *
          generalize cmpM x y = z at *
          clear hl
          repeat (first | refine gN pk ?_)
          refine zrg ((List.range 17).map fun i => if inL [14] i = true then .eff else if inL [7, 8, 12, 13] i = true then .read else .pure) [] [0, 1, 2, 3, 4, 5, 6, 7, 8, 9, 10, 11, 12, 13, 14, 15, 16] .stop mixed rfl rfl (by decide +kernel) ?_
          by_cases hlt : z < 0
          · rw [if_pos (decide_eq_true hlt)] at k5
            repeat' (first | (with_reducible show AG _ _ _ _ _ _ _ _ _ _; first | exact zgn | refine zgs ?_ | refine znd ?_ ?_) | (show AMid _ _ _ _; first | refine zmf ?_ | refine zmg (by first | exact OSub.refl _ | exact .drop (OSub.refl _) | exact .drop (.drop (OSub.refl _))) ?_) | refine gY pk ?_ | (show AL _ _ _ _ _ _ _; first | refine zim tok 0 rfl rfl rfl rfl (by decide) rfl rfl rfl rfl rfl rfl (by omega) (by first | omega | (simp only [Array.size_setIfInBounds]; omega)) ?_ | refine zlm tok 0 rfl rfl rfl rfl (by decide) rfl (fun _ _ => rfl) rfl rfl g1 ?_ | refine zlm tok 0 rfl rfl rfl rfl (by decide) rfl (fun _ _ => rfl) rfl rfl g2 ?_ | refine jP hc ?_) | fail)
            repeat (first | refine gN pk ?_)
            refine zrg ((List.range 18).map fun i => if inL [15, 17] i = true then .eff else if inL [8, 9, 12, 13, 14, 16] i = true then .read else .pure) [] [0, 1, 2, 3, 4, 5, 6, 7, 8, 9, 10, 11, 12, 13, 14, 15, 16, 17] .stop mixed rfl rfl (by decide +kernel) ?_
            repeat' (first | (with_reducible show AG _ _ _ _ _ _ _ _ _ _; first | exact zgn | refine zgs ?_ | refine znd ?_ ?_) | (show AMid _ _ _ _; first | refine zmf ?_ | refine zmg (by first | exact OSub.refl _ | exact .drop (OSub.refl _) | exact .drop (.drop (OSub.refl _))) ?_) | refine gY pk ?_ | (show AL _ _ _ _ _ _ _; first | refine zim tok 0 rfl rfl rfl rfl (by decide) rfl rfl rfl rfl rfl rfl (by omega) (by first | omega | (simp only [Array.size_setIfInBounds]; omega)) ?_ | refine zlm tok 0 rfl rfl rfl rfl (by decide) rfl (fun _ _ => rfl) rfl rfl g1 ?_ | refine zlm tok 0 rfl rfl rfl rfl (by decide) rfl (fun _ _ => rfl) rfl rfl g2 ?_ | refine s_storeMo tok 0 rfl rfl rfl rfl rfl rfl rfl rfl (by first | omega | (simp only [Array.size_setIfInBounds]; omega)) ?_) | fail)
            rw [e1, e2, hsw]
            repeat (first | refine gA pk ?_)
            refine ⟨(j, F), ⟨by show j ≤ i; omega, by show a ≤ j; omega, hk, by show F.size = _; omega, k5⟩, by show j < j + 1; omega, ?_, OSub.refl _⟩
            rw [show (((j + 1 : Nat) : Int) - 1) = j by omega]
            exact subQ
          · rw [if_neg (by rw [decide_eq_false hlt]; decide)] at k5
            repeat' (first | (with_reducible show AG _ _ _ _ _ _ _ _ _ _; first | exact zgn | refine zgs ?_ | refine znd ?_ ?_) | (show AMid _ _ _ _; first | refine zmf ?_ | refine zmg (by first | exact OSub.refl _ | exact .drop (OSub.refl _) | exact .drop (.drop (OSub.refl _))) ?_) | refine gY pk ?_ | (show AL _ _ _ _ _ _ _; first | refine zim tok 0 rfl rfl rfl rfl (by decide) rfl rfl rfl rfl rfl rfl (by omega) (by first | omega | (simp only [Array.size_setIfInBounds]; omega)) ?_ | refine zlm tok 0 rfl rfl rfl rfl (by decide) rfl (fun _ _ => rfl) rfl rfl g1 ?_ | refine zlm tok 0 rfl rfl rfl rfl (by decide) rfl (fun _ _ => rfl) rfl rfl g2 ?_ | refine jP hc ?_) | fail)
            repeat (first | refine gA pk ?_)
            exact ⟨(i + 1, f), ⟨by show a + 1 ≤ i + 1; omega, k3, k4, by rw [← h4, k5]⟩, by show b - (i + 1) < b - i; omega, by exact subQ, OSub.refl _⟩
        · obtain rfl : j = a := by omega
          have e1 : Sort.insInner ltM j j f = f := by
            cases j with
            | zero => rfl
            | succ j => rw [Sort.insInner, if_neg (by simp)]
          rw [e1] at k5
          repeat (first | refine gN pk ?_)
          refine zrg ((List.range 17).map fun i => if inL [14] i = true then .eff else if inL [7, 8, 12, 13] i = true then .read else .pure) [] [0, 1, 2, 3, 4, 5, 6, 7, 8, 9, 10, 11, 12, 13, 14, 15, 16] .stop mixed rfl rfl (by decide +kernel) ?_
          repeat' (first | (with_reducible show AG _ _ _ _ _ _ _ _ _ _; first | exact zgn | refine zgs ?_ | refine znd ?_ ?_) | (show AMid _ _ _ _; first | refine zmf ?_ | refine zmg (by first | exact OSub.refl _ | exact .drop (OSub.refl _) | exact .drop (.drop (OSub.refl _))) ?_) | refine gY pk ?_ | fail)
          repeat (first | refine gA pk ?_)
          exact ⟨(i + 1, f), ⟨by show j + 1 ≤ i + 1; omega, k3, k4, by rw [← h4, k5]⟩, by show b - (i + 1) < b - i; omega, by exact subQ, OSub.refl _⟩
    · rw [Sort.insOuter, if_neg (by omega)] at h4
      rw [h4]
      repeat (first | refine gA pk ?_)
      exact fin (x := .tup []) (.inl rfl) rfl (Sub.refl _) ⟨rfl, rfl⟩ (OSub.refl _)
end Go.Proofs.YtimfponihbfimaaGreat
end
