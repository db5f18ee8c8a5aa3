/-
  The law on parts of pairs: the walk.
-/
import Derived.Test.YtjkgjlaockihaaaP18
import Derived.Test.YtjkgjlaockihaaaSjT
namespace Go.Proofs.Ytjkgjlaockihaaa
open Go.Sj Go.Sj.Part
set_option linter.unusedVariables false
set_option maxHeartbeats 4000000

def c8 (q : Nat × Nat) : List AV := [.lit (.int .u8 (q.1 : Nat)), .lit (.int .u8 (q.2 : Nat))]
def m12 (q : Nat × Nat) : Nat × Nat := (q.1 % 12, q.2 % 12)
abbrev pairsN (L : List (Nat × Nat)) : List (List AV) := (L.map pI).map cP
theorem pairs_snoc (L : List (Nat × Nat)) (q : Nat × Nat) : pairsN (L ++ [q]) = pairsN L ++ [[AI q.1, AI q.2]] := by simp [pI, cP]
theorem Gen_lend (L L' : List (Nat × Nat)) (hL : InP 12 L') (hl : L'.length ≤ 1000) (v u : Value) (hz : FZ v 2 (pairsN L) (.lit u) (.im 2 (pairsN L'))) :
    ACalls Try.prog 11 [AI 12, .lit u] [(v, .row 27 2 (pairsN L))] (fun y M => y = .tup [ints (nI (genN 12 L')), AI 0] ∧ M = [(v, .row 27 2 (pairsN L))]) := by
  have := Generate_lend 12 (by decide) (L.map pI) (L'.map pI) (by simp; omega) v u hz
  rwa [show genR 12 (L'.map pI) = (nI (genN 12 L'), 0) from genR_pI (n := 12) hL (by decide)] at this

theorem PartitionParts_nat (l : List (Nat × Nat)) (at' : Nat) (hl : ∀ q ∈ l, q.1 < 256 ∧ q.2 < 256) (ha : at' < 256) : Pure Try.prog 3 [.im 2 (l.map c8), .lit (.int .u8 at')] (AB true) := by
  have ll : (l.map c8).length = l.length := by simp
  by_cases h30 : 30 < l.length
  · refine a_enter Try.func3 (by kernel_rfl) rfl Try.ntmps3 rfl (by simp) ?_
    repeat (first
    | refine a_seq ?_
    | refine a_reg ?_
    | refine a_regP mixed (by decide +kernel) ?_
    | refine t_lit tok rfl rfl rfl rfl ?_
    | refine t_im tok rfl rfl rfl rfl ?_
    | refine t_ip tok rfl rfl rfl rfl ?_
    | refine t_pt tok rfl rfl rfl rfl ?_
    | refine t_agg tok rfl rfl rfl rfl ?_
    | refine t_tup tok rfl rfl rfl rfl ?_
    | refine t_fn tok rfl rfl rfl rfl ?_
    | refine AL.nil ?_
    | refine s_skip rfl rfl rfl ?_
    | refine s_cmpT rfl rfl rfl rfl rfl rfl rfl (by first | (simp only [cmpP]; omega) | exact rfl) ?_
    | refine s_cmpF rfl rfl rfl rfl rfl rfl rfl (by first | (simp only [cmpP]; omega) | exact rfl) ?_
    | refine s_arith rfl rfl rfl rfl rfl rfl rfl (by first | (exact IntWalk.i64_in _ (by omega)) | (exact IntWalk.u8_in _ (by omega))) ?_
    | refine s_callP rfl rfl rfl rfl rfl (awake_spec) (SubL.of_eq rfl) ?_
    | refine a_condT rfl ?_
    | refine a_condF rfl ?_
    | refine a_skip ?_
    | refine a_exit ?_
    | refine a_ret ?_
    | refine a_block ?_)
    first | refine fin (x := .lit _) (.inr rfl) rfl (Sub.refl _) ?_ (OSub.refl _) | refine fin (x := .im _ _) (.inr rfl) rfl (Sub.refl _) ?_ (OSub.refl _) | refine fin (x := .tup [.lit _, .lit _]) (.inr rfl) rfl (Sub.refl _) ?_ (OSub.refl _) | refine fin (x := .tup [.im _ _, .lit _]) (.inr rfl) rfl (Sub.refl _) ?_ (OSub.refl _) | refine fin (x := .tup [.lit _, .lit _, .lit _]) (.inr rfl) rfl (Sub.refl _) ?_ (OSub.refl _) | refine fin (x := .agg _) (.inr rfl) rfl (Sub.refl _) ?_ (OSub.refl _)
    exact ⟨rfl, rfl⟩
  · have hin : InP 12 (l.map m12) := fun q hq => by
      rw [List.mem_map] at hq
      obtain ⟨z, _, rfl⟩ := hq
      simp only [m12]
      omega
    have lL : (l.map m12).length = l.length := by simp
    have hsucc : ∀ k q, l[k]? = some q → (l.map m12).take (k + 1) = (l.map m12).take k ++ [m12 q] := fun k q hk => by
      obtain ⟨h1, rfl⟩ := List.getElem?_eq_some_iff.1 hk
      rw [List.take_succ_eq_append_getElem (by rw [lL]; exact h1)]
      simp
    generalize l.map m12 = L at *
    have hin1 : ∀ k, InP 12 (L.take k) := fun k => inP_sub hin fun q hq => List.mem_of_mem_take hq
    have hin2 : ∀ k, InP 12 (L.drop k) := fun k => inP_sub hin fun q hq => List.mem_of_mem_drop hq
    have hin3 : InP 12 L.reverse := inP_sub hin fun q hq => by simpa using hq
    have lp : (pairsN L).length = L.length := by simp
    obtain ⟨k0, hk0⟩ : ∃ k0, k0 = at' % (L.length + 1) := ⟨_, rfl⟩
    have hk0l : k0 ≤ L.length := by
      have := Nat.mod_lt at' (show 0 < L.length + 1 by omega)
      omega
    have hkI : ((at' : Int) % ((L.length : Nat) + 1 : Int)) = (k0 : Int) := by rw [hk0, Int.natCast_emod, Int.natCast_add]; rfl
    have gp1 := gen_part (hin1 k0)
    have gp2 := gen_part (hin2 k0)
    have s1 := JoinP_spec gp1 gp2 (by rw [genN_length, genN_length]) (by rw [genN_length]; decide)
    rw [← gen_parts hin k0] at s1
    have gl := genN_length 12 L
    have lg : (rowI (nI (genN 12 L))).length = 12 := by rw [List.length_map, nI_length, gl]
    have s2 := EqualP_same (p := genN 12 L) rfl (by omega)
    have g1 := fun v => Gen_lend L L hin (by omega) v v FZ.here
    have g2 := fun v => Gen_lend L (L.take k0) (hin1 k0) (by rw [List.length_take]; omega) v (subV v 2 0 k0) (by
      have := FZ.part (v := v) (sz := 2) (es := pairsN L) (lo := 0) (hi := k0) (Nat.zero_le _) (by omega)
      rw [show ((pairsN L).take k0).drop 0 = pairsN (L.take k0) by rw [List.drop_zero]; simp only [pairsN, List.map_take]] at this
      exact this)
    have g3 := fun v => Gen_lend L (L.drop k0) (hin2 k0) (by rw [List.length_drop]; omega) v (subV v 2 k0 L.length) (by
      have := FZ.part (v := v) (sz := 2) (es := pairsN L) (lo := k0) (hi := L.length) hk0l (by omega)
      rw [show ((pairsN L).take L.length).drop k0 = pairsN (L.drop k0) by rw [List.take_of_length_le (by omega)]; simp only [pairsN, List.map_drop]] at this
      exact this)
    have g4 := fun v => Reverse_spec (L.map pI) (by simp; omega) v
    rw [show (L.map pI).reverse.map cP = pairsN L.reverse by rw [← List.map_reverse]] at g4
    have g5 := fun v => Gen_lend L.reverse L.reverse hin3 (by simp; omega) v v FZ.here
    rw [gen_reverse hin] at g5
    generalize genN 12 L = G at *
    generalize genN 12 (L.take k0) = G1 at *
    generalize genN 12 (L.drop k0) = G2 at *
    refine a_enter Try.func3 (by kernel_rfl) rfl Try.ntmps3 rfl (by simp) ?_
    repeat (first
    | refine a_seq ?_
    | refine a_reg ?_
    | refine a_regP mixed (by decide +kernel) ?_
    | refine t_lit tok rfl rfl rfl rfl ?_
    | refine t_im tok rfl rfl rfl rfl ?_
    | refine t_ip tok rfl rfl rfl rfl ?_
    | refine t_pt tok rfl rfl rfl rfl ?_
    | refine t_agg tok rfl rfl rfl rfl ?_
    | refine t_tup tok rfl rfl rfl rfl ?_
    | refine t_fn tok rfl rfl rfl rfl ?_
    | refine AL.nil ?_
    | refine s_skip rfl rfl rfl ?_
    | refine s_cmpT rfl rfl rfl rfl rfl rfl rfl (by first | (simp only [cmpP]; omega) | exact rfl) ?_
    | refine s_cmpF rfl rfl rfl rfl rfl rfl rfl (by first | (simp only [cmpP]; omega) | exact rfl) ?_
    | refine s_arith rfl rfl rfl rfl rfl rfl rfl (by first | (exact IntWalk.i64_in _ (by omega)) | (exact IntWalk.u8_in _ (by omega))) ?_
    | refine s_callP rfl rfl rfl rfl rfl (awake_spec) (SubL.of_eq rfl) ?_
    | refine a_condT rfl ?_
    | refine a_condF rfl ?_
    | refine a_skip ?_
    | refine a_exit ?_
    | refine a_ret ?_
    | refine a_block ?_)
    rw [ll]
    refine a_loop2 (fun (k : Nat) (v : Value) => [(1, .lit (.int .u8 at')), (5, .lit v), (27, .im 2 (l.map c8)), (28, AI l.length), (29, AI k)]) (fun k v => [(v, .row 27 2 (pairsN (L.take k)))]) (fun k _ => k ≤ l.length) (fun k _ => l.length - k) 0 (.slice none 0 0) (Nat.zero_le _) ?_ (.free .nil) ?_
    · repeat (first | exact subs_nil | refine subs_cons (Sub.of_eq rfl) ?_ | refine subs_cons (Sub.nil _) ?_)
    · intro k v hk
      have lk' : (pairsN (L.take k)).length ≤ k := by rw [List.length_map, List.length_map, List.length_take]; omega
      rcases Nat.lt_or_ge k l.length with h | h
      · have hx := List.getElem?_eq_getElem h
        have hb := hl _ (List.getElem_mem h)
        have hs := hsucc k _ hx
        generalize l[k] = q at hx hb hs
        obtain ⟨a, b⟩ := q
        simp only at hb
        have xk : (l.map c8)[(k : Int).toNat]? = some [.lit (.int .u8 (a : Nat)), .lit (.int .u8 (b : Nat))] := map_get hx
        repeat (first
    | refine a_seq ?_
    | refine a_reg ?_
    | refine a_regP mixed (by decide +kernel) ?_
    | refine t_lit tok rfl rfl rfl rfl ?_
    | refine t_im tok rfl rfl rfl rfl ?_
    | refine t_ip tok rfl rfl rfl rfl ?_
    | refine t_pt tok rfl rfl rfl rfl ?_
    | refine t_agg tok rfl rfl rfl rfl ?_
    | refine t_tup tok rfl rfl rfl rfl ?_
    | refine t_fn tok rfl rfl rfl rfl ?_
    | refine AL.nil ?_
    | refine s_skip rfl rfl rfl ?_
    | refine s_cmpT rfl rfl rfl rfl rfl rfl rfl (by first | (simp only [cmpP]; omega) | exact rfl) ?_
    | refine s_cmpF rfl rfl rfl rfl rfl rfl rfl (by first | (simp only [cmpP]; omega) | exact rfl) ?_
    | refine s_arith rfl rfl rfl rfl rfl rfl rfl (by first | (exact IntWalk.i64_in _ (by omega)) | (exact IntWalk.u8_in _ (by omega))) ?_
    | refine s_alloc tok rfl rfl rfl rfl rfl (fun u => ?_)
    | refine s_store tok 0 rfl rfl rfl rfl rfl rfl rfl rfl (by decide) rfl rfl rfl (Nat.le_refl _) ?_
    | refine s_index tok rfl rfl rfl rfl rfl rfl rfl rfl rfl (by omega) xk ?_
    | refine s_ownLoad tok 0 rfl rfl rfl rfl (by decide) rfl rfl rfl rfl rfl rfl (List.cons_ne_nil _ _) ?_
    | refine s_arrPt tok rfl rfl rfl rfl rfl rfl rfl rfl (by decide) (by decide) ?_
    | refine s_rem rfl rfl rfl rfl rfl rfl (by omega) (by omega) ?_
    | refine s_conv tok rfl rfl rfl rfl rfl rfl rfl (IntWalk.i64_in _ (by omega)) ?_
    | refine a_condT rfl ?_
    | refine a_condF rfl ?_
    | refine a_skip ?_
    | refine a_exit ?_
    | refine a_ret ?_
    | refine a_block ?_)
        (first | refine s_build1 tok rfl rfl rfl rfl rfl rfl rfl rfl (fun u => ?_) | refine s_build1M tok rfl rfl rfl rfl rfl rfl rfl (fun u => ?_) | refine s_build1A tok rfl rfl rfl rfl rfl rfl rfl rfl (by decide) (fun u => ?_)); refine s_append1 tok 1 rfl rfl rfl rfl rfl rfl (by decide) rfl rfl rfl rfl (by omega) (by omega) (fun v' => ?_)
        repeat (first
    | refine a_seq ?_
    | refine a_reg ?_
    | refine a_regP mixed (by decide +kernel) ?_
    | refine t_lit tok rfl rfl rfl rfl ?_
    | refine t_im tok rfl rfl rfl rfl ?_
    | refine t_ip tok rfl rfl rfl rfl ?_
    | refine t_pt tok rfl rfl rfl rfl ?_
    | refine t_agg tok rfl rfl rfl rfl ?_
    | refine t_tup tok rfl rfl rfl rfl ?_
    | refine t_fn tok rfl rfl rfl rfl ?_
    | refine AL.nil ?_
    | refine s_skip rfl rfl rfl ?_
    | refine s_cmpT rfl rfl rfl rfl rfl rfl rfl (by first | (simp only [cmpP]; omega) | exact rfl) ?_
    | refine s_cmpF rfl rfl rfl rfl rfl rfl rfl (by first | (simp only [cmpP]; omega) | exact rfl) ?_
    | refine s_arith rfl rfl rfl rfl rfl rfl rfl (by first | (exact IntWalk.i64_in _ (by omega)) | (exact IntWalk.u8_in _ (by omega))) ?_
    | refine a_condT rfl ?_
    | refine a_condF rfl ?_
    | refine a_skip ?_
    | refine a_exit ?_
    | refine a_ret ?_
    | refine a_block ?_)
        refine ⟨k + 1, v', by omega, by omega, ?_, ?_⟩
        · repeat (first | exact subs_nil | refine subs_cons (Sub.of_eq rfl) ?_ | refine subs_cons (Sub.nil _) ?_)
        · rw [hs, pairs_snoc, show (((m12 (a, b)).1 : Nat) : Int) = (a : Int) % 12 by simp [m12], show (((m12 (a, b)).2 : Nat) : Int) = (b : Int) % 12 by simp [m12]]
          exact .drop (OSub.refl _)
      · obtain rfl : k = l.length := by omega
        rw [List.take_of_length_le (by omega)]
        repeat (first
    | refine a_seq ?_
    | refine a_reg ?_
    | refine a_regP mixed (by decide +kernel) ?_
    | refine t_lit tok rfl rfl rfl rfl ?_
    | refine t_im tok rfl rfl rfl rfl ?_
    | refine t_ip tok rfl rfl rfl rfl ?_
    | refine t_pt tok rfl rfl rfl rfl ?_
    | refine t_agg tok rfl rfl rfl rfl ?_
    | refine t_tup tok rfl rfl rfl rfl ?_
    | refine t_fn tok rfl rfl rfl rfl ?_
    | refine AL.nil ?_
    | refine s_skip rfl rfl rfl ?_
    | refine s_cmpT rfl rfl rfl rfl rfl rfl rfl (by first | (simp only [cmpP]; omega) | exact rfl) ?_
    | refine s_cmpF rfl rfl rfl rfl rfl rfl rfl (by first | (simp only [cmpP]; omega) | exact rfl) ?_
    | refine s_arith rfl rfl rfl rfl rfl rfl rfl (by first | (exact IntWalk.i64_in _ (by omega)) | (exact IntWalk.u8_in _ (by omega))) ?_
    | refine s_ownLen tok 0 rfl rfl rfl rfl (by decide) rfl rfl rfl ?_
    | refine s_conv tok rfl rfl rfl rfl rfl rfl rfl (IntWalk.i64_in _ (by omega)) ?_
    | refine a_condT rfl ?_
    | refine a_condF rfl ?_
    | refine a_skip ?_
    | refine a_exit ?_
    | refine a_ret ?_
    | refine a_block ?_)
        rw [lp]
        repeat (first
    | refine a_seq ?_
    | refine a_reg ?_
    | refine a_regP mixed (by decide +kernel) ?_
    | refine t_lit tok rfl rfl rfl rfl ?_
    | refine t_im tok rfl rfl rfl rfl ?_
    | refine t_ip tok rfl rfl rfl rfl ?_
    | refine t_pt tok rfl rfl rfl rfl ?_
    | refine t_agg tok rfl rfl rfl rfl ?_
    | refine t_tup tok rfl rfl rfl rfl ?_
    | refine t_fn tok rfl rfl rfl rfl ?_
    | refine AL.nil ?_
    | refine s_skip rfl rfl rfl ?_
    | refine s_cmpT rfl rfl rfl rfl rfl rfl rfl (by first | (simp only [cmpP]; omega) | exact rfl) ?_
    | refine s_cmpF rfl rfl rfl rfl rfl rfl rfl (by first | (simp only [cmpP]; omega) | exact rfl) ?_
    | refine s_arith rfl rfl rfl rfl rfl rfl rfl (by first | (exact IntWalk.i64_in _ (by omega)) | (exact IntWalk.u8_in _ (by omega))) ?_
    | refine a_condT rfl ?_
    | refine a_condF rfl ?_
    | refine a_skip ?_
    | refine a_exit ?_
    | refine a_ret ?_
    | refine a_block ?_)
        refine s_rem rfl rfl rfl rfl rfl rfl (by omega) (by omega) ?_
        rw [hkI]
        repeat (first
    | refine a_seq ?_
    | refine a_reg ?_
    | refine a_regP mixed (by decide +kernel) ?_
    | refine t_lit tok rfl rfl rfl rfl ?_
    | refine t_im tok rfl rfl rfl rfl ?_
    | refine t_ip tok rfl rfl rfl rfl ?_
    | refine t_pt tok rfl rfl rfl rfl ?_
    | refine t_agg tok rfl rfl rfl rfl ?_
    | refine t_tup tok rfl rfl rfl rfl ?_
    | refine t_fn tok rfl rfl rfl rfl ?_
    | refine AL.nil ?_
    | refine s_skip rfl rfl rfl ?_
    | refine s_cmpT rfl rfl rfl rfl rfl rfl rfl (by first | (simp only [cmpP]; omega) | exact rfl) ?_
    | refine s_cmpF rfl rfl rfl rfl rfl rfl rfl (by first | (simp only [cmpP]; omega) | exact rfl) ?_
    | refine s_arith rfl rfl rfl rfl rfl rfl rfl (by first | (exact IntWalk.i64_in _ (by omega)) | (exact IntWalk.u8_in _ (by omega))) ?_
    | refine a_condT rfl ?_
    | refine a_condF rfl ?_
    | refine a_skip ?_
    | refine a_exit ?_
    | refine a_ret ?_
    | refine a_block ?_)
        refine s_callO 0 rfl rfl rfl rfl rfl rfl (g1 v) (SubL.of_eq rfl) ?_
        rintro _ _ ⟨rfl, rfl⟩
        repeat (first
    | refine a_seq ?_
    | refine a_reg ?_
    | refine a_regP mixed (by decide +kernel) ?_
    | refine t_lit tok rfl rfl rfl rfl ?_
    | refine t_im tok rfl rfl rfl rfl ?_
    | refine t_ip tok rfl rfl rfl rfl ?_
    | refine t_pt tok rfl rfl rfl rfl ?_
    | refine t_agg tok rfl rfl rfl rfl ?_
    | refine t_tup tok rfl rfl rfl rfl ?_
    | refine t_fn tok rfl rfl rfl rfl ?_
    | refine AL.nil ?_
    | refine s_skip rfl rfl rfl ?_
    | refine s_cmpT rfl rfl rfl rfl rfl rfl rfl (by first | (simp only [cmpP]; omega) | exact rfl) ?_
    | refine s_cmpF rfl rfl rfl rfl rfl rfl rfl (by first | (simp only [cmpP]; omega) | exact rfl) ?_
    | refine s_arith rfl rfl rfl rfl rfl rfl rfl (by first | (exact IntWalk.i64_in _ (by omega)) | (exact IntWalk.u8_in _ (by omega))) ?_
    | refine a_condT rfl ?_
    | refine a_condF rfl ?_
    | refine a_skip ?_
    | refine a_exit ?_
    | refine a_ret ?_
    | refine a_block ?_)
        refine s_ownPart tok 0 (a := 0) (b := k0) rfl rfl rfl rfl (by decide) rfl rfl rfl rfl rfl rfl (by exact ⟨_, rfl⟩) (by omega) (by omega) ?_
        refine s_callO 0 rfl rfl rfl rfl rfl rfl (g2 v) (SubL.of_eq rfl) ?_
        rintro _ _ ⟨rfl, rfl⟩
        repeat (first
    | refine a_seq ?_
    | refine a_reg ?_
    | refine a_regP mixed (by decide +kernel) ?_
    | refine t_lit tok rfl rfl rfl rfl ?_
    | refine t_im tok rfl rfl rfl rfl ?_
    | refine t_ip tok rfl rfl rfl rfl ?_
    | refine t_pt tok rfl rfl rfl rfl ?_
    | refine t_agg tok rfl rfl rfl rfl ?_
    | refine t_tup tok rfl rfl rfl rfl ?_
    | refine t_fn tok rfl rfl rfl rfl ?_
    | refine AL.nil ?_
    | refine s_skip rfl rfl rfl ?_
    | refine s_cmpT rfl rfl rfl rfl rfl rfl rfl (by first | (simp only [cmpP]; omega) | exact rfl) ?_
    | refine s_cmpF rfl rfl rfl rfl rfl rfl rfl (by first | (simp only [cmpP]; omega) | exact rfl) ?_
    | refine s_arith rfl rfl rfl rfl rfl rfl rfl (by first | (exact IntWalk.i64_in _ (by omega)) | (exact IntWalk.u8_in _ (by omega))) ?_
    | refine a_condT rfl ?_
    | refine a_condF rfl ?_
    | refine a_skip ?_
    | refine a_exit ?_
    | refine a_ret ?_
    | refine a_block ?_)
        refine s_ownPart tok 0 (a := k0) (b := L.length) rfl rfl rfl rfl (by decide) rfl rfl rfl rfl rfl (by exact ⟨_, rfl⟩) (by exact lp.symm) (by omega) (by omega) ?_
        refine s_callO 0 rfl rfl rfl rfl rfl rfl (g3 v) (SubL.of_eq rfl) ?_
        rintro _ _ ⟨rfl, rfl⟩
        repeat (first
    | refine a_seq ?_
    | refine a_reg ?_
    | refine a_regP mixed (by decide +kernel) ?_
    | refine t_lit tok rfl rfl rfl rfl ?_
    | refine t_im tok rfl rfl rfl rfl ?_
    | refine t_ip tok rfl rfl rfl rfl ?_
    | refine t_pt tok rfl rfl rfl rfl ?_
    | refine t_agg tok rfl rfl rfl rfl ?_
    | refine t_tup tok rfl rfl rfl rfl ?_
    | refine t_fn tok rfl rfl rfl rfl ?_
    | refine AL.nil ?_
    | refine s_skip rfl rfl rfl ?_
    | refine s_cmpT rfl rfl rfl rfl rfl rfl rfl (by first | (simp only [cmpP]; omega) | exact rfl) ?_
    | refine s_cmpF rfl rfl rfl rfl rfl rfl rfl (by first | (simp only [cmpP]; omega) | exact rfl) ?_
    | refine s_arith rfl rfl rfl rfl rfl rfl rfl (by first | (exact IntWalk.i64_in _ (by omega)) | (exact IntWalk.u8_in _ (by omega))) ?_
    | refine s_callP rfl rfl rfl rfl rfl (s1) (SubL.of_eq rfl) ?_
    | refine a_condT rfl ?_
    | refine a_condF rfl ?_
    | refine a_skip ?_
    | refine a_exit ?_
    | refine a_ret ?_
    | refine a_block ?_)
        refine s_callO 0 rfl rfl rfl rfl rfl rfl (g4 v) (SubL.of_eq rfl) ?_
        rintro _ _ ⟨rfl, rfl⟩
        repeat (first
    | refine a_seq ?_
    | refine a_reg ?_
    | refine a_regP mixed (by decide +kernel) ?_
    | refine t_lit tok rfl rfl rfl rfl ?_
    | refine t_im tok rfl rfl rfl rfl ?_
    | refine t_ip tok rfl rfl rfl rfl ?_
    | refine t_pt tok rfl rfl rfl rfl ?_
    | refine t_agg tok rfl rfl rfl rfl ?_
    | refine t_tup tok rfl rfl rfl rfl ?_
    | refine t_fn tok rfl rfl rfl rfl ?_
    | refine AL.nil ?_
    | refine s_skip rfl rfl rfl ?_
    | refine s_cmpT rfl rfl rfl rfl rfl rfl rfl (by first | (simp only [cmpP]; omega) | exact rfl) ?_
    | refine s_cmpF rfl rfl rfl rfl rfl rfl rfl (by first | (simp only [cmpP]; omega) | exact rfl) ?_
    | refine s_arith rfl rfl rfl rfl rfl rfl rfl (by first | (exact IntWalk.i64_in _ (by omega)) | (exact IntWalk.u8_in _ (by omega))) ?_
    | refine a_condT rfl ?_
    | refine a_condF rfl ?_
    | refine a_skip ?_
    | refine a_exit ?_
    | refine a_ret ?_
    | refine a_block ?_)
        refine s_callO 0 rfl rfl rfl rfl rfl rfl (g5 v) (SubL.of_eq rfl) ?_
        rintro _ _ ⟨rfl, rfl⟩
        repeat (first
    | refine a_seq ?_
    | refine a_reg ?_
    | refine a_regP mixed (by decide +kernel) ?_
    | refine t_lit tok rfl rfl rfl rfl ?_
    | refine t_im tok rfl rfl rfl rfl ?_
    | refine t_ip tok rfl rfl rfl rfl ?_
    | refine t_pt tok rfl rfl rfl rfl ?_
    | refine t_agg tok rfl rfl rfl rfl ?_
    | refine t_tup tok rfl rfl rfl rfl ?_
    | refine t_fn tok rfl rfl rfl rfl ?_
    | refine AL.nil ?_
    | refine s_skip rfl rfl rfl ?_
    | refine s_cmpT rfl rfl rfl rfl rfl rfl rfl (by first | (simp only [cmpP]; omega) | exact rfl) ?_
    | refine s_cmpF rfl rfl rfl rfl rfl rfl rfl (by first | (simp only [cmpP]; omega) | exact rfl) ?_
    | refine s_arith rfl rfl rfl rfl rfl rfl rfl (by first | (exact IntWalk.i64_in _ (by omega)) | (exact IntWalk.u8_in _ (by omega))) ?_
    | refine s_callP rfl rfl rfl rfl rfl (s2) (SubL.of_eq rfl) ?_
    | refine a_condT rfl ?_
    | refine a_condF rfl ?_
    | refine a_skip ?_
    | refine a_exit ?_
    | refine a_ret ?_
    | refine a_block ?_)
        first | refine fin (x := .lit _) (.inr rfl) rfl (Sub.refl _) ?_ (OSub.none _) | refine fin (x := .im _ _) (.inr rfl) rfl (Sub.refl _) ?_ (OSub.none _) | refine fin (x := .tup [.lit _, .lit _]) (.inr rfl) rfl (Sub.refl _) ?_ (OSub.none _) | refine fin (x := .tup [.im _ _, .lit _]) (.inr rfl) rfl (Sub.refl _) ?_ (OSub.none _) | refine fin (x := .tup [.lit _, .lit _, .lit _]) (.inr rfl) rfl (Sub.refl _) ?_ (OSub.none _) | refine fin (x := .agg _) (.inr rfl) rfl (Sub.refl _) ?_ (OSub.none _)
        exact ⟨rfl, rfl⟩

theorem wf_u8 {a : Int} (h : (Lit.int .u8 a).wf = true) : 0 ≤ a ∧ a < 256 := by
  simp only [Lit.wf, Bool.and_eq_true, decide_eq_true_eq] at h
  rw [show IntKind.u8.min = 0 by decide, show IntKind.u8.max = 255 by decide] at h
  omega
theorem PartitionParts_spec (x : List (List Int)) (hx : (∀ a ∈ x, a.length = 2 ∧ ∀ m ∈ a, (Lit.int .u8 m).wf = true) ∧ x.length ≤ maxLen) (y : Int) (hy : (Lit.int .u8 y).wf = true) :
    Pure Try.prog 3 [.im 2 (x.map fun l => l.map fun m => .lit (.int .u8 m)), .lit (.int .u8 y)] (AB true) := by
  have hy' := wf_u8 hy
  obtain ⟨z, rfl⟩ : ∃ z : Nat, y = z := ⟨y.toNat, by omega⟩
  have hb : ∀ a ∈ x, ∃ p : Nat × Nat, (a.map fun m => AV.lit (.int .u8 m)) = c8 p ∧ p.1 < 256 ∧ p.2 < 256 := fun a ha => by
    obtain ⟨h1, h2⟩ := hx.1 a ha
    match a, h1, h2 with
    | [m, k], _, h2 =>
      have e1 := wf_u8 (h2 m (by simp))
      have e2 := wf_u8 (h2 k (by simp))
      refine ⟨(m.toNat, k.toNat), ?_, by simp only; omega, by simp only; omega⟩
      simp only [List.map_cons, List.map_nil, c8]
      rw [show ((m.toNat : Nat) : Int) = m by omega, show ((k.toNat : Nat) : Int) = k by omega]
  have hl : ∃ l : List (Nat × Nat), (x.map fun l => l.map fun m => AV.lit (.int .u8 m)) = l.map c8 ∧ ∀ q ∈ l, q.1 < 256 ∧ q.2 < 256 := by
    clear hx
    induction x with
    | nil => exact ⟨[], rfl, by simp⟩
    | cons a x ih =>
      obtain ⟨l, e1, e2⟩ := ih fun b hb' => hb b (by simp [hb'])
      obtain ⟨p, e3, e4⟩ := hb a (by simp)
      refine ⟨p :: l, by rw [List.map_cons, List.map_cons, e1, e3], fun q hq => ?_⟩
      rcases List.mem_cons.1 hq with rfl | hq
      · exact e4
      · exact e2 q hq
  obtain ⟨l, e1, e2⟩ := hl
  rw [e1]
  exact PartitionParts_nat l z e2 (by omega)
end Go.Proofs.Ytjkgjlaockihaaa
