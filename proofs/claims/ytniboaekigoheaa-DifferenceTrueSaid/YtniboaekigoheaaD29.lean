/-
  Few tests: the walk.
-/
import Derived.Test.YtniboaekigoheaaD28
namespace Go.Proofs.Ytniboaekigoheaa
open Go.Sj Go.Sj.Dif
set_option linter.unusedVariables false
set_option maxHeartbeats 4000000

abbrev C8 := Int × Int × Int × Int
def c8 (c : C8) : List AV := [A8 c.1, A8 c.2.1, A8 c.2.2.1, A8 c.2.2.2]
def Ok8 (c : C8) : Prop := In8 c.1 ∧ In8 c.2.1 ∧ In8 c.2.2.1 ∧ In8 c.2.2.2
def mkC (n : Int) (c : C8) : Tst := mkT n c.1 c.2.1 c.2.2.1 c.2.2.2
def fewL (n : Int) (l : List C8) : List Tst := l.map (mkC n)
theorem few_spec (n : Int) (hn : 0 ≤ n ∧ n ≤ 255) (l : List C8) (hl : ∀ c ∈ l, Ok8 c) (hlen : l.length ≤ 1000) : Pure Try.prog 16 [.lit (.int .u8 n), .im 4 (l.map c8)] (.tup [AI (n % 6), testsA (fewL (n % 6) l)]) := by
  have ll : (l.map c8).length = l.length := by simp
  have q1 := Int.emod_nonneg n (b := 6) (by decide)
  have q2 := Int.emod_lt_of_pos n (b := 6) (by decide)
  generalize hq : n % 6 = q at *
  refine a_enter Try.func16 (by kernel_rfl) rfl Try.ntmps16 rfl (by simp) ?_
  repeat (first
    | refine a_seq ?_
    | refine a_reg ?_
    | refine a_regP mixed (by decide +kernel) ?_
    | refine t_lit tok rfl rfl rfl rfl ?_
    | refine t_im tok rfl rfl rfl rfl ?_
    | refine t_ip tok rfl rfl rfl rfl ?_
    | refine t_pt tok rfl rfl rfl rfl ?_
    | refine t_agg tok rfl rfl rfl rfl ?_
    | refine t_tup tok rfl rfl rfl rfl ?_
    | refine t_fn tok rfl rfl rfl rfl ?_
    | refine AL.nil ?_
    | refine s_skip rfl rfl rfl ?_
    | refine s_cmpT rfl rfl rfl rfl rfl rfl rfl (by first | (simp only [cmpP]; omega) | exact rfl) ?_
    | refine s_cmpF rfl rfl rfl rfl rfl rfl rfl (by first | (simp only [cmpP]; omega) | exact rfl) ?_
    | refine s_arith rfl rfl rfl rfl rfl rfl rfl (by first | (exact IntWalk.i64_in _ (by omega)) | (exact IntWalk.u8_in _ (by omega))) ?_
    | refine s_conv tok rfl rfl rfl rfl rfl rfl rfl (IntWalk.i64_in _ (by omega)) ?_
    | refine s_rem rfl rfl rfl rfl rfl rfl (by omega) (by omega) ?_
    | refine a_condT rfl ?_
    | refine a_condF rfl ?_
    | refine a_skip ?_
    | refine a_exit ?_
    | refine a_ret ?_
    | refine a_block ?_)
  rw [hq, ll]
  refine a_loop2 (fun (k : Nat) (v : Value) => [(6, AI q), (7, .lit v), (13, .im 4 (l.map c8)), (14, AI l.length), (15, AI k)]) (fun k v => [(v, .row 26 5 ((fewL q (l.take k)).map cT))]) (fun k _ => k ≤ l.length) (fun k _ => l.length - k) 0 (.slice none 0 0) (Nat.zero_le _) ?_ (.free .nil) ?_
  · repeat (first | exact subs_nil | refine subs_cons (Sub.of_eq rfl) ?_ | refine subs_cons (Sub.nil _) ?_)
  · intro k v hk
    rcases Nat.lt_or_ge k l.length with h | h
    · have hx := List.getElem?_eq_getElem h
      have hok := hl _ (List.getElem_mem h)
      have hs : fewL q (l.take (k + 1)) = fewL q (l.take k) ++ [mkC q l[k]] := by
        rw [List.take_succ_eq_append_getElem h, fewL, List.map_append]; rfl
      have hlo : (fewL q (l.take k)).length ≤ 1000 := by simp [fewL]; omega
      generalize l[k] = c at hx hok hs
      obtain ⟨c0, c1, c2, c3⟩ := c
      obtain ⟨o0, o1, o2, o3⟩ := hok
      have xk : (l.map c8)[(k : Int).toNat]? = some [A8 c0, A8 c1, A8 c2, A8 c3] := map_get hx
      have hm := Made_spec q c0 c1 c2 c3 ⟨by omega, by omega⟩ o0 o1 o2 o3
      rw [show mkC q (c0, c1, c2, c3) = mkT q c0 c1 c2 c3 from rfl] at hs
      generalize mkT q c0 c1 c2 c3 = x at *
      generalize fewL q (l.take k) = out at *
      have lo : (out.map cT).length = out.length := by simp
      obtain ⟨t0, t1, t2, t3, t4⟩ := x
      rw [show cT ⟨t0, t1, t2, t3, t4⟩ = [AI t0, AI t1, AI t2, AI t3, AI t4] from rfl] at hm
      repeat (first
    | refine a_seq ?_
    | refine a_reg ?_
    | refine a_regP mixed (by decide +kernel) ?_
    | refine t_lit tok rfl rfl rfl rfl ?_
    | refine t_im tok rfl rfl rfl rfl ?_
    | refine t_ip tok rfl rfl rfl rfl ?_
    | refine t_pt tok rfl rfl rfl rfl ?_
    | refine t_agg tok rfl rfl rfl rfl ?_
    | refine t_tup tok rfl rfl rfl rfl ?_
    | refine t_fn tok rfl rfl rfl rfl ?_
    | refine AL.nil ?_
    | refine s_skip rfl rfl rfl ?_
    | refine s_cmpT rfl rfl rfl rfl rfl rfl rfl (by first | (simp only [cmpP]; omega) | exact rfl) ?_
    | refine s_cmpF rfl rfl rfl rfl rfl rfl rfl (by first | (simp only [cmpP]; omega) | exact rfl) ?_
    | refine s_arith rfl rfl rfl rfl rfl rfl rfl (by first | (exact IntWalk.i64_in _ (by omega)) | (exact IntWalk.u8_in _ (by omega))) ?_
    | refine s_alloc tok rfl rfl rfl rfl rfl (fun u => ?_)
    | refine s_store tok 0 rfl rfl rfl rfl rfl rfl rfl rfl (by decide) rfl rfl rfl (Nat.le_refl _) ?_
    | refine s_index tok rfl rfl rfl rfl rfl rfl rfl rfl rfl (by omega) xk ?_
    | refine s_ownLoad tok 0 rfl rfl rfl rfl (by decide) rfl rfl rfl rfl rfl rfl (List.cons_ne_nil _ _) ?_
    | refine s_callP rfl rfl rfl rfl rfl (hm) (SubL.of_eq rfl) ?_
    | refine a_condT rfl ?_
    | refine a_condF rfl ?_
    | refine a_skip ?_
    | refine a_exit ?_
    | refine a_ret ?_
    | refine a_block ?_)
      (first | refine s_build1 tok rfl rfl rfl rfl rfl rfl rfl rfl (fun u => ?_) | refine s_build1M tok rfl rfl rfl rfl rfl rfl rfl (fun u => ?_) | refine s_build1A tok rfl rfl rfl rfl rfl rfl rfl rfl (by decide) (fun u => ?_)); refine s_append1 tok 1 rfl rfl rfl rfl rfl rfl (by decide) rfl rfl rfl rfl (by omega) (by omega) (fun v' => ?_)
      repeat (first
    | refine a_seq ?_
    | refine a_reg ?_
    | refine a_regP mixed (by decide +kernel) ?_
    | refine t_lit tok rfl rfl rfl rfl ?_
    | refine t_im tok rfl rfl rfl rfl ?_
    | refine t_ip tok rfl rfl rfl rfl ?_
    | refine t_pt tok rfl rfl rfl rfl ?_
    | refine t_agg tok rfl rfl rfl rfl ?_
    | refine t_tup tok rfl rfl rfl rfl ?_
    | refine t_fn tok rfl rfl rfl rfl ?_
    | refine AL.nil ?_
    | refine s_skip rfl rfl rfl ?_
    | refine s_cmpT rfl rfl rfl rfl rfl rfl rfl (by first | (simp only [cmpP]; omega) | exact rfl) ?_
    | refine s_cmpF rfl rfl rfl rfl rfl rfl rfl (by first | (simp only [cmpP]; omega) | exact rfl) ?_
    | refine s_arith rfl rfl rfl rfl rfl rfl rfl (by first | (exact IntWalk.i64_in _ (by omega)) | (exact IntWalk.u8_in _ (by omega))) ?_
    | refine a_condT rfl ?_
    | refine a_condF rfl ?_
    | refine a_skip ?_
    | refine a_exit ?_
    | refine a_ret ?_
    | refine a_block ?_)
      refine ⟨k + 1, v', by omega, by omega, ?_, ?_⟩
      · repeat (first | exact subs_nil | refine subs_cons (Sub.of_eq rfl) ?_ | refine subs_cons (Sub.nil _) ?_)
      · rw [hs, List.map_append]
        first | exact .keep (.drop .nil) | exact .drop (.keep .nil) | exact OSub.refl _
    · obtain rfl : k = l.length := by omega
      rw [List.take_length]
      repeat (first
    | refine a_seq ?_
    | refine a_reg ?_
    | refine a_regP mixed (by decide +kernel) ?_
    | refine t_lit tok rfl rfl rfl rfl ?_
    | refine t_im tok rfl rfl rfl rfl ?_
    | refine t_ip tok rfl rfl rfl rfl ?_
    | refine t_pt tok rfl rfl rfl rfl ?_
    | refine t_agg tok rfl rfl rfl rfl ?_
    | refine t_tup tok rfl rfl rfl rfl ?_
    | refine t_fn tok rfl rfl rfl rfl ?_
    | refine AL.nil ?_
    | refine s_skip rfl rfl rfl ?_
    | refine s_cmpT rfl rfl rfl rfl rfl rfl rfl (by first | (simp only [cmpP]; omega) | exact rfl) ?_
    | refine s_cmpF rfl rfl rfl rfl rfl rfl rfl (by first | (simp only [cmpP]; omega) | exact rfl) ?_
    | refine s_arith rfl rfl rfl rfl rfl rfl rfl (by first | (exact IntWalk.i64_in _ (by omega)) | (exact IntWalk.u8_in _ (by omega))) ?_
    | refine a_condT rfl ?_
    | refine a_condF rfl ?_
    | refine a_skip ?_
    | refine a_exit ?_
    | refine a_ret ?_
    | refine a_block ?_)
      exact finF 0 (x := .tup [.lit _, .lit _]) (.inr rfl) rfl rfl (FZ.tup (m := [AI q, testsA (fewL q l)]) ⟨FZ.refl _, FZ.here, trivial⟩) ⟨rfl, rfl⟩
/-! Codes among the arguments. -/
theorem wf_i8 {a : Int} (h : (Lit.int .i8 a).wf = true) : In8 a := by
  simp only [Lit.wf, Bool.and_eq_true, decide_eq_true_eq] at h
  rw [show IntKind.i8.min = -128 by decide, show IntKind.i8.max = 127 by decide] at h
  exact h
theorem wf_n8 {a : Int} (h : (Lit.int .u8 a).wf = true) : 0 ≤ a ∧ a ≤ 255 := by
  simp only [Lit.wf, Bool.and_eq_true, decide_eq_true_eq] at h
  rw [show IntKind.u8.min = 0 by decide, show IntKind.u8.max = 255 by decide] at h
  exact h
def toC8 : List Int → C8
  | [a, b, c, d] => (a, b, c, d)
  | _ => (0, 0, 0, 0)
theorem toC8_c {l : List Int} (h : l.length = 4) : (l.map fun m => AV.lit (.int .i8 m)) = c8 (toC8 l) := by
  match l, h with
  | [a, b, c, d], _ => rfl
theorem toC8_ok {l : List Int} (h : l.length = 4 ∧ ∀ m ∈ l, (Lit.int .i8 m).wf = true) : Ok8 (toC8 l) := by
  obtain ⟨h1, h2⟩ := h
  match l, h1, h2 with
  | [a, b, c, d], _, h2 => exact ⟨wf_i8 (h2 a (by simp)), wf_i8 (h2 b (by simp)), wf_i8 (h2 c (by simp)), wf_i8 (h2 d (by simp))⟩
theorem codes_c {x : List (List Int)} {p : Prop} (h : (∀ a ∈ x, a.length = 4 ∧ ∀ m ∈ a, (Lit.int .i8 m).wf = true) ∧ p) : (x.map fun l => l.map fun m => AV.lit (.int .i8 m)) = (x.map toC8).map c8 := by
  rw [List.map_map]
  exact List.map_congr_left fun a ha => toC8_c (h.1 a ha).1
theorem codes_ok {x : List (List Int)} {p : Prop} (h : (∀ a ∈ x, a.length = 4 ∧ ∀ m ∈ a, (Lit.int .i8 m).wf = true) ∧ p) : ∀ c ∈ x.map toC8, Ok8 c := fun c hc => by
  obtain ⟨a, ha, rfl⟩ := List.mem_map.1 hc
  exact toC8_ok (h.1 a ha)
theorem codes_vr {σ : Hp} {v : Value} {x : List (List Int)} {p : Prop} (h : (∀ a ∈ x, a.length = 4 ∧ ∀ m ∈ a, (Lit.int .i8 m).wf = true) ∧ p) (hv : VR σ (.im 4 (x.map fun l => l.map fun m => AV.lit (.int .i8 m))) v) : VR σ (.im 4 ((x.map toC8).map c8)) v := by
  rw [← codes_c h]; exact hv
theorem code_vr {σ : Hp} {v : Value} {l : List Int} (h : l.length = 4 ∧ ∀ m ∈ l, (Lit.int .i8 m).wf = true) (hv : VR σ (.agg (l.map fun m => AV.lit (.int .i8 m))) v) : VR σ (.agg (c8 (toC8 l))) v := by
  rw [← toC8_c h.1]; exact hv
theorem i8s_ok {l : List Int} {p : Prop} (h : (∀ m ∈ l, (Lit.int .i8 m).wf = true) ∧ p) : ∀ m ∈ l, In8 m := fun m hm => wf_i8 (h.1 m hm)
end Go.Proofs.Ytniboaekigoheaa
