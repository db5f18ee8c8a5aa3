/-
  The search for the least code: the program's walks. Conditions: valid graphs of at most 8 nodes.
-/
import Derived.Test.YtoaenbfidlgjhaaSjQ8
import Derived.Test.YtoaenbfidlgjhaaW6
import Derived.Test.YtoaenbfidlgjhaaSjQD
namespace Go.Proofs.Ytoaenbfidlgjhaa
open Go.Sj Go.Sj.Typ Go.Sj.Sta Go.Sj.Can
set_option linter.unusedVariables false
set_option linter.unusedSimpArgs false
set_option maxHeartbeats 16000000

abbrev nilA : AV := .lit (.slice none 0 0)
def bA : Bst → List AV
  | none => [nilA, nilA]
  | some (o, c) => [ints o, ints c]
abbrev twA (g : Gr) : AV := .im 1 ((List.range g.nodes.length).map fun (a : Nat) => [.im 1 ((List.range g.nodes.length).map fun (b : Nat) => [AB (decide ((a : Int) ≠ b) && twB (nN g) (tT g) g.nodes.length a b)])])
abbrev sC (g : Gr) (s : Bst) : List AV := tabP g :: twA g :: bA s
theorem worse_spec (g : Gr) (s : Bst) (c : List Int) (hc : c.length ≤ 1000) (hs : ∀ o d, s = some (o, d) → d ≠ [] ∧ c.length ≤ d.length ∧ d.length ≤ 1000) : Pure Try.prog 84 [.ip (sC g s), ints c] (AB (worse s c)) := by
  have lc : (rowI c).length = c.length := by simp
  cases s with
  | none =>
    have e : sC g none = [tabP g, twA g, nilA, nilA] := rfl
    rw [e]
    refine a_enter Try.func84 (by kernel_rfl) rfl Try.ntmps84 rfl (by simp) ?_
    repeat (first | refine gA pk ?_ | (show AL _ _ _ _ _ _ _; first | refine s_nilNil tok rfl rfl rfl rfl rfl rfl ?_))
    refine finQ ?_
    exact ⟨rfl, rfl⟩
  | some x =>
    obtain ⟨o, d⟩ := x
    obtain ⟨h1, h2, h3⟩ := hs o d rfl
    have ld : (rowI d).length = d.length := by simp
    have e : sC g (some (o, d)) = [tabP g, twA g, ints o, ints d] := rfl
    rw [e]
    have s1 := Compare_spec c (d.take c.length) (by omega) (by rw [List.length_take]; omega)
    have e1 : ints c = .im 1 (((rowI c).take c.length).drop 0) := by rw [List.drop_zero, List.take_of_length_le (by omega)]
    have e2 : ints (d.take c.length) = .im 1 (((rowI d).take c.length).drop 0) := by rw [part_take]
    rw [e2] at s1
    have s2 : Pure Try.prog 19 [.im 1 (((rowI c).take c.length).drop 0), .im 1 (((rowI d).take c.length).drop 0)] (AI (cmpL c (d.take c.length))) := by rw [← e1]; exact s1
    show Pure _ _ _ (AB (decide (0 < cmpL c (d.take c.length))))
    generalize cmpL c (d.take c.length) = z at *
    refine a_enter Try.func84 (by kernel_rfl) rfl Try.ntmps84 rfl (by simp) ?_
    repeat (first | refine gN pk ?_ | (show AL _ _ _ _ _ _ _; first | refine s_eqNil tok rfl rfl rfl rfl rfl rfl (fun hh => absurd (List.map_eq_nil_iff.1 hh) h1) ?_ | refine s_min2 rfl rfl rfl rfl rfl rfl ?_))
    rw [lc, ld, show min (c.length : Int) (d.length : Int) = (c.length : Nat) by omega]
    refine a_regG ((List.range 12).map fun i => if inL [9] i = true then .eff else .pure) [] [0, 1, 2, 3, 4, 5, 6, 7, 8, 9, 10, 11] .stop mixed rfl rfl (by decide +kernel) ?_
    by_cases hz : 0 < z
    · rw [decide_eq_true hz]
      repeat' (first | (with_reducible show AG _ _ _ _ _ _ _ _ _ _; first | exact ag_none | refine ag_stop ?_ | refine ag_nd ?_ ?_) | (show AMid _ _ _ _; first | refine amid_f ?_ | refine amid_g (by first | exact OSub.refl _ | exact .drop (OSub.refl _) | exact .drop (.drop (OSub.refl _))) ?_) | refine gY pk ?_ | (show AL _ _ _ _ _ _ _; first | refine s_slice tok (a := 0) (b := c.length) rfl rfl rfl rfl rfl rfl rfl rfl (by first | exact rfl | exact ⟨_, rfl⟩) (by first | exact rfl | exact ⟨_, rfl⟩) (by omega) (by omega) ?_ | refine jP s2 ?_) | fail)
      repeat (first | refine gA pk ?_)
      refine finQ ?_
      exact ⟨rfl, rfl⟩
    · rw [decide_eq_false hz]
      repeat' (first | (with_reducible show AG _ _ _ _ _ _ _ _ _ _; first | exact ag_none | refine ag_stop ?_ | refine ag_nd ?_ ?_) | (show AMid _ _ _ _; first | refine amid_f ?_ | refine amid_g (by first | exact OSub.refl _ | exact .drop (OSub.refl _) | exact .drop (.drop (OSub.refl _))) ?_) | refine gY pk ?_ | (show AL _ _ _ _ _ _ _; first | refine s_slice tok (a := 0) (b := c.length) rfl rfl rfl rfl rfl rfl rfl rfl (by first | exact rfl | exact ⟨_, rfl⟩) (by first | exact rfl | exact ⟨_, rfl⟩) (by omega) (by omega) ?_ | refine jP s2 ?_) | fail)
      repeat (first | refine gA pk ?_)
      refine finQ ?_
      exact ⟨rfl, rfl⟩
theorem from1_spec (g : Gr) (s : Bst) (u v : Nat) (hu : u < g.nodes.length) (hv : v < g.nodes.length) (hn : g.nodes.length ≤ 8) : Pure Try.prog 85 [AI u, .ip [.ip (sC g s)], .ip [AI v]] (AB (decide ((u : Int) ≠ v) && twB (nN g) (tT g) g.nodes.length u v)) := by
  have hk : sC g s = tabP g :: twA g :: bA s := rfl
  have vk : ((List.range g.nodes.length).map fun (a : Nat) => [AV.im 1 ((List.range g.nodes.length).map fun (b : Nat) => [AB (decide ((a : Int) ≠ b) && twB (nN g) (tT g) g.nodes.length a b)])])[(u : Int).toNat]? = some [AV.im 1 ((List.range g.nodes.length).map fun (b : Nat) => [AB (decide ((u : Int) ≠ b) && twB (nN g) (tT g) g.nodes.length u b)])] := by rw [Int.toNat_natCast]; exact range_get hu
  have wk : ((List.range g.nodes.length).map fun (b : Nat) => [AB (decide ((u : Int) ≠ b) && twB (nN g) (tT g) g.nodes.length u b)])[(v : Int).toNat]? = some [AB (decide ((u : Int) ≠ v) && twB (nN g) (tT g) g.nodes.length u v)] := by rw [Int.toNat_natCast]; exact range_get hv
  have lv : ((List.range g.nodes.length).map fun (a : Nat) => [AV.im 1 ((List.range g.nodes.length).map fun (b : Nat) => [AB (decide ((a : Int) ≠ b) && twB (nN g) (tT g) g.nodes.length a b)])]).length = g.nodes.length := by simp
  have lw : ((List.range g.nodes.length).map fun (b : Nat) => [AB (decide ((u : Int) ≠ b) && twB (nN g) (tT g) g.nodes.length u b)]).length = g.nodes.length := by simp
  generalize (decide ((u : Int) ≠ v) && twB (nN g) (tT g) g.nodes.length u v) = r at *
  refine a_enter Try.func85 (by kernel_rfl) rfl Try.ntmps85 rfl (by simp) ?_
  repeat (first | refine gA pk ?_ | (show AL _ _ _ _ _ _ _; first | refine jX tok vk ?_ | refine jX tok wk ?_))
  refine finQ ?_
  exact ⟨rfl, rfl⟩
theorem fold_snoc {N : Int → Int} {T : Int → Int → List Int} {n m : Nat} {p : List Int} {s : Bst} {v : Nat} : ((List.range (v + 1)).filter (opn N T n p)).foldl (fun s (v : Nat) => srch N T n m (p ++ [(v : Int)]) s) s = (if opn N T n p v = true then srch N T n m (p ++ [(v : Int)]) (((List.range v).filter (opn N T n p)).foldl (fun s (v : Nat) => srch N T n m (p ++ [(v : Int)]) s) s) else ((List.range v).filter (opn N T n p)).foldl (fun s (v : Nat) => srch N T n m (p ++ [(v : Int)]) s) s) := by
  rw [List.range_succ, List.filter_append, List.foldl_append]
  by_cases h : opn N T n p v = true
  · simp [h]
  · simp [h]
theorem fold_good {N : Int → Int} {T : Int → Int → List Int} {n m : Nat} {p : List Int} {s : Bst} (hl : p.length + (m + 1) = n) (hp : Po n p) (hs : Go.Sj.Can.Good N T n s) : ∀ v, v ≤ n → Go.Sj.Can.Good N T n (((List.range v).filter (opn N T n p)).foldl (fun s (v : Nat) => srch N T n m (p ++ [(v : Int)]) s) s)
  | 0, _ => hs
  | v + 1, h => by
    have ih := fold_good hl hp hs v (by omega)
    rw [fold_snoc]
    split
    · rename_i ho
      exact (srch_cov m _ _ (by simp; omega) (hp.snoc (by omega) (opn_iff.1 ho).1) ih).1
    · exact ih
theorem from_spec (g : Gr) (hg : GV g) (hn : g.nodes.length ≤ 8) : ∀ (m : Nat) (p : List Int) (s : Bst), p.length + m = g.nodes.length → Po g.nodes.length p → Go.Sj.Can.Good (nN g) (tT g) g.nodes.length s → ∀ U : Value,
    ACalls Try.prog 70 [.pt U 0 0 0, ints p, ints (cd (nN g) (tT g) g.nodes.length p)] [(U, .box (sC g s))] (fun y M => y = .tup [] ∧ M = [(U, .box (sC g (srch (nN g) (tT g) g.nodes.length m p s)))]) := by
  have hel := hg.el
  have hK : cdK g ≤ 200 := by
    unfold cdK
    have := Nat.mul_le_mul hn hn
    omega
  have ln : (rowI g.nodes).length = g.nodes.length := by simp
  have hfr : ∀ {y : AV} {b : Bool}, (∀ x M, x = AB b ∧ M = ([] : Own) → Free x ∧ M = []) := fun {y b} x M h => by
    rw [h.1]
    exact ⟨.lit _, h.2⟩
  intro m
  induction m with
  | zero =>
    intro p s hl hp hs U
    have hcl := cd_full hg ⟨hp, by omega⟩
    have hsd : ∀ o d, s = some (o, d) → d ≠ [] ∧ (cd (nN g) (tT g) g.nodes.length p).length ≤ d.length ∧ d.length ≤ 1000 := fun o d h => by
      obtain ⟨h1, rfl⟩ := hs o d h
      have := cd_full hg h1
      exact ⟨by simp [cd], by omega, by omega⟩
    have hw := worse_spec g s (cd (nN g) (tT g) g.nodes.length p) (by omega) hsd
    have hw' := ACalls.lendA (L := [(U, .box (sC g s))]) (args' := [.pt U 0 0 0, ints (cd (nN g) (tT g) g.nodes.length p)]) hw ⟨FV.box (by simp), FV.refl _, trivial⟩ (hfr (y := .any))
    have lp : (rowI p).length = p.length := by simp
    have c1 := (CloneN_spec p (by omega)).pure
    have c2 := (CloneN_spec (cd (nN g) (tT g) g.nodes.length p) (by omega)).pure
    unfold srch
    generalize hc : cd (nN g) (tT g) g.nodes.length p = c at *
    generalize hwb : worse s c = wb at *
    cases wb with
    | true =>
      rw [if_pos rfl]
      refine a_enter Try.func70 (by kernel_rfl) rfl Try.ntmps70 rfl (by simp) ?_
      refine a_seq ?_
      refine a_reg ?_
      repeat (first | refine gZ pk ?_ | (show AL _ _ _ _ _ _ _; first | refine jB (fun u => ?_)))
      refine a_frzBox 0 3 rfl rfl ?_
      repeat (first | refine gA pk ?_ | (show AL _ _ _ _ _ _ _; first | refine s_callO 0 rfl rfl rfl rfl rfl rfl hw' (SubL.of_eq rfl) ?_; rintro _ _ ⟨⟨rfl, -⟩, rfl⟩))
      refine fin (x := .tup []) (.inr rfl) rfl (Sub.refl _) ⟨rfl, rfl⟩ (OSub.refl _)
    | false =>
      rw [if_neg (by decide)]
      cases s with
      | none =>
        show ACalls _ _ _ _ (fun y M => y = .tup [] ∧ M = [(U, .box [tabP g, twA g, ints p, ints c])])
        refine a_enter Try.func70 (by kernel_rfl) rfl Try.ntmps70 rfl (by simp) ?_
        refine a_seq ?_
        refine a_reg ?_
        repeat (first | refine gZ pk ?_ | (show AL _ _ _ _ _ _ _; first | refine jB (fun u => ?_)))
        refine a_frzBox 0 3 rfl rfl ?_
        repeat (first | refine gN pk ?_ | (show AL _ _ _ _ _ _ _; first | refine s_callO 0 rfl rfl rfl rfl rfl rfl hw' (SubL.of_eq rfl) ?_; rintro _ _ ⟨⟨rfl, -⟩, rfl⟩ | refine s_nilNil tok rfl rfl rfl rfl rfl rfl ?_ | refine jO tok 0 ?_))
        refine a_regG ((List.range 12).map fun i => if inL [3, 5, 8, 11] i = true then .eff else .pure) [] [0, 1, 2, 4, 3, 5, 6, 7, 8, 9, 10, 11] .stop mixed rfl rfl (by decide +kernel) ?_
        repeat' (first | (with_reducible show AG _ _ _ _ _ _ _ _ _ _; first | exact ag_none | refine ag_stop ?_ | refine ag_nd ?_ ?_) | (show AMid _ _ _ _; first | refine amid_f ?_ | refine amid_g (by first | exact OSub.refl _ | exact .drop (OSub.refl _) | exact .drop (.drop (OSub.refl _))) ?_) | refine gY pk ?_ | (show AL _ _ _ _ _ _ _; first | refine jP c1 ?_ | refine jP c2 ?_ | refine jS tok 0 ?_) | fail)
        repeat (first | refine gA pk ?_)
        refine fin (x := .tup []) (.inr rfl) rfl (Sub.refl _) ⟨rfl, rfl⟩ (OSub.refl _)
      | some x =>
        obtain ⟨o, d⟩ := x
        obtain ⟨hne, hdl, hd1⟩ := hsd o d rfl
        have scm := Compare_spec c d (by omega) (by omega)
        have hlf : leaf (some (o, d)) p c = if cmpL c d < 0 then some (p, c) else some (o, d) := rfl
        rw [hlf]
        generalize cmpL c d = zz at *
        by_cases hz : zz < 0
        · rw [if_pos hz]
          show ACalls _ _ _ _ (fun y M => y = .tup [] ∧ M = [(U, .box [tabP g, twA g, ints p, ints c])])
          refine a_enter Try.func70 (by kernel_rfl) rfl Try.ntmps70 rfl (by simp) ?_
          refine a_seq ?_
          refine a_reg ?_
          repeat (first | refine gZ pk ?_ | (show AL _ _ _ _ _ _ _; first | refine jB (fun u => ?_)))
          refine a_frzBox 0 3 rfl rfl ?_
          repeat (first | refine gN pk ?_ | (show AL _ _ _ _ _ _ _; first | refine s_callO 0 rfl rfl rfl rfl rfl rfl hw' (SubL.of_eq rfl) ?_; rintro _ _ ⟨⟨rfl, -⟩, rfl⟩ | refine s_eqNil tok rfl rfl rfl rfl rfl rfl (fun hh => absurd (List.map_eq_nil_iff.1 hh) hne) ?_ | refine jP scm ?_ | refine jO tok 0 ?_))
          refine a_regG ((List.range 12).map fun i => if inL [3, 5, 8, 11] i = true then .eff else .pure) [] [0, 1, 2, 4, 3, 5, 6, 7, 8, 9, 10, 11] .stop mixed rfl rfl (by decide +kernel) ?_
          repeat' (first | (with_reducible show AG _ _ _ _ _ _ _ _ _ _; first | exact ag_none | refine ag_stop ?_ | refine ag_nd ?_ ?_) | (show AMid _ _ _ _; first | refine amid_f ?_ | refine amid_g (by first | exact OSub.refl _ | exact .drop (OSub.refl _) | exact .drop (.drop (OSub.refl _))) ?_) | refine gY pk ?_ | (show AL _ _ _ _ _ _ _; first | refine jP c1 ?_ | refine jP c2 ?_ | refine jS tok 0 ?_) | fail)
          repeat (first | refine gA pk ?_)
          refine fin (x := .tup []) (.inr rfl) rfl (Sub.refl _) ⟨rfl, rfl⟩ (OSub.refl _)
        · rw [if_neg hz]
          refine a_enter Try.func70 (by kernel_rfl) rfl Try.ntmps70 rfl (by simp) ?_
          refine a_seq ?_
          refine a_reg ?_
          repeat (first | refine gZ pk ?_ | (show AL _ _ _ _ _ _ _; first | refine jB (fun u => ?_)))
          refine a_frzBox 0 3 rfl rfl ?_
          repeat (first | refine gA pk ?_ | (show AL _ _ _ _ _ _ _; first | refine s_callO 0 rfl rfl rfl rfl rfl rfl hw' (SubL.of_eq rfl) ?_; rintro _ _ ⟨⟨rfl, -⟩, rfl⟩ | refine s_eqNil tok rfl rfl rfl rfl rfl rfl (fun hh => absurd (List.map_eq_nil_iff.1 hh) hne) ?_ | refine jP scm ?_ | refine jO tok 0 ?_))
          refine fin (x := .tup []) (.inr rfl) rfl (Sub.refl _) ⟨rfl, rfl⟩ (OSub.refl _)
  | succ m ih =>
    intro p s hl hp hs U
    have hcl := cd_le g hp
    have hpl := hp.len
    have hsd : ∀ o d, s = some (o, d) → d ≠ [] ∧ (cd (nN g) (tT g) g.nodes.length p).length ≤ d.length ∧ d.length ≤ 1000 := fun o d h => by
      obtain ⟨h1, rfl⟩ := hs o d h
      have := cd_full hg h1
      exact ⟨by simp [cd], by omega, by omega⟩
    have hw := worse_spec g s (cd (nN g) (tT g) g.nodes.length p) (by omega) hsd
    have hw' := ACalls.lendA (L := [(U, .box (sC g s))]) (args' := [.pt U 0 0 0, ints (cd (nN g) (tT g) g.nodes.length p)]) hw ⟨FV.box (by simp), FV.refl _, trivial⟩ (hfr (y := .any))
    have lp : (rowI p).length = p.length := by simp
    have c2 := CloneN_spec (cd (nN g) (tT g) g.nodes.length p) (by omega)
    have c1 := CloneN_spec p (by omega)
    have hsn : ∀ v : Int, cd (nN g) (tT g) g.nodes.length (p ++ [v]) = cd (nN g) (tT g) g.nodes.length p ++ pc (nN g) (tT g) p v := fun v => cd_snoc _ _ _
    have hcl2 : ∀ v : Int, Po g.nodes.length (p ++ [v]) → (cd (nN g) (tT g) g.nodes.length (p ++ [v])).length ≤ 200 := fun v hv => by have := cd_le g hv; omega
    have spl := fun (v : Int) (hv : Po g.nodes.length (p ++ [v])) => place_spec g hg hn p v hv
    have hgd := fold_good (m := m) (p := p) (s := s) hl hp hs
    have hsq : srch (nN g) (tT g) g.nodes.length (m + 1) p s = if worse s (cd (nN g) (tT g) g.nodes.length p) = true then s else ((List.range g.nodes.length).filter (opn (nN g) (tT g) g.nodes.length p)).foldl (fun s (v : Nat) => srch (nN g) (tT g) g.nodes.length m (p ++ [(v : Int)]) s) s := rfl
    rw [hsq]
    generalize hc : cd (nN g) (tT g) g.nodes.length p = c at *
    generalize hwb : worse s c = wb at *
    cases wb with
    | true =>
      rw [if_pos rfl]
      refine a_enter Try.func70 (by kernel_rfl) rfl Try.ntmps70 rfl (by simp) ?_
      refine a_seq ?_
      refine a_reg ?_
      repeat (first | refine gZ pk ?_ | (show AL _ _ _ _ _ _ _; first | refine jB (fun u => ?_)))
      refine a_frzBox 0 3 rfl rfl ?_
      repeat (first | refine gA pk ?_ | (show AL _ _ _ _ _ _ _; first | refine s_callO 0 rfl rfl rfl rfl rfl rfl hw' (SubL.of_eq rfl) ?_; rintro _ _ ⟨⟨rfl, -⟩, rfl⟩))
      refine fin (x := .tup []) (.inr rfl) rfl (Sub.refl _) ⟨rfl, rfl⟩ (OSub.refl _)
    | false =>
      rw [if_neg (by decide)]
      have hfs := fun v => fold_snoc (N := nN g) (T := tT g) (n := g.nodes.length) (m := m) (p := p) (s := s) (v := v)
      have htr : ∀ v, (List.range (v + 1)).filter (opn (nN g) (tT g) g.nodes.length p) = (List.range v).filter (opn (nN g) (tT g) g.nodes.length p) ++ if opn (nN g) (tT g) g.nodes.length p v = true then [v] else [] := fun v => by
        rw [List.range_succ, List.filter_append]
        by_cases h : opn (nN g) (tT g) g.nodes.length p v = true <;> simp [h]
      have hF0 : ((List.range 0).filter (opn (nN g) (tT g) g.nodes.length p)).foldl (fun s (v : Nat) => srch (nN g) (tT g) g.nodes.length m (p ++ [(v : Int)]) s) s = s := rfl
      generalize hF : (fun v => ((List.range v).filter (opn (nN g) (tT g) g.nodes.length p)).foldl (fun s (v : Nat) => srch (nN g) (tT g) g.nodes.length m (p ++ [(v : Int)]) s) s) = F at *
      have hFv : ∀ v, ((List.range v).filter (opn (nN g) (tT g) g.nodes.length p)).foldl (fun s (v : Nat) => srch (nN g) (tT g) g.nodes.length m (p ++ [(v : Int)]) s) s = F v := fun v => by rw [← hF]
      simp only [hFv] at hfs hF0 hgd ⊢
      refine a_enter Try.func70 (by kernel_rfl) rfl Try.ntmps70 rfl (by simp) ?_
      refine a_seq ?_
      refine a_reg ?_
      repeat (first | refine gZ pk ?_ | (show AL _ _ _ _ _ _ _; first | refine jB (fun u => ?_)))
      refine a_frzBox 0 3 rfl rfl ?_
      repeat (first | refine gN pk ?_ | (show AL _ _ _ _ _ _ _; first | refine s_callO 0 rfl rfl rfl rfl rfl rfl hw' (SubL.of_eq rfl) ?_; rintro _ _ ⟨⟨rfl, -⟩, rfl⟩ | refine jO tok 0 ?_))
      rw [ln]
      refine a_loopG2 (fun (v : Nat) (w : Value) => [(1, ints p), (2, ints c), (3, .ip [.pt U 0 0 0]), (6, AI g.nodes.length), (7, .lit w), (50, AI g.nodes.length), (51, AI v)]) (fun v w => [(w, .row 3 1 (rowI (((List.range v).filter (opn (nN g) (tT g) g.nodes.length p)).map fun (i : Nat) => (i : Int)))), (U, .box (sC g (F v)))]) (fun v w => v ≤ g.nodes.length) (fun v _ => g.nodes.length - v) 0 (.slice none 0 0) (Nat.zero_le _) (.sub (by exact subQ) (by rw [hF0]; exact .free (OSub.refl _))) ?_
      intro v w hv
      rcases Nat.lt_or_ge v g.nodes.length with h | h
      · have scn := ContainsV_spec p (by omega) v
        by_cases hvp : (v : Int) ∈ p
        · rw [decide_eq_true hvp] at scn
          have hop : opn (nN g) (tT g) g.nodes.length p v = false := by
            cases hq : opn (nN g) (tT g) g.nodes.length p v with
            | false => rfl
            | true => exact absurd hvp (opn_iff.1 hq).1
          have h1 := hfs v
          have h2 := htr v
          rw [hop, if_neg (by decide)] at h1 h2
          rw [List.append_nil] at h2
          repeat (first | refine gN pk ?_)
          repeat (first | refine gZ pk ?_ | (show AL _ _ _ _ _ _ _; first | refine jL tok (fun u => ?_) | refine jS tok 0 ?_))
          refine a_frzBox 0 8 rfl rfl ?_
          repeat (first | refine gA pk ?_ | (show AL _ _ _ _ _ _ _; first | refine jP scn ?_))
          refine ⟨v + 1, w, by omega, by omega, .sub (by exact subQ) ?_⟩
          rw [h1, h2]
          exact OSub.refl _
        · rw [decide_eq_false hvp] at scn
          have hcf := ContainsFuncI_spec (((List.range v).filter (opn (nN g) (tT g) g.nodes.length p)).map fun (i : Nat) => (i : Int)) (by rw [List.length_map]; have := List.length_filter_le (opn (nN g) (tT g) g.nodes.length p) (List.range v); rw [List.length_range] at this; omega) 85 [.ip [.ip (sC g (F v))], .ip [AI v]] (fun a => twB (nN g) (tT g) g.nodes.length a v) (fun a ha => by
            obtain ⟨i, hi, rfl⟩ := List.mem_map.1 ha
            have hiv := List.mem_range.1 (List.mem_filter.1 hi).1
            have := from1_spec g (F v) i v (by omega) h hn
            rw [decide_eq_true (show (i : Int) ≠ v by omega), Bool.true_and] at this
            exact this)
          have hany : ((((List.range v).filter (opn (nN g) (tT g) g.nodes.length p)).map fun (i : Nat) => (i : Int)).any fun a => twB (nN g) (tT g) g.nodes.length a v) = !opn (nN g) (tT g) g.nodes.length p v := by
            rw [List.any_map]
            have := tried_any (N := nN g) (T := tT g) (n := g.nodes.length) (p := p) h
            unfold opn
            rw [decide_eq_false hvp, Bool.not_false, Bool.true_and, Bool.not_not]
            exact this
          rw [hany] at hcf
          have h1 := hfs v
          have h2 := htr v
          have hg1 := hgd v (by omega)
          have ltr : (rowI (((List.range v).filter (opn (nN g) (tT g) g.nodes.length p)).map fun (i : Nat) => (i : Int))).length ≤ v := by
            rw [List.length_map, List.length_map]
            have := List.length_filter_le (opn (nN g) (tT g) g.nodes.length p) (List.range v)
            rw [List.length_range] at this
            exact this
          cases hop : opn (nN g) (tT g) g.nodes.length p v with
          | false =>
            rw [hop, if_neg (by decide)] at h1 h2
            rw [List.append_nil] at h2
            rw [hop] at hcf
            rw [← h2] at hcf
            have hln := ACalls.lendA (L := [(w, .row 3 1 (rowI (((List.range (v + 1)).filter (opn (nN g) (tT g) g.nodes.length p)).map fun (i : Nat) => (i : Int)))), (U, .box (sC g (F v)))]) (args' := [.lit w, .fn (.func 85) [] [.ip [.pt U 0 0 0], .ip [AI v]]]) hcf ⟨FV.row (E := 3) (by simp), FV.fn (FVL.refl []) ⟨FV.ip ⟨FV.box (by simp), trivial⟩, FV.refl _, trivial⟩, trivial⟩ (hfr (y := .any))
            rw [← h2]
            generalize hTr : ((List.range (v + 1)).filter (opn (nN g) (tT g) g.nodes.length p)).map (fun (i : Nat) => (i : Int)) = Tr at *
            repeat (first | refine gN pk ?_)
            repeat (first | refine gZ pk ?_ | (show AL _ _ _ _ _ _ _; first | refine jL tok (fun u => ?_) | refine jS tok 0 ?_))
            refine a_frzBox 0 8 rfl rfl ?_
            repeat (first | refine gA pk ?_ | (show AL _ _ _ _ _ _ _; first | refine jP scn ?_ | refine s_call (Lc := [(w, .row 3 1 (rowI Tr)), (U, .box (sC g (F v)))]) (Lr := []) rfl rfl rfl rfl rfl hln (SubL.of_eq rfl) (List.Perm.refl _) ?_; rintro _ _ ⟨⟨rfl, -⟩, rfl⟩))
            refine ⟨v + 1, w, by omega, by omega, .sub (by exact subQ) ?_⟩
            show OSub [(w, .row 3 1 (rowI (((List.range (v + 1)).filter (opn (nN g) (tT g) g.nodes.length p)).map fun (i : Nat) => (i : Int)))), (U, .box (sC g (F (v + 1))))] _
            rw [h1, hTr]
            exact OSub.refl _
          | true =>
            rw [hop, if_pos rfl] at h1 h2
            rw [hop] at hcf
            have hln := ACalls.lendA (L := [(w, .row 3 1 (rowI (((List.range v).filter (opn (nN g) (tT g) g.nodes.length p)).map fun (i : Nat) => (i : Int)))), (U, .box (sC g (F v)))]) (args' := [.lit w, .fn (.func 85) [] [.ip [.pt U 0 0 0], .ip [AI v]]]) hcf ⟨FV.row (E := 3) (by simp), FV.fn (FVL.refl []) ⟨FV.ip ⟨FV.box (by simp), trivial⟩, FV.refl _, trivial⟩, trivial⟩ (hfr (y := .any))
            have hpv := hp.snoc (v := (v : Int)) (by omega) hvp
            have spv := spl v hpv
            have hlc := hcl2 v hpv
            have ihv := ih (p ++ [(v : Int)]) (F v) (by simp; omega) hpv hg1 U
            rw [hsn v] at ihv hlc
            rw [List.length_append] at hlc
            have hTr' : rowI (((List.range (v + 1)).filter (opn (nN g) (tT g) g.nodes.length p)).map fun (i : Nat) => (i : Int)) = rowI (((List.range v).filter (opn (nN g) (tT g) g.nodes.length p)).map fun (i : Nat) => (i : Int)) ++ [[AI v]] := by
              rw [h2]
              simp [cI]
            generalize hTr : ((List.range v).filter (opn (nN g) (tT g) g.nodes.length p)).map (fun (i : Nat) => (i : Int)) = Tr at *
            generalize hA : pc (nN g) (tT g) p v = A at *
            repeat (first | refine gN pk ?_)
            repeat (first | refine gZ pk ?_ | (show AL _ _ _ _ _ _ _; first | refine jL tok (fun u => ?_) | refine jS tok 0 ?_))
            refine a_frzBox 0 8 rfl rfl ?_
            repeat (first | refine gN pk ?_ | (show AL _ _ _ _ _ _ _; first | refine jP scn ?_ | refine s_call (Lc := [(w, .row 3 1 (rowI Tr)), (U, .box (sC g (F v)))]) (Lr := []) rfl rfl rfl rfl rfl hln (SubL.of_eq rfl) (List.Perm.refl _) ?_; rintro _ _ ⟨⟨rfl, -⟩, rfl⟩))
            (first | refine s_build1 tok rfl rfl rfl rfl rfl rfl rfl rfl (fun u => ?_) | refine s_build1M tok rfl rfl rfl rfl rfl rfl rfl (fun u => ?_) | refine s_build1A tok rfl rfl rfl rfl rfl rfl rfl rfl (by decide) (fun u => ?_)); refine s_append1 tok 0 rfl rfl rfl rfl rfl rfl (by decide) rfl rfl rfl rfl (by omega) (by omega) (fun w2 => ?_)
            repeat (first | refine gN pk ?_)
            have ihg : ∀ c2v : Value, ACalls Try.prog 70 [.pt U 0 0 0, ints (p ++ [(v : Int)]), .lit c2v] [(c2v, .row 3 1 (rowI c ++ rowI A)), (U, .box (sC g (F v)))] (fun y M => y = .tup [] ∧ M = [(U, .box (sC g (srch (nN g) (tT g) g.nodes.length m (p ++ [(v : Int)]) (F v))))]) := fun c2v => by
              have ihv' : ACalls Try.prog 70 [.pt U 0 0 0, ints (p ++ [(v : Int)]), .im 1 (rowI c ++ rowI A)] [(U, .box (sC g (F v)))] (fun y M => y = .tup [] ∧ M = [(U, .box (sC g (srch (nN g) (tT g) g.nodes.length m (p ++ [(v : Int)]) (F v))))]) := by
                rw [← rowI_app]
                exact ihv
              exact ACalls.give (E := 3) ihv' ⟨rfl, FZL.refl _, trivial⟩ ⟨FZ.refl _, FZ.refl _, FZ.here, trivial⟩
            have epv : rowI p ++ [[AI v]] = rowI (p ++ [(v : Int)]) := (rowI_snoc p v).symm
            refine a_goto (GoTo.sub (st' := lk [(1, ints p), (2, ints c), (3, .ip [.pt U 0 0 0]), (6, AI g.nodes.length), (7, .lit w2), (8, .ip [AI v]), (50, AI g.nodes.length), (51, AI v)]) (L' := [(w2, .row 3 1 (rowI Tr ++ [[AI v]])), (U, .box (sC g (F v)))]) (by exact subQ) (OSub.refl _)) ?_
            refine a_regG ((List.range 6).map fun i => if inL [1, 3, 4] i = true then .eff else .pure) [] [0, 2] (.nd 1 [3, 4, 5] .stop (.nd 3 [1, 4, 5] .stop .stop)) mixed rfl rfl (by decide +kernel) ?_
            repeat' (first | (with_reducible show AG _ _ _ _ _ _ _ _ _ _; first | exact ag_none | refine ag_stop ?_ | refine ag_nd ?_ ?_) | (show AMid _ _ _ _; first | refine amid_f ?_ | refine amid_g (by first | exact OSub.refl _ | exact .drop (OSub.refl _) | exact .drop (.drop (OSub.refl _))) ?_) | refine gY pk ?_ | (show AL _ _ _ _ _ _ _; first | refine s_callG rfl rfl rfl rfl rfl c1 (SubL.of_eq rfl) (fun cv => ?_) | refine s_build1 tok rfl rfl rfl rfl rfl rfl rfl rfl (fun lv => ?_) | refine s_appendOwnF tok 1 0 rfl rfl rfl rfl rfl rfl (by decide) rfl rfl rfl rfl rfl rfl (by simp; omega) (by simp; omega) ?_ | refine s_appendOwnF tok 0 1 rfl rfl rfl rfl rfl rfl (by decide) rfl rfl rfl rfl rfl rfl (by simp; omega) (by simp; omega) ?_) | fail)
            all_goals
              rw [epv]
              refine a_goto (GoTo.sub (st' := lk [(1, ints p), (2, ints c), (3, .ip [.pt U 0 0 0]), (6, AI g.nodes.length), (7, .lit w2), (9, ints (p ++ [(v : Int)])), (50, AI g.nodes.length), (51, AI v)]) (L' := [(w2, .row 3 1 (rowI Tr ++ [[AI v]])), (U, .box (sC g (F v)))]) (by exact subQ) (.drop (OSub.refl _))) ?_
              repeat (first | refine gN pk ?_)
              refine a_regG ((List.range 12).map fun i => if inL [3, 9, 10, 11] i = true then .eff else if inL [7] i = true then .read else .pure) [3] [0, 1, 2, 4, 5, 6, 7, 8] (.nd 3 [9, 10, 11] .stop .stop) mixed rfl rfl (by decide +kernel) ?_
              repeat' (first | (with_reducible show AG _ _ _ _ _ _ _ _ _ _; first | exact ag_none | refine ag_stop ?_ | refine ag_nd ?_ ?_) | (show AMid _ _ _ _; first | refine amid_f ?_ | refine amid_g (by first | exact OSub.refl _ | exact .drop (OSub.refl _) | exact .drop (.drop (OSub.refl _))) ?_) | refine gY pk ?_ | (show AL _ _ _ _ _ _ _; first | refine jO tok 1 ?_ | refine s_callG rfl rfl rfl rfl rfl c2 (SubL.of_eq rfl) (fun cv => ?_) | refine jP spv ?_ | refine s_appendIm tok 0 rfl rfl rfl rfl rfl rfl (by decide) rfl rfl rfl rfl (rowI_cell _) (by simp only [List.length_append, List.length_map, List.length_cons]; omega) (by simp only [List.length_append, List.length_map, List.length_cons]; omega) (fun c2v => ?_)) | fail)
              refine s_call (Lc := [(c2v, .row 3 1 (rowI c ++ rowI A)), (U, .box (sC g (F v)))]) (Lr := [(w2, .row 3 1 (rowI Tr ++ [[AI v]]))]) rfl rfl rfl rfl rfl (ihg c2v) (SubL.of_eq rfl) (perm3 _ _ _).2.1 ?_
              rintro _ _ ⟨rfl, rfl⟩
              repeat (first | refine gA pk ?_)
              refine ⟨v + 1, w2, by omega, by omega, GoTo.trans (GoTo.perm (.swap _ _ _)) (.sub (by exact subQ) ?_)⟩
              show OSub [(w2, .row 3 1 (rowI (((List.range (v + 1)).filter (opn (nN g) (tT g) g.nodes.length p)).map fun (i : Nat) => (i : Int)))), (U, .box (sC g (F (v + 1))))] _
              rw [h1, hTr']
              exact OSub.refl _
      · obtain rfl : v = g.nodes.length := by omega
        repeat (first | refine gA pk ?_)
        refine fin (x := .tup []) (.inl rfl) rfl (Sub.refl _) ⟨rfl, rfl⟩ (.drop (OSub.refl _))
end Go.Proofs.Ytoaenbfidlgjhaa
