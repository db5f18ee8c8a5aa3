/- Parts of a proof. -/
import Derived.Laws.Bits64
import Derived.Laws.Bits64b
import Derived.Test.YtddohheabpiljaaGreatU31
set_option linter.unusedVariables false
set_option linter.unusedSimpArgs false
section
namespace Go.Proofs.YtddohheabpiljaaGreat
open Go.Sj Go.Sj.Typ Go.Sj.Sta Go.Sj.Inc
set_option maxRecDepth 8000
set_option maxHeartbeats 16000000
def openB (n : Nat) (k : Int) : Bool := decide (k < -1) || decide ((n : Int) ≤ k)
theorem sopen1_spec (n : Nat) (k : Int) : Pure Tryz.prog 131 [AI k, .ip [AI n]] (AB (openB n k)) := by
  unfold openB
  by_cases h1 : k < -1
  · rw [decide_eq_true h1, Bool.true_or]
    refine zen Tryz.func131 (by kernel_rfl) rfl Tryz.ntmps131 rfl (by simp) ?_
    repeat (first | refine gA pk ?_)
    refine finQ ?_
    exact ⟨rfl, rfl⟩
  · rw [decide_eq_false h1, Bool.false_or]
    by_cases h2 : (n : Int) ≤ k
    all_goals
      first | rw [decide_eq_true h2] | rw [decide_eq_false h2]
      refine zen Tryz.func131 (by kernel_rfl) rfl Tryz.ntmps131 rfl (by simp) ?_
      repeat (first | refine gA pk ?_)
      refine finQ ?_
      exact ⟨rfl, rfl⟩
def openE (l : List Int) (n : Nat) : Int := if l.any (openB n) = true then 6 else 0
theorem sopen_spec (l : List Int) (hl : l.length ≤ 1000) (n : Nat) : Pure Tryz.prog 112 [ints l, AI n] (AI (openE l n)) := by
  have s1 := ContainsFuncI_spec l (by omega) 131 [.ip [AI n]] (openB n) (fun x _ => sopen1_spec n x)
  unfold openE
  generalize l.any (openB n) = b at *
  cases b
  · rw [if_neg (by decide)]
    refine zen Tryz.func112 (by kernel_rfl) rfl Tryz.ntmps112 rfl (by simp) ?_; refine a_seq ?_; refine a_reg ?_; (repeat (first | refine gZ pk ?_ | (show AL _ _ _ _ _ _ _; first | refine jB (fun u => ?_)))); refine zfb 0 3 rfl rfl ?_
    repeat (first | refine gA pk ?_ | (show AL _ _ _ _ _ _ _; first | refine jP s1 ?_))
    refine finQ ?_
    exact ⟨rfl, rfl⟩
  · rw [if_pos rfl]
    refine zen Tryz.func112 (by kernel_rfl) rfl Tryz.ntmps112 rfl (by simp) ?_; refine a_seq ?_; refine a_reg ?_; (repeat (first | refine gZ pk ?_ | (show AL _ _ _ _ _ _ _; first | refine jB (fun u => ?_)))); refine zfb 0 3 rfl rfl ?_
    repeat (first | refine gA pk ?_ | (show AL _ _ _ _ _ _ _; first | refine jP s1 ?_))
    refine finQ ?_
    exact ⟨rfl, rfl⟩
def seaP (t : Tys) (p g : Gr) (a b : List Int) (inj : Bool) : Sea := ⟨p, g, okT t, some a, some b, inj⟩
def extR (t : Tys) (p g : Gr) (a b : List Int) (inj : Bool) : List Mo × Int :=
  if validS t p g ≠ 0 then ([], validS t p g)
  else if a.length ≠ p.nodes.length ∨ b.length ≠ p.edges.length then ([], 20)
  else if openE a g.nodes.length ≠ 0 then ([], openE a g.nodes.length)
  else if openE b g.edges.length ≠ 0 then ([], openE b g.edges.length)
  else capR (matL (seaP t p g a b inj))
theorem sextend_spec (t : Tys) (ht : Small t) (p g : Gr) (hp : OkG p) (hg : OkG g) (a b : List Int) (ha : a.length ≤ 1000) (hb : b.length ≤ 1000) (inj : Bool) :
    Pure Tryz.prog 97 [tysA t, grA p, grA g, .agg [ints a, ints b], AB inj] (.tup [mosA (extR t p g a b inj).1, AI (extR t p g a b inj).2]) := by
  have s1 := svalid_spec t ht p g hp hg
  have lpn : (rowI p.nodes).length = p.nodes.length := by simp
  have lpe : (p.edges.map cEd).length = p.edges.length := by simp
  have lgn : (rowI g.nodes).length = g.nodes.length := by simp
  have lge : (g.edges.map cEd).length = g.edges.length := by simp
  have la : (rowI a).length = a.length := by simp
  have lb : (rowI b).length = b.length := by simp
  unfold extR
  by_cases h : validS t p g = 0
  · rw [if_neg (Decidable.not_not.2 h)]
    have hz := zvz h
    rw [h] at s1
    by_cases hab : a.length ≠ p.nodes.length ∨ b.length ≠ p.edges.length
    · rw [if_pos hab]
      by_cases h1 : a.length = p.nodes.length
      all_goals
        refine zen Tryz.func97 (by kernel_rfl) rfl Tryz.ntmps97 rfl (by simp) ?_
        refine a_seq ?_
        refine a_reg ?_
        repeat (first | refine gZ pk ?_ | (show AL _ _ _ _ _ _ _; first | refine jB (fun u => ?_)))
        refine zfb 3 5 rfl rfl ?_
        refine zfb 2 6 rfl rfl ?_
        refine zfb 1 7 rfl rfl ?_
        refine zfb 0 8 rfl rfl ?_
        repeat (first | refine gA pk ?_ | (show AL _ _ _ _ _ _ _; first | refine jP s1 ?_))
        refine fin (x := .tup [nilS, AI 20]) (.inr rfl) rfl (Sub.tup (m := [mosA [], AI 20]) ⟨Sub.nil 2, Sub.refl _, trivial⟩) ?_ (OSub.none _)
        exact ⟨rfl, rfl⟩
    · rw [if_neg hab]
      have s2 := sopen_spec a ha g.nodes.length
      have s3 := sopen_spec b hb g.edges.length
      have s4 := sall_spec t ht hz.1 (seaP t p g a b inj) ⟨⟨hz.2.1, hz.2.2.1, fun l hl => (by cases hl; show a.length = p.nodes.length; omega), fun l hl => (by cases hl; show b.length = p.edges.length; omega)⟩, rfl, typT_of hz.2.1 hz.2.2.2.1, typT_of hz.2.2.1 hz.2.2.2.2⟩
      change Pure _ _ [tysA t, grA p, grA g, .agg [ints a, ints b], AB inj] _ at s4
      generalize capR (matL (seaP t p g a b inj)) = r at *
      obtain ⟨r1, r2⟩ := r
      replace s2 : Pure Tryz.prog 112 [ints a, AI (rowI g.nodes).length] (AI (openE a g.nodes.length)) := by rw [lgn]; exact s2
      replace s3 : Pure Tryz.prog 112 [ints b, AI (g.edges.map cEd).length] (AI (openE b g.edges.length)) := by rw [lge]; exact s3
      by_cases h2 : openE a g.nodes.length = 0
      · rw [if_neg (Decidable.not_not.2 h2)]
        rw [h2] at s2
        by_cases h3 : openE b g.edges.length = 0
        · rw [if_neg (Decidable.not_not.2 h3)]
          rw [h3] at s3
          refine zen Tryz.func97 (by kernel_rfl) rfl Tryz.ntmps97 rfl (by simp) ?_
          refine a_seq ?_
          refine a_reg ?_
          repeat (first | refine gZ pk ?_ | (show AL _ _ _ _ _ _ _; first | refine jB (fun u => ?_)))
          refine zfb 3 5 rfl rfl ?_
          refine zfb 2 6 rfl rfl ?_
          refine zfb 1 7 rfl rfl ?_
          refine zfb 0 8 rfl rfl ?_
          repeat (first | refine gA pk ?_ | (show AL _ _ _ _ _ _ _; first | refine jP s1 ?_ | refine jP s2 ?_ | refine jP s3 ?_ | refine jP s4 ?_))
          refine finQ ?_
          exact ⟨rfl, rfl⟩
        · rw [if_pos h3]
          generalize openE b g.edges.length = e at *
          refine zen Tryz.func97 (by kernel_rfl) rfl Tryz.ntmps97 rfl (by simp) ?_
          refine a_seq ?_
          refine a_reg ?_
          repeat (first | refine gZ pk ?_ | (show AL _ _ _ _ _ _ _; first | refine jB (fun u => ?_)))
          refine zfb 3 5 rfl rfl ?_
          refine zfb 2 6 rfl rfl ?_
          refine zfb 1 7 rfl rfl ?_
          refine zfb 0 8 rfl rfl ?_
          repeat (first | refine gA pk ?_ | (show AL _ _ _ _ _ _ _; first | refine jP s1 ?_ | refine jP s2 ?_ | refine jP s3 ?_))
          refine fin (x := .tup [nilS, AI e]) (.inr rfl) rfl (Sub.tup (m := [mosA [], AI e]) ⟨Sub.nil 2, Sub.refl _, trivial⟩) ?_ (OSub.none _)
          exact ⟨rfl, rfl⟩
      · rw [if_pos h2]
        generalize openE a g.nodes.length = e at *
        refine zen Tryz.func97 (by kernel_rfl) rfl Tryz.ntmps97 rfl (by simp) ?_
        refine a_seq ?_
        refine a_reg ?_
        repeat (first | refine gZ pk ?_ | (show AL _ _ _ _ _ _ _; first | refine jB (fun u => ?_)))
        refine zfb 3 5 rfl rfl ?_
        refine zfb 2 6 rfl rfl ?_
        refine zfb 1 7 rfl rfl ?_
        refine zfb 0 8 rfl rfl ?_
        repeat (first | refine gA pk ?_ | (show AL _ _ _ _ _ _ _; first | refine jP s1 ?_ | refine jP s2 ?_))
        refine fin (x := .tup [nilS, AI e]) (.inr rfl) rfl (Sub.tup (m := [mosA [], AI e]) ⟨Sub.nil 2, Sub.refl _, trivial⟩) ?_ (OSub.none _)
        exact ⟨rfl, rfl⟩
  · rw [if_pos h]
    generalize validS t p g = e at *
    refine zen Tryz.func97 (by kernel_rfl) rfl Tryz.ntmps97 rfl (by simp) ?_
    refine a_seq ?_
    refine a_reg ?_
    repeat (first | refine gZ pk ?_ | (show AL _ _ _ _ _ _ _; first | refine jB (fun u => ?_)))
    refine zfb 3 5 rfl rfl ?_
    refine zfb 2 6 rfl rfl ?_
    refine zfb 1 7 rfl rfl ?_
    refine zfb 0 8 rfl rfl ?_
    repeat (first | refine gA pk ?_ | (show AL _ _ _ _ _ _ _; first | refine jP s1 ?_))
    refine fin (x := .tup [nilS, AI e]) (.inr rfl) rfl (Sub.tup (m := [mosA [], AI e]) ⟨Sub.nil 2, Sub.refl _, trivial⟩) ?_ (OSub.none _)
    exact ⟨rfl, rfl⟩
theorem iown_spec (l : List Mo) (hm : ∀ m ∈ l, MoB m) (hl : l.length ≤ 1000000) : Pure Tryz.prog 52 [mosA l] (mosA l) := by
  have ll : (l.map cMo).length = l.length := by simp
  refine zen Tryz.func52 (by kernel_rfl) rfl Tryz.ntmps52 rfl (by simp) ?_
  repeat (first | refine gA pk ?_)
  rw [ll]
  refine a_loopG2 (fun (i : Nat) (vo : Value) => [(3, .lit vo), (6, mosA l), (7, AI l.length), (8, AI i)]) (fun i vo => [(vo, .row 95 2 ((l.take i).map cMo))]) (fun i _ => i ≤ l.length) (fun i _ => l.length - i) 0 (.slice none 0 0) (Nat.zero_le _) (.sub (by exact subQ) (.free (OSub.none _))) ?_
  intro i vo hi
  have hlp : ((l.take i).map cMo).length = i := by rw [List.length_map, List.length_take]; omega
  rcases Nat.lt_or_ge i l.length with h | h
  · have hp := List.getElem?_eq_getElem h
    have hb := hm _ (List.getElem_mem h)
    generalize l[i] = m at hp hb
    obtain ⟨m1, m2⟩ := m
    obtain ⟨hb1, hb2⟩ := hb
    simp only at hb1 hb2
    have s1 := (CloneN_spec m1 (by omega)).pure
    have s2 := (CloneN_spec m2 (by omega)).pure
    have xk : (l.map cMo)[(i : Int).toNat]? = some [ints m1, ints m2] := zmp (f := cMo) hp
    have hset : (l.take (i + 1)).map cMo = (l.take i).map cMo ++ [[ints m1, ints m2]] := by rw [List.take_add_one, hp]; simp
    repeat (first | refine gN pk ?_ | (show AL _ _ _ _ _ _ _; first | refine jX tok xk ?_ | refine jL tok (fun ux => ?_) | refine jS tok 0 ?_ | refine jO tok 0 ?_))
    refine zfb 0 5 rfl rfl ?_
    refine zrg ((List.range 11).map fun i => if inL [3, 6, 8, 9] i = true then .eff else .pure) [] [0, 1, 2, 4, 5, 3, 6, 7, 8, 9, 10] .stop mixed rfl rfl (by decide +kernel) ?_
    repeat' (first | (with_reducible show AG _ _ _ _ _ _ _ _ _ _; first | exact zgn | refine zgs ?_ | refine znd ?_ ?_) | (show AMid _ _ _ _; first | refine zmf ?_ | refine zmg (by first | exact OSub.refl _ | exact .drop (OSub.refl _) | exact .drop (.drop (OSub.refl _))) ?_) | refine gY pk ?_ | (show AL _ _ _ _ _ _ _; first | refine jP s1 ?_ | refine jP s2 ?_ | refine zba tok rfl rfl rfl rfl rfl rfl rfl rfl (by decide) (fun lv => ?_) | refine zak tok 0 rfl rfl rfl rfl rfl rfl (by decide) rfl rfl rfl rfl (by omega) (by omega) (fun w hw => ?_)) | fail)
    repeat (first | refine gA pk ?_)
    exact ⟨i + 1, w, by omega, by omega, .sub (by exact subQ) (by rw [hset]; exact OSub.refl _)⟩
  · obtain rfl : i = l.length := by omega
    rw [List.take_length]
    refine a_frz 0 3 rfl rfl ?_
    repeat (first | refine gA pk ?_)
    refine finQ ?_
    exact ⟨rfl, rfl⟩
end Go.Proofs.YtddohheabpiljaaGreat
end
section
namespace Go.Proofs.YtddohheabpiljaaGreat
open Go.Sj Go.Sj.Typ Go.Sj.Sta Go.Sj.Inc
set_option maxRecDepth 8000
set_option maxHeartbeats 16000000
abbrev cEt (e : Edt) : List AV := [AI e.kind, AI e.idx, AI e.ty, AI e.fr, AI e.to]
theorem edit1_spec (g : Gr) (hg : OkG g) (n : Int) : Pure Tryz.prog 79 [AI n, grP g] (AB (decide (0 ≤ n ∧ n < g.nodes.length))) := by
  have h1 := hg.1
  have ll : (rowI g.nodes).length = g.nodes.length := by simp
  refine zen Tryz.func79 (by kernel_rfl) rfl Tryz.ntmps79 rfl (by simp) ?_
  repeat' (first | refine gA pk ?_ | (show AL _ _ _ _ _ _ _; first | (refine s_cmp rfl rfl rfl rfl rfl rfl rfl (fun hb => ?_) (fun hb => ?_) <;> simp only [cmpP] at hb)) | fail)
  all_goals first | ((refine finQ ?_); exact ⟨ABt (by omega), rfl⟩) | ((refine finQ ?_); exact ⟨ABf (by omega), rfl⟩)
theorem edit2_spec (e : Edt) (x : Ed) : Pure Tryz.prog 80 [.agg (cEd x), .ip (cEt e)] (AB (touB e.idx x)) := by
  obtain ⟨k, i, ty, fr, to⟩ := e
  obtain ⟨x1, x2, x3⟩ := x
  unfold touB
  simp only
  rw [show (decide (x2 = i) || decide (x3 = i)) = decide (x2 = i ∨ x3 = i) by simp]
  refine zen Tryz.func80 (by kernel_rfl) rfl Tryz.ntmps80 rfl (by simp) ?_; refine a_seq ?_; refine a_reg ?_; (repeat (first | refine gZ pk ?_ | (show AL _ _ _ _ _ _ _; first | refine jB (fun u => ?_)))); refine zfb 0 2 rfl rfl ?_
  repeat' (first | refine gA pk ?_ | (show AL _ _ _ _ _ _ _; first | (refine s_cmp rfl rfl rfl rfl rfl rfl rfl (fun hb => ?_) (fun hb => ?_) <;> simp only [cmpP] at hb)) | fail)
  all_goals first | ((refine finQ ?_); exact ⟨ABt (by omega), rfl⟩) | ((refine finQ ?_); exact ⟨ABf (by omega), rfl⟩)
theorem iedit_spec (g : Gr) (hg : OkG g) (hel : g.edges.length ≤ 1000000) (e : Edt) (nt et : Int) : Pure Tryz.prog 54 [grA g, .agg (cEt e), AI nt, AI et] (AI (editE g e nt et)) := by
  have h1 := hg.1
  have ll : (rowI g.nodes).length = g.nodes.length := by simp
  have le : (g.edges.map cEd).length = g.edges.length := by simp
  have s1 := fun n => edit1_spec g hg n
  have s2 := ContainsFuncG_spec g.edges (by omega) 80 [.ip (cEt e)] (touB e.idx) (fun x _ => edit2_spec e x)
  obtain ⟨r, hr⟩ : ∃ r, editE g e nt et = r := ⟨_, rfl⟩
  rw [hr]
  unfold editE at hr
  generalize g.edges.any (touB e.idx) = b at *
  obtain ⟨k, i, ty, fr, to⟩ := e
  simp only at hr
  change Pure _ _ [edsA g.edges, .fn (.func 80) [] [.ip [AI k, AI i, AI ty, AI fr, AI to]]] _ at s2
  change Pure _ _ [grA g, .agg [AI k, AI i, AI ty, AI fr, AI to], AI nt, AI et] _
  cases b
  all_goals
    refine zen Tryz.func54 (by kernel_rfl) rfl Tryz.ntmps54 rfl (by simp) ?_
    refine a_seq ?_
    refine a_reg ?_
    repeat (first | refine gZ pk ?_ | (show AL _ _ _ _ _ _ _; first | refine jB (fun u => ?_)))
    refine zfb 1 4 rfl rfl ?_
    refine zfb 0 5 rfl rfl ?_
    repeat' (first | refine gA pk ?_ | (show AL _ _ _ _ _ _ _; first | (refine s_callB rfl rfl rfl rfl rfl (s1 _) (SubL.of_eq rfl) (fun hb => ?_) (fun hb => ?_) <;> (first | replace hb := of_decide_eq_true hb | replace hb := of_decide_eq_false hb | skip)) | refine jP s2 ?_ | (refine s_cmp rfl rfl rfl rfl rfl rfl rfl (fun hb => ?_) (fun hb => ?_) <;> simp only [cmpP] at hb)) | fail)
    all_goals
      refine finQ ?_
      refine ⟨?_, rfl⟩
      subst hr
      repeat' (first | rw [if_pos (by omega)] | rw [if_neg (by omega)] | rw [if_pos rfl] | rw [if_neg (by decide)])
end Go.Proofs.YtddohheabpiljaaGreat
end
section
namespace Go.Proofs.YtddohheabpiljaaGreat
open Go.Sj
set_option maxRecDepth 8000
set_option maxHeartbeats 1000000
theorem Mul64_spec (c : Nat) (hc : c ≤ 1000000) : Pure Tryz.prog 158 [.lit (.int .u64 1), .lit (.int .u64 c)] (.tup [.lit (.int .u64 0), .lit (.int .u64 c)]) := by
  refine zen Tryz.func158 (by kernel_rfl) rfl Tryz.ntmps158 rfl (by simp) ?_
  repeat (first | refine gA pk ?_ | (show AL _ _ _ _ _ _ _; first | refine s_and32 rfl rfl rfl rfl rfl rfl (by omega) ?_ | refine s_shr32 rfl rfl rfl rfl rfl rfl (by omega) ?_ | refine s_arith rfl rfl rfl rfl rfl rfl rfl (IntWalk.u64_in _ (by omega)) ?_))
  refine fin (x := .tup [.lit _, .lit _]) (y := .tup [.lit (.int .u64 0), .lit (.int .u64 c)]) (.inr rfl) rfl (Sub.tup ⟨Sub.of_eq ?_, Sub.of_eq ?_, trivial⟩) ⟨rfl, rfl⟩ (OSub.refl _)
  · congr 2 <;> omega
  · congr 2 <;> omega
theorem Mul_spec (c : Nat) (hc : c ≤ 1000000) : Pure Tryz.prog 130 [.lit (.int .u64 1), .lit (.int .u64 c)] (.tup [.lit (.int .u64 0), .lit (.int .u64 c)]) := by
  refine zen Tryz.func130 (by kernel_rfl) rfl Tryz.ntmps130 rfl (by simp) ?_
  repeat (first | refine gA pk ?_ | (show AL _ _ _ _ _ _ _; first | refine jP (Mul64_spec c hc) ?_))
  refine finR ?_
  exact ⟨rfl, rfl⟩
theorem rep_step {α : Type} (x z : α) {n c m : Nat} (hn : n ≤ c) (hm : m = min n (c - n)) :
    (List.replicate n x ++ List.replicate (c - n) z).take n ++ (List.replicate n x ++ List.replicate (c - n) z).take m ++ (List.replicate n x ++ List.replicate (c - n) z).drop (n + m) = List.replicate (n + m) x ++ List.replicate (c - (n + m)) z := by
  have a1 : (List.replicate n x ++ List.replicate (c - n) z).take n = List.replicate n x := by
    rw [List.take_append_of_le_length (by simp)]; simp
  have a2 : (List.replicate n x ++ List.replicate (c - n) z).take m = List.replicate m x := by
    rw [List.take_append_of_le_length (by simp; omega), List.take_replicate, Nat.min_eq_left (by omega)]
  have a3 : (List.replicate n x ++ List.replicate (c - n) z).drop (n + m) = List.replicate (c - (n + m)) z := by
    rw [List.drop_append, List.drop_of_length_le (by simp), List.nil_append, List.length_replicate, List.drop_replicate, show c - n - (n + m - n) = c - (n + m) by omega]
  rw [a1, a2, a3, List.replicate_append_replicate]
theorem Repeat_spec (x : Int) (c : Nat) (hc : c ≤ 1000000) : Gives Tryz.prog 111 [ints [x], AI c] 3 1 (rowI (List.replicate c x)) := by
  refine zen Tryz.func111 (by kernel_rfl) rfl Tryz.ntmps111 rfl (by simp) ?_
  repeat (first | refine gA pk ?_ | (show AL _ _ _ _ _ _ _; first | refine jP (Mul_spec c hc) ?_ | refine zcv tok rfl rfl rfl rfl rfl rfl rfl (IntWalk.u64_in _ (by first | omega | (simp only [List.length_map, List.length_cons, List.length_nil]; omega))) ?_ | refine zcv tok rfl rfl rfl rfl rfl rfl rfl (IntWalk.i64_in _ (by omega)) ?_))
  refine s_make tok rfl rfl rfl rfl rfl rfl rfl rfl (by omega) (by omega) (by simp; omega) (by omega) (fun v => ?_)
  rw [show List.replicate (c : Int).toNat ([Value.int .i64 0].map AV.lit) = rowI (List.replicate c 0) by rw [Int.toNat_natCast]; simp [rowI, cI]]
  repeat (first | refine gA pk ?_)
  refine s_copyIm tok 0 (min 1 c) rfl rfl rfl rfl rfl rfl (by decide) rfl rfl rfl rfl (rowI_cell _) (by simp) ?_
  rw [show (rowI [x]).take (min 1 c) ++ (rowI (List.replicate c 0)).drop (min 1 c) = rowI (List.replicate (min 1 c) x ++ List.replicate (c - min 1 c) 0) by
    rcases Nat.eq_zero_or_pos c with h | h
    · subst h; rfl
    · rw [show min 1 c = 1 by omega]; simp [rowI]]
  repeat (first | refine gA pk ?_)
  refine zlx (fun n : Nat => [(7, .lit v), (8, AI n)]) (fun n => [(v, .row 3 1 (rowI (List.replicate n x ++ List.replicate (c - n) 0)))]) (fun n => n ≤ c ∧ (n = 0 → c = 0)) (fun n => c - n) (min 1 c) ⟨by omega, by omega⟩ ?_ (OSub.refl _) ?_
  · exact subQ
  · rintro n ⟨hn, h0⟩
    have lr : (rowI (List.replicate n x ++ List.replicate (c - n) (0 : Int))).length = c := by simp; omega
    rcases Nat.lt_or_ge n c with h1 | h1
    · obtain ⟨m, hm⟩ : ∃ m, m = min n (c - n) := ⟨_, rfl⟩
      have hs := rep_step x (0 : Int) hn hm
      repeat (first | (show AWp _ _ _ _ _ _; first | refine a_regD [.pure, .pure, .pure, .read, .pure, .pure, .read, .eff, .pure, .pure] mixed rfl (by decide +kernel) ?_) | refine gN pk ?_ | (show AL _ _ _ _ _ _ _; first | refine zol tok 0 rfl rfl rfl rfl (by decide) rfl rfl rfl ?_))
      refine s_ownPart tok 0 (a := n) (b := c) rfl rfl rfl rfl (by decide) rfl rfl rfl rfl rfl (by exact ⟨_, rfl⟩) (by exact lr.symm) (by omega) (by omega) ?_
      repeat (first | refine gA pk ?_)
      refine s_ownPart tok 0 (a := 0) (b := n) rfl rfl rfl rfl (by decide) rfl rfl rfl rfl rfl rfl (by exact ⟨_, rfl⟩) (by omega) (by omega) ?_
      refine s_copyOwn tok 0 (n := c) m rfl rfl rfl rfl rfl rfl (by decide) rfl rfl lr.symm rfl rfl (by omega) (by omega) (rowI_cell _) (by rw [lr]; exact hm) ?_
      rw [show (rowI (List.replicate n x ++ List.replicate (c - n) 0)).take n ++ (rowI (List.replicate n x ++ List.replicate (c - n) 0)).take m ++ (rowI (List.replicate n x ++ List.replicate (c - n) 0)).drop (n + m) = rowI (List.replicate (n + m) x ++ List.replicate (c - (n + m)) 0) by
        rw [← hs]; simp only [rowI, List.map_append, List.map_take, List.map_drop]]
      repeat (first | refine gA pk ?_)
      refine ⟨n + m, ⟨by omega, by omega⟩, by omega, ?_, OSub.refl _⟩
      exact subQ
    · obtain rfl : n = c := by omega
      repeat (first | refine gA pk ?_ | (show AL _ _ _ _ _ _ _; first | refine zol tok 0 rfl rfl rfl rfl (by decide) rfl rfl rfl ?_))
      refine finR ?_
      exact ⟨v, rfl, by simp⟩
end Go.Proofs.YtddohheabpiljaaGreat
end
section
namespace Go.Sj
set_option maxRecDepth 8000
def rowsSl (M : Own) : Prop := ∀ p ∈ M, match p.2 with | .row _ _ es => ∃ a c, p.1 = .slice a es.length c | _ => True
theorem ACalls.slices {P : Program} {f : FuncId} {args : List AV} {L : Own} {R : AV → Own → Prop} (h : ACalls P f args L R) : ACalls P f args L fun x M => R x M ∧ rowsSl M :=
  ⟨h.ok, fun σ F w vs a b => (h.out σ F w vs a b).mono fun e w' ⟨v, hv, τ, x, M, h1, h2, h3, h4⟩ => ⟨v, hv, τ, x, M, h1, h2, h3, h4, fun p hp => by
    have := h2.own p hp
    obtain ⟨u, ob⟩ := p
    cases ob with
    | row E sz es =>
      obtain ⟨a, c, hv, _⟩ := own_row_val this
      exact ⟨a, c, hv⟩
    | _ => trivial⟩⟩
end Go.Sj
end
section
namespace Go.Proofs.YtddohheabpiljaaGreat
open Go.Sj Go.Sj.Typ Go.Sj.Sta Go.Sj.Inc
set_option maxRecDepth 8000
set_option maxHeartbeats 16000000
theorem iopenO_spec (p : Gr) (hp : GV p) : ACalls Tryz.prog 96 [grA p] [] (fun y L => ∃ va vb, va.oneCell' = true ∧ vb.oneCell' = true ∧ y = .agg [.lit va, .lit vb] ∧ L = [(va, .row 3 1 (rowI (noneL p.nodes.length))), (vb, .row 3 1 (rowI (noneL p.edges.length)))]) := by
  have hnl := hp.nl
  have hel := hp.el
  have ln : (rowI p.nodes).length = p.nodes.length := by simp
  have le : (p.edges.map cEd).length = p.edges.length := by simp
  have s1 : Gives Tryz.prog 111 [ints [-1], AI (rowI p.nodes).length] 3 1 (rowI (noneL p.nodes.length)) := by rw [ln]; exact Repeat_spec (-1) p.nodes.length (by omega)
  have s2 : Gives Tryz.prog 111 [ints [-1], AI (p.edges.map cEd).length] 3 1 (rowI (noneL p.edges.length)) := by rw [le]; exact Repeat_spec (-1) p.edges.length (by omega)
  refine a_enterC Tryz.func96 (by kernel_rfl) rfl Tryz.ntmps96 rfl (tok _ _ rfl) (by simp) ?_
  refine a_seq ?_
  refine a_reg ?_
  repeat (first | refine gZ pk ?_ | (show AL _ _ _ _ _ _ _; first | refine jB (fun up => ?_) | refine jL tok (fun U2 => ?_)))
  refine zfb 1 1 rfl rfl ?_
  refine AWp.mono (Q := fun e st L => e = .normal ∧ ∃ va vb, va.oneCell' = true ∧ vb.oneCell' = true ∧ GoTo 14 st L (lk [(2, .pt U2 0 0 0)]) [(U2, OB.box [.lit va, .lit vb]), (va, OB.row 3 1 (rowI (noneL p.nodes.length))), (vb, OB.row 3 1 (rowI (noneL p.edges.length)))]) ?_ (fun e st L h => ?_)
  · refine zrg ((List.range 12).map fun i => if inL [0, 4, 5, 9, 11] i = true then .eff else .pure) [] [1, 2, 3, 6, 7, 8] (.nd 0 [] (.nd 4 [5, 9, 10, 11] .stop (.nd 5 [4, 9, 10, 11] .stop .stop)) (.nd 5 [0, 4, 9, 10, 11] .stop .stop)) mixed rfl rfl (by decide +kernel) ?_
    repeat' (first | (with_reducible show AG _ _ _ _ _ _ _ _ _ _; first | exact zgn | refine zgs ?_ | refine znd ?_ ?_) | (show AMid _ _ _ _; first | refine zmf ?_ | refine zmg (by first | exact OSub.refl _ | exact .drop (OSub.refl _) | exact .drop (.drop (OSub.refl _))) ?_) | refine gY pk ?_ | (show AL _ _ _ _ _ _ _; first | refine s_frzNow 0 rfl rfl rfl (s_build tok rfl rfl rfl rfl rfl rfl rfl rfl (by decide) (by decide) (fun v => AL.nil ⟨v, rfl, rfl, rfl⟩)) ?_ | refine zsc (Lc := []) rfl rfl rfl rfl rfl (ACalls.slices s1) (SubL.of_eq rfl) (List.Perm.refl _) ?_; rintro _ _ ⟨⟨va, rfl, rfl⟩, hva⟩; obtain ⟨a1, c1, rfl⟩ := hva _ (List.mem_singleton.2 rfl) | refine zsc (Lc := []) rfl rfl rfl rfl rfl (ACalls.slices s2) (SubL.of_eq rfl) (List.Perm.refl _) ?_; rintro _ _ ⟨⟨vb, rfl, rfl⟩, hvb⟩; obtain ⟨a2, c2, rfl⟩ := hvb _ (List.mem_singleton.2 rfl) | refine jS tok 2 ?_) | fail)
    all_goals
      first | exact ⟨rfl, _, _, rfl, rfl, (GoTo.sub (by exact subQ) (OSub.refl _)).trans (GoTo.perm (perm3 _ _ _).2.2.1)⟩ | exact ⟨rfl, _, _, rfl, rfl, (GoTo.sub (by exact subQ) (OSub.refl _)).trans (GoTo.perm (perm3 _ _ _).2.2.2.2.1)⟩
  · obtain ⟨rfl, va, vb, hva, hvb, h⟩ := h
    refine zgt h ?_
    refine zfb 0 2 rfl rfl ?_
    repeat (first | refine gA pk ?_)
    exact ⟨.inr rfl, _, _, _, _, rfl, rfl, Turn.of (Sub.of_eq rfl) (OSub.refl _), va, vb, hva, hvb, rfl, rfl⟩
end Go.Proofs.YtddohheabpiljaaGreat
end
section
namespace Go.Proofs.YtddohheabpiljaaGreat
open Go.Sj Go.Sj.Typ Go.Sj.Sta Go.Sj.Inc
set_option maxRecDepth 8000
set_option maxHeartbeats 16000000
theorem len64_spec (n : Nat) (hn : n ≤ 255) : ACalls Tryz.prog 141 [.lit (.int .u64 n)] [] (fun y L => (∃ k : Int, y = AI k) ∧ L = []) := by
  refine zen Tryz.func141 (by kernel_rfl) rfl Tryz.ntmps141 rfl (by simp) ?_
  repeat (first | refine gN pk ?_ | (show AL _ _ _ _ _ _ _; first | refine zcv tok rfl rfl rfl rfl rfl rfl rfl (IntWalk.u8_in _ (by omega)) ?_ | refine s_strIx tok rfl rfl rfl rfl rfl rfl rfl (by omega) (Int.lt_of_lt_of_le (b := 256) (by omega) (by decide +kernel)) ?_))
  have hz := byt_rng
  generalize hbz : byt _ _ = z
  have hz1 : 0 ≤ z ∧ z ≤ 255 := by rw [← hbz]; exact hz _ _
  repeat (first | refine gA pk ?_ | (show AL _ _ _ _ _ _ _; first | refine zcv tok rfl rfl rfl rfl rfl rfl rfl (IntWalk.i64_in _ (by omega)) ?_))
  exact fin (x := .lit _) (.inr rfl) rfl (Sub.refl _) ⟨⟨_, rfl⟩, rfl⟩ (OSub.none _)
theorem len_spec (n : Nat) (hn : n ≤ 255) : ACalls Tryz.prog 114 [.lit (.int .u64 n)] [] (fun y L => (∃ k : Int, y = AI k) ∧ L = []) := by
  have s1 := len64_spec n hn
  refine zen Tryz.func114 (by kernel_rfl) rfl Tryz.ntmps114 rfl (by simp) ?_
  repeat (first | refine gA pk ?_ | (show AL _ _ _ _ _ _ _; first | refine zsc (Lc := []) (Lr := []) rfl rfl rfl rfl rfl s1 (SubL.of_eq rfl) (List.Perm.refl _) ?_; rintro _ _ ⟨⟨k, rfl⟩, rfl⟩))
  exact fin (x := .lit _) (.inr rfl) rfl (Sub.refl _) ⟨⟨_, rfl⟩, rfl⟩ (OSub.none _)
theorem isort1_spec (v : Value) (F : AV) (l : List Mo) (hl : l.length ≤ 1) : ACalls Tryz.prog 132 [.lit v, AI 0, AI l.length, F] [(v, .row 95 2 (l.map cMo))] (fun y M => y = .tup [] ∧ M = [(v, .row 95 2 (l.map cMo))]) := by
  refine zen Tryz.func132 (by kernel_rfl) rfl Tryz.ntmps132 rfl (by simp) ?_
  repeat (first | refine gA pk ?_)
  refine zlx (fun k : Nat => [(2, AI l.length), (8, AI 1)]) (fun _ => [(v, .row 95 2 (l.map cMo))]) (fun k => k = 0) (fun k => k) 0 rfl ?_ (OSub.refl _) ?_
  · exact subQ
  · rintro k rfl
    repeat (first | refine gA pk ?_)
    exact fin (x := .tup []) (.inl rfl) rfl (Sub.refl _) ⟨rfl, rfl⟩ (OSub.refl _)
theorem pdq1_spec (v : Value) (F : AV) (k : Int) (l : List Mo) (hl : l.length ≤ 1) : ACalls Tryz.prog 113 [.lit v, AI 0, AI l.length, AI k, F] [(v, .row 95 2 (l.map cMo))] (fun y M => y = .tup [] ∧ M = [(v, .row 95 2 (l.map cMo))]) := by
  have s1 := isort1_spec v F l hl
  refine zen Tryz.func113 (by kernel_rfl) rfl Tryz.ntmps113 rfl (by simp) ?_
  repeat (first | refine gA pk ?_)
  refine zlx (fun q : Nat => [(0, .lit v), (1, AI 0), (2, AI l.length), (4, F)]) (fun _ => [(v, .row 95 2 (l.map cMo))]) (fun q => q = 0) (fun q => q) 0 rfl ?_ (OSub.refl _) ?_
  · exact subQ
  · rintro q rfl
    repeat (first | refine gA pk ?_ | (show AL _ _ _ _ _ _ _; first | refine s_pe (x := F) tok rfl rfl rfl rfl ?_ | refine zsc (Lc := [(v, .row 95 2 (l.map cMo))]) (Lr := []) rfl rfl rfl rfl rfl s1 (SubL.of_eq rfl) (List.Perm.refl _) ?_; rintro _ _ ⟨rfl, rfl⟩))
    exact fin (x := .tup []) (.inr rfl) rfl (Sub.refl _) ⟨rfl, rfl⟩ (OSub.refl _)
theorem sort1_spec (v : Value) (F : AV) (l : List Mo) (hl : l.length ≤ 1) : ACalls Tryz.prog 98 [.lit v, F] [(v, .row 95 2 (l.map cMo))] (fun y M => y = .tup [] ∧ M = [(v, .row 95 2 (l.map cMo))]) := by
  have ll : (l.map cMo).length = l.length := by simp
  have s1 := len_spec l.length (by omega)
  have s2 := fun k => pdq1_spec v F k l hl
  rw [← ll] at s1 s2
  refine zen Tryz.func98 (by kernel_rfl) rfl Tryz.ntmps98 rfl (by simp) ?_
  repeat (first | refine gA pk ?_ | (show AL _ _ _ _ _ _ _; first | refine zol tok 0 rfl rfl rfl rfl (by decide) rfl rfl rfl ?_ | refine s_pe (x := F) tok rfl rfl rfl rfl ?_ | refine zcv tok rfl rfl rfl rfl rfl rfl rfl (IntWalk.u64_in _ (by omega)) ?_ | refine zsc (Lc := []) (Lr := [(v, .row 95 2 (l.map cMo))]) rfl rfl rfl rfl rfl s1 (SubL.of_eq rfl) (List.Perm.refl _) ?_; rintro _ _ ⟨⟨k, rfl⟩, rfl⟩ | refine zsc (Lc := [(v, .row 95 2 (l.map cMo))]) (Lr := []) rfl rfl rfl rfl rfl (s2 k) (SubL.of_eq rfl) (List.Perm.refl _) ?_; rintro _ _ ⟨rfl, rfl⟩))
  exact fin (x := .tup []) (.inl rfl) rfl (Sub.refl _) ⟨rfl, rfl⟩ (OSub.refl _)
theorem compact1_spec (v : Value) (F : AV) (l : List Mo) (hl : l.length ≤ 1) : ACalls Tryz.prog 99 [.lit v, F] [(v, .row 95 2 (l.map cMo))] (fun y M => y = .lit v ∧ M = [(v, .row 95 2 (l.map cMo))]) := by
  have ll : (l.map cMo).length = l.length := by simp
  refine zen Tryz.func99 (by kernel_rfl) rfl Tryz.ntmps99 rfl (by simp) ?_
  repeat (first | refine gA pk ?_ | (show AL _ _ _ _ _ _ _; first | refine zol tok 0 rfl rfl rfl rfl (by decide) rfl rfl rfl ?_))
  exact fin (x := .lit _) (.inr rfl) rfl (Sub.refl _) ⟨rfl, rfl⟩ (OSub.refl _)
end Go.Proofs.YtddohheabpiljaaGreat
end
section
namespace Go.Sj
set_option maxRecDepth 8000
section
variable {P : Program} {N : Nat} {ops : List Oper} {Q : St → Own → Prop} {L : Own} {rest : List (Oper × Kd)} {l : List (Nat × AV)} {k : Kd} {q : Nat}
theorem s_xorU {o : Oper} {T T' : TypeId} {x y : Operand} {a b : Nat} (ho : o.op = .binOp .xor T x y T') (hdst : o.dst = some q) (hd : Nat.blt q N = true) (hg : guardA ops o (lk l) = some true)
    (hx : ev (lk l) x = .lit (.int .u64 (a : Int))) (hy : ev (lk l) y = .lit (.int .u64 (b : Int))) (ha : a < 18446744073709551616) (hb : b < 18446744073709551616)
    (n : AL P N ops Q rest (lk ((q, .lit (.int .u64 ((a ^^^ b : Nat) : Int))) :: l)) L) : AL P N ops Q ((o, k) :: rest) (lk l) L := by
  obtain ⟨dst, op', ty, pos, after, g⟩ := o
  simp only at ho
  subst ho
  refine s_pure hdst hd hg ⟨fun σ F w ρ hR hρ => ⟨.int .u64 ((a ^^^ b : Nat) : Int), ?_, .lit _⟩⟩ n
  have h1 := hρ x (by simp [Op.operands])
  have h2 := hρ y (by simp [Op.operands])
  rw [hx] at h1
  rw [hy] at h2
  have e := bits_xor_u64_nat a b ha hb
  have e2 : IntKind.u64.wrap ((a ^^^ b : Nat) : Int) = ((a ^^^ b : Nat) : Int) := IntWalk.u64_in _ (by
    have := Nat.xor_lt_two_pow (n := 64) (x := a) (y := b) (by omega) (by omega)
    omega)
  simp [execOp, h1.lit_inv, h2.lit_inv, eqGuard, binOp, Op.intArith, Op.intBits]
  first | exact e | (rw [e]; exact e2) | exact (congrArg IntKind.u64.wrap e).trans e2
theorem s_andU {o : Oper} {T T' : TypeId} {x y : Operand} {a b : Nat} (ho : o.op = .binOp .and T x y T') (hdst : o.dst = some q) (hd : Nat.blt q N = true) (hg : guardA ops o (lk l) = some true)
    (hx : ev (lk l) x = .lit (.int .u64 (a : Int))) (hy : ev (lk l) y = .lit (.int .u64 (b : Int))) (ha : a < 18446744073709551616) (hb : b < 18446744073709551616)
    (n : AL P N ops Q rest (lk ((q, .lit (.int .u64 ((a &&& b : Nat) : Int))) :: l)) L) : AL P N ops Q ((o, k) :: rest) (lk l) L := by
  obtain ⟨dst, op', ty, pos, after, g⟩ := o
  simp only at ho
  subst ho
  refine s_pure hdst hd hg ⟨fun σ F w ρ hR hρ => ⟨.int .u64 ((a &&& b : Nat) : Int), ?_, .lit _⟩⟩ n
  have h1 := hρ x (by simp [Op.operands])
  have h2 := hρ y (by simp [Op.operands])
  rw [hx] at h1
  rw [hy] at h2
  have e := bits_and_u64_nat a b ha hb
  have e2 : IntKind.u64.wrap ((a &&& b : Nat) : Int) = ((a &&& b : Nat) : Int) := IntWalk.u64_in _ (by
    have := Nat.and_lt_two_pow (n := 64) a (y := b) (by omega)
    omega)
  simp [execOp, h1.lit_inv, h2.lit_inv, eqGuard, binOp, Op.intArith, Op.intBits]
  first | exact e | (rw [e]; exact e2) | exact (congrArg IntKind.u64.wrap e).trans e2
theorem s_shlU {o : Oper} {T T' : TypeId} {x y : Operand} {k2 : IntKind} {a c : Nat} (ho : o.op = .binOp .shl T x y T') (hdst : o.dst = some q) (hd : Nat.blt q N = true) (hg : guardA ops o (lk l) = some true)
    (hx : ev (lk l) x = .lit (.int .u64 (a : Int))) (hy : ev (lk l) y = .lit (.int k2 (c : Int))) (hc : c < 64)
    (n : AL P N ops Q rest (lk ((q, .lit (.int .u64 ((a * 2 ^ c % 18446744073709551616 : Nat) : Int))) :: l)) L) : AL P N ops Q ((o, k) :: rest) (lk l) L := by
  obtain ⟨dst, op', ty, pos, after, g⟩ := o
  simp only at ho
  subst ho
  refine s_pure hdst hd hg ⟨fun σ F w ρ hR hρ => ⟨.int .u64 ((a * 2 ^ c % 18446744073709551616 : Nat) : Int), ?_, .lit _⟩⟩ n
  have h1 := hρ x (by simp [Op.operands])
  have h2 := hρ y (by simp [Op.operands])
  rw [hx] at h1
  rw [hy] at h2
  have hc2 : ¬ ((c : Int) < 0) := by omega
  have hc3 : ¬ (64 ≤ c) := by omega
  have e : IntKind.u64.wrap ((a : Int) * 2 ^ c) = ((a * 2 ^ c % 18446744073709551616 : Nat) : Int) := by
    have e1 : (a : Int) * 2 ^ c = ((a * 2 ^ c : Nat) : Int) := by rw [Int.natCast_mul, Int.natCast_pow]; rfl
    rw [IntKind.wrap_u64, e1]
    generalize a * 2 ^ c = m
    omega
  simp [execOp, h1.lit_inv, h2.lit_inv, eqGuard, binOp, Op.shift, hc2, hc3, IntKind.bits]
  first | exact e | exact congrArg _ e | skip
theorem s_shrU {o : Oper} {T T' : TypeId} {x y : Operand} {k2 : IntKind} {a c : Nat} (ho : o.op = .binOp .shr T x y T') (hdst : o.dst = some q) (hd : Nat.blt q N = true) (hg : guardA ops o (lk l) = some true)
    (hx : ev (lk l) x = .lit (.int .u64 (a : Int))) (hy : ev (lk l) y = .lit (.int k2 (c : Int))) (hc : c < 64)
    (n : AL P N ops Q rest (lk ((q, .lit (.int .u64 ((a / 2 ^ c : Nat) : Int))) :: l)) L) : AL P N ops Q ((o, k) :: rest) (lk l) L := by
  obtain ⟨dst, op', ty, pos, after, g⟩ := o
  simp only at ho
  subst ho
  refine s_pure hdst hd hg ⟨fun σ F w ρ hR hρ => ⟨.int .u64 ((a / 2 ^ c : Nat) : Int), ?_, .lit _⟩⟩ n
  have h1 := hρ x (by simp [Op.operands])
  have h2 := hρ y (by simp [Op.operands])
  rw [hx] at h1
  rw [hy] at h2
  have hc2 : ¬ ((c : Int) < 0) := by omega
  have hb : (a : Int).fdiv (2 ^ (min c IntKind.u64.bits)) = ((a / 2 ^ c : Nat) : Int) := by
    have : min c IntKind.u64.bits = c := Nat.min_eq_left (by show c ≤ 64; omega)
    rw [this, Int.fdiv_eq_ediv_of_nonneg _ (by exact_mod_cast Nat.zero_le _)]
    push_cast
    rfl
  simp [execOp, h1.lit_inv, h2.lit_inv, eqGuard, binOp, Op.shift, hc2, hb]
end
end Go.Sj
end
