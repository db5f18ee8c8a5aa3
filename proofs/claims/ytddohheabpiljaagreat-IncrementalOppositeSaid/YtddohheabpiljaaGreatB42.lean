/-
  Parts of the proof of the law IncrementalOpposite (texts W55): steps, plain mathematics, contracts of functions. Each theorem states its own conditions.
-/
import Derived.Test.YtddohheabpiljaaGreatB07
import Derived.Test.YtddohheabpiljaaGreatB09
import Derived.Test.YtddohheabpiljaaGreatB10
import Derived.Test.YtddohheabpiljaaGreatB11
import Derived.Test.YtddohheabpiljaaGreatB41
section
/-
  Watches: matches that agree with partial ones, copies of matches (program). Conditions: small type graphs.
-/
namespace Go.Proofs.YtddohheabpiljaaGreat
open Go.Sj Go.Sj.Typ Go.Sj.Sta Go.Sj.Inc
set_option maxRecDepth 8000
set_option linter.unusedVariables false
set_option linter.unusedSimpArgs false
set_option maxHeartbeats 16000000

def openB (n : Nat) (k : Int) : Bool := decide (k < -1) || decide ((n : Int) ≤ k)
theorem sopen1_spec (n : Nat) (k : Int) : Pure Tryz.prog 131 [AI k, .ip [AI n]] (AB (openB n k)) := by
  unfold openB
  by_cases h1 : k < -1
  · rw [decide_eq_true h1, Bool.true_or]
    refine a_enter Tryz.func131 (by kernel_rfl) rfl Tryz.ntmps131 rfl (by simp) ?_
    repeat (first | refine gA pk ?_)
    refine finQ ?_
    exact ⟨rfl, rfl⟩
  · rw [decide_eq_false h1, Bool.false_or]
    by_cases h2 : (n : Int) ≤ k
    all_goals
      first | rw [decide_eq_true h2] | rw [decide_eq_false h2]
      refine a_enter Tryz.func131 (by kernel_rfl) rfl Tryz.ntmps131 rfl (by simp) ?_
      repeat (first | refine gA pk ?_)
      refine finQ ?_
      exact ⟨rfl, rfl⟩
def openE (l : List Int) (n : Nat) : Int := if l.any (openB n) = true then 6 else 0
theorem sopen_spec (l : List Int) (hl : l.length ≤ 1000) (n : Nat) : Pure Tryz.prog 112 [ints l, AI n] (AI (openE l n)) := by
  have s1 := ContainsFuncI_spec l (by omega) 131 [.ip [AI n]] (openB n) (fun x _ => sopen1_spec n x)
  unfold openE
  generalize l.any (openB n) = b at *
  cases b
  · rw [if_neg (by decide)]
    refine a_enter Tryz.func112 (by kernel_rfl) rfl Tryz.ntmps112 rfl (by simp) ?_; refine a_seq ?_; refine a_reg ?_; (repeat (first | refine gZ pk ?_ | (show AL _ _ _ _ _ _ _; first | refine jB (fun u => ?_)))); refine a_frzBox 0 3 rfl rfl ?_
    repeat (first | refine gA pk ?_ | (show AL _ _ _ _ _ _ _; first | refine jP s1 ?_))
    refine finQ ?_
    exact ⟨rfl, rfl⟩
  · rw [if_pos rfl]
    refine a_enter Tryz.func112 (by kernel_rfl) rfl Tryz.ntmps112 rfl (by simp) ?_; refine a_seq ?_; refine a_reg ?_; (repeat (first | refine gZ pk ?_ | (show AL _ _ _ _ _ _ _; first | refine jB (fun u => ?_)))); refine a_frzBox 0 3 rfl rfl ?_
    repeat (first | refine gA pk ?_ | (show AL _ _ _ _ _ _ _; first | refine jP s1 ?_))
    refine finQ ?_
    exact ⟨rfl, rfl⟩
def seaP (t : Tys) (p g : Gr) (a b : List Int) (inj : Bool) : Sea := ⟨p, g, okT t, some a, some b, inj⟩
def extR (t : Tys) (p g : Gr) (a b : List Int) (inj : Bool) : List Mo × Int :=
  if validS t p g ≠ 0 then ([], validS t p g)
  else if a.length ≠ p.nodes.length ∨ b.length ≠ p.edges.length then ([], 20)
  else if openE a g.nodes.length ≠ 0 then ([], openE a g.nodes.length)
  else if openE b g.edges.length ≠ 0 then ([], openE b g.edges.length)
  else capR (matL (seaP t p g a b inj))
theorem sextend_spec (t : Tys) (ht : Small t) (p g : Gr) (hp : OkG p) (hg : OkG g) (a b : List Int) (ha : a.length ≤ 1000) (hb : b.length ≤ 1000) (inj : Bool) :
    Pure Tryz.prog 97 [tysA t, grA p, grA g, .agg [ints a, ints b], AB inj] (.tup [mosA (extR t p g a b inj).1, AI (extR t p g a b inj).2]) := by
  have s1 := svalid_spec t ht p g hp hg
  have lpn : (rowI p.nodes).length = p.nodes.length := by simp
  have lpe : (p.edges.map cEd).length = p.edges.length := by simp
  have lgn : (rowI g.nodes).length = g.nodes.length := by simp
  have lge : (g.edges.map cEd).length = g.edges.length := by simp
  have la : (rowI a).length = a.length := by simp
  have lb : (rowI b).length = b.length := by simp
  unfold extR
  by_cases h : validS t p g = 0
  · rw [if_neg (Decidable.not_not.2 h)]
    have hz := validS_zero h
    rw [h] at s1
    by_cases hab : a.length ≠ p.nodes.length ∨ b.length ≠ p.edges.length
    · rw [if_pos hab]
      by_cases h1 : a.length = p.nodes.length
      all_goals
        refine a_enter Tryz.func97 (by kernel_rfl) rfl Tryz.ntmps97 rfl (by simp) ?_
        refine a_seq ?_
        refine a_reg ?_
        repeat (first | refine gZ pk ?_ | (show AL _ _ _ _ _ _ _; first | refine jB (fun u => ?_)))
        refine a_frzBox 3 5 rfl rfl ?_
        refine a_frzBox 2 6 rfl rfl ?_
        refine a_frzBox 1 7 rfl rfl ?_
        refine a_frzBox 0 8 rfl rfl ?_
        repeat (first | refine gA pk ?_ | (show AL _ _ _ _ _ _ _; first | refine jP s1 ?_))
        refine fin (x := .tup [nilS, AI 20]) (.inr rfl) rfl (Sub.tup (m := [mosA [], AI 20]) ⟨Sub.nil 2, Sub.refl _, trivial⟩) ?_ (OSub.none _)
        exact ⟨rfl, rfl⟩
    · rw [if_neg hab]
      have s2 := sopen_spec a ha g.nodes.length
      have s3 := sopen_spec b hb g.edges.length
      have s4 := sall_spec t ht hz.1 (seaP t p g a b inj) ⟨⟨hz.2.1, hz.2.2.1, fun l hl => (by cases hl; show a.length = p.nodes.length; omega), fun l hl => (by cases hl; show b.length = p.edges.length; omega)⟩, rfl, typT_of hz.2.1 hz.2.2.2.1, typT_of hz.2.2.1 hz.2.2.2.2⟩
      change Pure _ _ [tysA t, grA p, grA g, .agg [ints a, ints b], AB inj] _ at s4
      generalize capR (matL (seaP t p g a b inj)) = r at *
      obtain ⟨r1, r2⟩ := r
      replace s2 : Pure Tryz.prog 112 [ints a, AI (rowI g.nodes).length] (AI (openE a g.nodes.length)) := by rw [lgn]; exact s2
      replace s3 : Pure Tryz.prog 112 [ints b, AI (g.edges.map cEd).length] (AI (openE b g.edges.length)) := by rw [lge]; exact s3
      by_cases h2 : openE a g.nodes.length = 0
      · rw [if_neg (Decidable.not_not.2 h2)]
        rw [h2] at s2
        by_cases h3 : openE b g.edges.length = 0
        · rw [if_neg (Decidable.not_not.2 h3)]
          rw [h3] at s3
          refine a_enter Tryz.func97 (by kernel_rfl) rfl Tryz.ntmps97 rfl (by simp) ?_
          refine a_seq ?_
          refine a_reg ?_
          repeat (first | refine gZ pk ?_ | (show AL _ _ _ _ _ _ _; first | refine jB (fun u => ?_)))
          refine a_frzBox 3 5 rfl rfl ?_
          refine a_frzBox 2 6 rfl rfl ?_
          refine a_frzBox 1 7 rfl rfl ?_
          refine a_frzBox 0 8 rfl rfl ?_
          repeat (first | refine gA pk ?_ | (show AL _ _ _ _ _ _ _; first | refine jP s1 ?_ | refine jP s2 ?_ | refine jP s3 ?_ | refine jP s4 ?_))
          refine finQ ?_
          exact ⟨rfl, rfl⟩
        · rw [if_pos h3]
          generalize openE b g.edges.length = e at *
          refine a_enter Tryz.func97 (by kernel_rfl) rfl Tryz.ntmps97 rfl (by simp) ?_
          refine a_seq ?_
          refine a_reg ?_
          repeat (first | refine gZ pk ?_ | (show AL _ _ _ _ _ _ _; first | refine jB (fun u => ?_)))
          refine a_frzBox 3 5 rfl rfl ?_
          refine a_frzBox 2 6 rfl rfl ?_
          refine a_frzBox 1 7 rfl rfl ?_
          refine a_frzBox 0 8 rfl rfl ?_
          repeat (first | refine gA pk ?_ | (show AL _ _ _ _ _ _ _; first | refine jP s1 ?_ | refine jP s2 ?_ | refine jP s3 ?_))
          refine fin (x := .tup [nilS, AI e]) (.inr rfl) rfl (Sub.tup (m := [mosA [], AI e]) ⟨Sub.nil 2, Sub.refl _, trivial⟩) ?_ (OSub.none _)
          exact ⟨rfl, rfl⟩
      · rw [if_pos h2]
        generalize openE a g.nodes.length = e at *
        refine a_enter Tryz.func97 (by kernel_rfl) rfl Tryz.ntmps97 rfl (by simp) ?_
        refine a_seq ?_
        refine a_reg ?_
        repeat (first | refine gZ pk ?_ | (show AL _ _ _ _ _ _ _; first | refine jB (fun u => ?_)))
        refine a_frzBox 3 5 rfl rfl ?_
        refine a_frzBox 2 6 rfl rfl ?_
        refine a_frzBox 1 7 rfl rfl ?_
        refine a_frzBox 0 8 rfl rfl ?_
        repeat (first | refine gA pk ?_ | (show AL _ _ _ _ _ _ _; first | refine jP s1 ?_ | refine jP s2 ?_))
        refine fin (x := .tup [nilS, AI e]) (.inr rfl) rfl (Sub.tup (m := [mosA [], AI e]) ⟨Sub.nil 2, Sub.refl _, trivial⟩) ?_ (OSub.none _)
        exact ⟨rfl, rfl⟩
  · rw [if_pos h]
    generalize validS t p g = e at *
    refine a_enter Tryz.func97 (by kernel_rfl) rfl Tryz.ntmps97 rfl (by simp) ?_
    refine a_seq ?_
    refine a_reg ?_
    repeat (first | refine gZ pk ?_ | (show AL _ _ _ _ _ _ _; first | refine jB (fun u => ?_)))
    refine a_frzBox 3 5 rfl rfl ?_
    refine a_frzBox 2 6 rfl rfl ?_
    refine a_frzBox 1 7 rfl rfl ?_
    refine a_frzBox 0 8 rfl rfl ?_
    repeat (first | refine gA pk ?_ | (show AL _ _ _ _ _ _ _; first | refine jP s1 ?_))
    refine fin (x := .tup [nilS, AI e]) (.inr rfl) rfl (Sub.tup (m := [mosA [], AI e]) ⟨Sub.nil 2, Sub.refl _, trivial⟩) ?_ (OSub.none _)
    exact ⟨rfl, rfl⟩
theorem iown_spec (l : List Mo) (hm : ∀ m ∈ l, MoB m) (hl : l.length ≤ 1000000) : Pure Tryz.prog 52 [mosA l] (mosA l) := by
  have ll : (l.map cMo).length = l.length := by simp
  refine a_enter Tryz.func52 (by kernel_rfl) rfl Tryz.ntmps52 rfl (by simp) ?_
  repeat (first | refine gA pk ?_)
  rw [ll]
  refine a_loopG2 (fun (i : Nat) (vo : Value) => [(3, .lit vo), (6, mosA l), (7, AI l.length), (8, AI i)]) (fun i vo => [(vo, .row 95 2 ((l.take i).map cMo))]) (fun i _ => i ≤ l.length) (fun i _ => l.length - i) 0 (.slice none 0 0) (Nat.zero_le _) (.sub (by exact subQ) (.free (OSub.none _))) ?_
  intro i vo hi
  have hlp : ((l.take i).map cMo).length = i := by rw [List.length_map, List.length_take]; omega
  rcases Nat.lt_or_ge i l.length with h | h
  · have hp := List.getElem?_eq_getElem h
    have hb := hm _ (List.getElem_mem h)
    generalize l[i] = m at hp hb
    obtain ⟨m1, m2⟩ := m
    obtain ⟨hb1, hb2⟩ := hb
    simp only at hb1 hb2
    have s1 := (CloneN_spec m1 (by omega)).pure
    have s2 := (CloneN_spec m2 (by omega)).pure
    have xk : (l.map cMo)[(i : Int).toNat]? = some [ints m1, ints m2] := map_get (f := cMo) hp
    have hset : (l.take (i + 1)).map cMo = (l.take i).map cMo ++ [[ints m1, ints m2]] := by rw [List.take_add_one, hp]; simp
    repeat (first | refine gN pk ?_ | (show AL _ _ _ _ _ _ _; first | refine jX tok xk ?_ | refine jL tok (fun ux => ?_) | refine jS tok 0 ?_ | refine jO tok 0 ?_))
    refine a_frzBox 0 5 rfl rfl ?_
    refine a_regG ((List.range 11).map fun i => if inL [3, 6, 8, 9] i = true then .eff else .pure) [] [0, 1, 2, 4, 5, 3, 6, 7, 8, 9, 10] .stop mixed rfl rfl (by decide +kernel) ?_
    repeat' (first | (with_reducible show AG _ _ _ _ _ _ _ _ _ _; first | exact ag_none | refine ag_stop ?_ | refine ag_nd ?_ ?_) | (show AMid _ _ _ _; first | refine amid_f ?_ | refine amid_g (by first | exact OSub.refl _ | exact .drop (OSub.refl _) | exact .drop (.drop (OSub.refl _))) ?_) | refine gY pk ?_ | (show AL _ _ _ _ _ _ _; first | refine jP s1 ?_ | refine jP s2 ?_ | refine s_build1A tok rfl rfl rfl rfl rfl rfl rfl rfl (by decide) (fun lv => ?_) | refine s_append1K tok 0 rfl rfl rfl rfl rfl rfl (by decide) rfl rfl rfl rfl (by omega) (by omega) (fun w hw => ?_)) | fail)
    repeat (first | refine gA pk ?_)
    exact ⟨i + 1, w, by omega, by omega, .sub (by exact subQ) (by rw [hset]; exact OSub.refl _)⟩
  · obtain rfl : i = l.length := by omega
    rw [List.take_length]
    refine a_frz 0 3 rfl rfl ?_
    repeat (first | refine gA pk ?_)
    refine finQ ?_
    exact ⟨rfl, rfl⟩
end Go.Proofs.YtddohheabpiljaaGreat

end
