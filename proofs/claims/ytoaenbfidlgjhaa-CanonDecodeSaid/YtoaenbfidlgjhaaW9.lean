/-
  Code and CodeIn of the program: the walks.
-/
import Derived.Test.YtoaenbfidlgjhaaSjQ8
import Derived.Test.YtoaenbfidlgjhaaW8
namespace Go.Proofs.Ytoaenbfidlgjhaa
open Go.Sj Go.Sj.Typ Go.Sj.Sta Go.Sj.Can
set_option linter.unusedVariables false
set_option linter.unusedSimpArgs false
set_option maxHeartbeats 16000000

def cvalid (g : Gr) : Int := if gvalid g ≠ 0 then gvalid g else if 8 < g.nodes.length then 3 else 0
theorem cvalid_zero {g : Gr} : cvalid g = 0 ↔ GV g ∧ g.nodes.length ≤ 8 := by
  unfold cvalid
  by_cases h : gvalid g = 0
  · rw [if_neg (Decidable.not_not.2 h)]
    by_cases h2 : 8 < g.nodes.length
    · rw [if_pos h2]
      constructor
      · intro h; exact absurd h (by decide)
      · intro h; omega
    · rw [if_neg h2]
      exact ⟨fun _ => ⟨gvalid_zero.1 h, by omega⟩, fun _ => rfl⟩
  · rw [if_pos h]
    exact ⟨fun e => absurd e h, fun e => absurd (gvalid_zero.2 e.1) h⟩
/-- What the sorting asks. -/
def OkS' (g : Gr) : Prop := g.edges.length < 20 ∨ ∀ a b : Int, Go.Sj.Can.Srt (tyI g) (rawK g a b g.edges.length)
def codeR (g : Gr) : List Int × Int := if cvalid g ≠ 0 then ([], cvalid g) else (codG g, 0)
def rngB (g : Gr) (v : Int) : Bool := decide (v < 0) || decide ((g.nodes.length : Int) ≤ v)
def codeInE (g : Gr) (o : List Int) : Int := if cvalid g ≠ 0 then cvalid g else if o.length ≠ g.nodes.length then 20 else if o.any (rngB g) = true then 6 else if ¬ o.Nodup then 5 else 0
def codeInR (g : Gr) (o : List Int) : List Int × Int := if codeInE g o ≠ 0 then ([], codeInE g o) else (cd (nN g) (tT g) g.nodes.length o, 0)
theorem cvalid_spec (g : Gr) (hg : OkG g) : Pure Try.prog 39 [grA g] (AI (cvalid g)) := by
  have ln : (rowI g.nodes).length = g.nodes.length := by simp
  have s1 := gvalid_spec g hg
  unfold cvalid
  generalize gvalid g = e at *
  by_cases h : e = 0
  · subst h
    rw [if_neg (by decide)]
    by_cases h2 : 8 < g.nodes.length
    · rw [if_pos h2]
      refine a_enter Try.func39 (by kernel_rfl) rfl Try.ntmps39 rfl (by simp) ?_; refine a_seq ?_; refine a_reg ?_; (repeat (first | refine gZ pk ?_ | (show AL _ _ _ _ _ _ _; first | refine jB (fun u => ?_)))); refine a_frzBox 0 1 rfl rfl ?_
      repeat (first | refine gA pk ?_ | (show AL _ _ _ _ _ _ _; first | refine jP s1 ?_))
      refine finQ ?_
      exact ⟨rfl, rfl⟩
    · rw [if_neg h2]
      refine a_enter Try.func39 (by kernel_rfl) rfl Try.ntmps39 rfl (by simp) ?_; refine a_seq ?_; refine a_reg ?_; (repeat (first | refine gZ pk ?_ | (show AL _ _ _ _ _ _ _; first | refine jB (fun u => ?_)))); refine a_frzBox 0 1 rfl rfl ?_
      repeat (first | refine gA pk ?_ | (show AL _ _ _ _ _ _ _; first | refine jP s1 ?_))
      refine finQ ?_
      exact ⟨rfl, rfl⟩
  · rw [if_pos h]
    refine a_enter Try.func39 (by kernel_rfl) rfl Try.ntmps39 rfl (by simp) ?_; refine a_seq ?_; refine a_reg ?_; (repeat (first | refine gZ pk ?_ | (show AL _ _ _ _ _ _ _; first | refine jB (fun u => ?_)))); refine a_frzBox 0 1 rfl rfl ?_
    repeat (first | refine gA pk ?_ | (show AL _ _ _ _ _ _ _; first | refine jP s1 ?_))
    refine finQ ?_
    exact ⟨rfl, rfl⟩
theorem Code_spec (g : Gr) (hg : OkG g) (hs : cvalid g = 0 → OkS' g) : Pure Try.prog 18 [grA g] (.tup [ints (codeR g).1, AI (codeR g).2]) := by
  have s1 := cvalid_spec g hg
  unfold codeR
  by_cases h : cvalid g = 0
  · have hV := cvalid_zero.1 h
    have s2 := tabled_spec g hV.1 hV.2 (hs h)
    have s3 := best_spec g hV.1 hV.2
    rw [if_neg (Decidable.not_not.2 h)]
    rw [h] at s1
    generalize codG g = c at *
    generalize ordG g = o at *
    refine a_enter Try.func18 (by kernel_rfl) rfl Try.ntmps18 rfl (by simp) ?_; refine a_seq ?_; refine a_reg ?_; (repeat (first | refine gZ pk ?_ | (show AL _ _ _ _ _ _ _; first | refine jB (fun u => ?_)))); refine a_frzBox 0 1 rfl rfl ?_
    repeat (first | refine gA pk ?_ | (show AL _ _ _ _ _ _ _; first | refine jP s1 ?_ | refine jP s2 ?_ | refine jP s3 ?_))
    refine finQ ?_
    exact ⟨rfl, rfl⟩
  · rw [if_pos h]
    generalize cvalid g = e at *
    refine a_enter Try.func18 (by kernel_rfl) rfl Try.ntmps18 rfl (by simp) ?_; refine a_seq ?_; refine a_reg ?_; (repeat (first | refine gZ pk ?_ | (show AL _ _ _ _ _ _ _; first | refine jB (fun u => ?_)))); refine a_frzBox 0 1 rfl rfl ?_
    repeat (first | refine gA pk ?_ | (show AL _ _ _ _ _ _ _; first | refine jP s1 ?_))
    exact fin (x := .tup [.lit _, .lit _]) (.inr rfl) rfl (Sub.tup (l := [.lit (.slice none 0 0), AI e]) (m := [ints [], AI e]) ⟨Sub.nil 1, Sub.refl _, trivial⟩) ⟨rfl, rfl⟩ (OSub.none _)
theorem CodeIn1_spec (g : Gr) (hg : GV g) (v : Int) : Pure Try.prog 41 [AI v, grP g] (AB (rngB g v)) := by
  have ln : (rowI g.nodes).length = g.nodes.length := by simp
  have hl := hg.nl
  unfold rngB
  by_cases h1 : v < 0
  · rw [decide_eq_true h1, Bool.true_or]
    refine a_enter Try.func41 (by kernel_rfl) rfl Try.ntmps41 rfl (by simp) ?_
    repeat (first | refine gA pk ?_)
    refine finQ ?_
    exact ⟨rfl, rfl⟩
  · rw [decide_eq_false h1, Bool.false_or]
    by_cases h2 : (g.nodes.length : Int) ≤ v
    · rw [decide_eq_true h2]
      refine a_enter Try.func41 (by kernel_rfl) rfl Try.ntmps41 rfl (by simp) ?_
      repeat (first | refine gA pk ?_)
      refine finQ ?_
      exact ⟨rfl, rfl⟩
    · rw [decide_eq_false h2]
      refine a_enter Try.func41 (by kernel_rfl) rfl Try.ntmps41 rfl (by simp) ?_
      repeat (first | refine gA pk ?_)
      refine finQ ?_
      exact ⟨rfl, rfl⟩
theorem nodup_take {l : List Int} {k : Nat} {x : Int} (h : (l.take k).Nodup) (hx : l[k]? = some x) (hn : x ∉ l.take k) : (l.take (k + 1)).Nodup := by
  rw [List.take_add_one, hx]
  show (l.take k ++ [x]).Nodup
  rw [List.nodup_append]
  exact ⟨h, by simp, fun a ha b hb => by rw [List.mem_singleton] at hb; subst hb; intro e; subst e; exact hn ha⟩
theorem not_nodup {l : List Int} {k : Nat} {x : Int} (hx : l[k]? = some x) (hn : x ∈ l.take k) : ¬ l.Nodup := fun h => by
  obtain ⟨i, hi, he⟩ := List.mem_iff_getElem.1 hn
  obtain ⟨hk, hk'⟩ := List.getElem?_eq_some_iff.1 hx
  have hik : i < k := by rw [List.length_take] at hi; omega
  rw [List.getElem_take] at he
  have := (List.getElem_inj h).1 (he.trans hk'.symm)
  omega
theorem CodeIn_spec (g : Gr) (hg : OkG g) (hs : cvalid g = 0 → OkS' g) (o : List Int) (ho : o.length ≤ 1000000) : Pure Try.prog 13 [grA g, ints o] (.tup [ints (codeInR g o).1, AI (codeInR g o).2]) := by
  have s1 := cvalid_spec g hg
  have ln : (rowI g.nodes).length = g.nodes.length := by simp
  have lo : (rowI o).length = o.length := by simp
  obtain ⟨r, hr⟩ : ∃ r, codeInR g o = r := ⟨_, rfl⟩
  rw [hr]
  unfold codeInR codeInE at hr
  by_cases h : cvalid g = 0
  · have hV := cvalid_zero.1 h
    have hnl := hV.1.nl
    rw [if_neg (Decidable.not_not.2 h)] at hr
    rw [h] at s1
    by_cases h1 : o.length = g.nodes.length
    · rw [if_neg (Decidable.not_not.2 h1)] at hr
      have s2 := ContainsFuncI_spec o ho 41 [grP g] (rngB g) (fun v _ => CodeIn1_spec g hV.1 v)
      by_cases h2 : o.any (rngB g) = true
      · rw [if_pos h2, if_pos (by decide)] at hr
        subst hr
        rw [h2] at s2
        refine a_enter Try.func13 (by kernel_rfl) rfl Try.ntmps13 rfl (by simp) ?_; refine a_seq ?_; refine a_reg ?_; (repeat (first | refine gZ pk ?_ | (show AL _ _ _ _ _ _ _; first | refine jB (fun u => ?_)))); refine a_frzBox 0 2 rfl rfl ?_
        repeat (first | refine gA pk ?_ | (show AL _ _ _ _ _ _ _; first | refine jP s1 ?_ | refine jP s2 ?_))
        exact fin (x := .tup [.lit _, .lit _]) (.inr rfl) rfl (Sub.tup (l := [.lit (.slice none 0 0), AI 6]) (m := [ints [], AI 6]) ⟨Sub.nil 1, Sub.refl _, trivial⟩) ⟨rfl, rfl⟩ (OSub.none _)
      · have h2' : o.any (rngB g) = false := by simpa using h2
        rw [if_neg h2] at hr
        rw [h2'] at s2
        have hrg : ∀ x ∈ o, 0 ≤ x ∧ x < g.nodes.length := fun x hx => by
          have := List.any_eq_false.1 h2' x hx
          unfold rngB at this
          simp only [Bool.or_eq_true, decide_eq_true_eq, not_or] at this
          omega
        have hnd : ∀ x k, o[k]? = some x → x ∈ o.take k → r = ([], 5) := fun x k hx hn => by
          rw [if_pos (not_nodup hx hn), if_pos (by decide)] at hr
          exact hr.symm
        have hok : o.Nodup → r = (cd (nN g) (tT g) g.nodes.length o, 0) := fun hh => by
          rw [if_neg (Decidable.not_not.2 hh), if_neg (by decide)] at hr
          exact hr.symm
        have scn := fun (k : Nat) (x : Int) => ContainsV_spec (o.take k) (by rw [List.length_take]; omega) x
        have s3 := tabled_spec g hV.1 hV.2 (hs h)
        have s4 := fun hh : o.Nodup => code_spec g hV.1 hV.2 o ⟨⟨hh, hrg⟩, h1⟩
        clear hr
        refine a_enter Try.func13 (by kernel_rfl) rfl Try.ntmps13 rfl (by simp) ?_; refine a_seq ?_; refine a_reg ?_; (repeat (first | refine gZ pk ?_ | (show AL _ _ _ _ _ _ _; first | refine jB (fun u => ?_)))); refine a_frzBox 0 2 rfl rfl ?_
        repeat (first | refine gN pk ?_ | (show AL _ _ _ _ _ _ _; first | refine jP s1 ?_ | refine jP s2 ?_))
        rw [lo]
        refine a_loopX (fun k : Nat => [(1, ints o), (2, grP g), (23, ints o), (24, AI o.length), (25, AI k)]) (fun _ => []) (fun k => k ≤ o.length ∧ (o.take k).Nodup) (fun k => o.length - k) 0 ⟨Nat.zero_le _, by simp⟩ ?_ (OSub.none _) ?_
        · exact subQ
        · rintro k ⟨hk, hdk⟩
          rcases Nat.lt_or_ge k o.length with hl | hl
          · have hx := List.getElem?_eq_getElem hl
            generalize o[k] = x at hx
            have xk : (rowI o)[(k : Int).toNat]? = some [AI x] := map_get (f := cI) hx
            have s5 := scn k x
            have e : ints (o.take k) = .im 1 (((rowI o).take k).drop 0) := by rw [part_take]
            rw [e] at s5
            by_cases hn : x ∈ o.take k
            · rw [decide_eq_true hn] at s5
              have hr5 := hnd x k hx hn
              subst hr5
              repeat (first | refine gA pk ?_ | (show AL _ _ _ _ _ _ _; first | refine jX tok xk ?_ | refine s_slice tok (a := 0) (b := k) rfl rfl rfl rfl rfl rfl rfl rfl (by first | exact rfl | exact ⟨_, rfl⟩) (by first | exact rfl | exact ⟨_, rfl⟩) (by omega) (by omega) ?_ | refine jP s5 ?_))
              exact fin (x := .tup [.lit _, .lit _]) (.inr rfl) rfl (Sub.tup (l := [.lit (.slice none 0 0), AI 5]) (m := [ints [], AI 5]) ⟨Sub.nil 1, Sub.refl _, trivial⟩) ⟨rfl, rfl⟩ (OSub.none _)
            · rw [decide_eq_false hn] at s5
              have hd2 := nodup_take hdk hx hn
              repeat (first | refine gA pk ?_ | (show AL _ _ _ _ _ _ _; first | refine jX tok xk ?_ | refine s_slice tok (a := 0) (b := k) rfl rfl rfl rfl rfl rfl rfl rfl (by first | exact rfl | exact ⟨_, rfl⟩) (by first | exact rfl | exact ⟨_, rfl⟩) (by omega) (by omega) ?_ | refine jP s5 ?_))
              exact ⟨k + 1, ⟨by omega, hd2⟩, by omega, by exact subQ, OSub.none _⟩
          · obtain rfl : k = o.length := by omega
            rw [List.take_length] at hdk
            have s6 := s4 hdk
            have hr5 := hok hdk
            subst hr5
            generalize cd (nN g) (tT g) g.nodes.length o = c at *
            repeat (first | refine gA pk ?_ | (show AL _ _ _ _ _ _ _; first | refine jP s3 ?_ | refine jP s6 ?_))
            refine finQ ?_
            exact ⟨rfl, rfl⟩
    · rw [if_pos h1, if_pos (by decide)] at hr
      subst hr
      refine a_enter Try.func13 (by kernel_rfl) rfl Try.ntmps13 rfl (by simp) ?_; refine a_seq ?_; refine a_reg ?_; (repeat (first | refine gZ pk ?_ | (show AL _ _ _ _ _ _ _; first | refine jB (fun u => ?_)))); refine a_frzBox 0 2 rfl rfl ?_
      repeat (first | refine gA pk ?_ | (show AL _ _ _ _ _ _ _; first | refine jP s1 ?_))
      exact fin (x := .tup [.lit _, .lit _]) (.inr rfl) rfl (Sub.tup (l := [.lit (.slice none 0 0), AI 20]) (m := [ints [], AI 20]) ⟨Sub.nil 1, Sub.refl _, trivial⟩) ⟨rfl, rfl⟩ (OSub.none _)
  · rw [if_pos h, if_pos h] at hr
    subst hr
    generalize cvalid g = e at *
    refine a_enter Try.func13 (by kernel_rfl) rfl Try.ntmps13 rfl (by simp) ?_; refine a_seq ?_; refine a_reg ?_; (repeat (first | refine gZ pk ?_ | (show AL _ _ _ _ _ _ _; first | refine jB (fun u => ?_)))); refine a_frzBox 0 2 rfl rfl ?_
    repeat (first | refine gA pk ?_ | (show AL _ _ _ _ _ _ _; first | refine jP s1 ?_))
    exact fin (x := .tup [.lit _, .lit _]) (.inr rfl) rfl (Sub.tup (l := [.lit (.slice none 0 0), AI e]) (m := [ints [], AI e]) ⟨Sub.nil 1, Sub.refl _, trivial⟩) ⟨rfl, rfl⟩ (OSub.none _)
end Go.Proofs.Ytoaenbfidlgjhaa
