/-
  Parts of the proof of the law IncrementalNew (texts Y20, W54): steps, plain mathematics, contracts of functions. Each theorem states its own conditions.
-/
import Derived.Test.YtddohheabpiljaaGreatA07
import Derived.Test.YtddohheabpiljaaGreatA09
import Derived.Test.YtddohheabpiljaaGreatA10
import Derived.Test.YtddohheabpiljaaGreatA11
import Derived.Test.YtddohheabpiljaaGreatA43
section
/-
  Few: the walk.
-/
namespace Go.Proofs.YtddohheabpiljaaGreat
open Go.Sj Go.Sj.Typ
set_option maxRecDepth 8000
set_option linter.unusedVariables false
set_option maxHeartbeats 4000000

/-- Lengths as they can be. -/
def OkT (t : Tys) : Prop := ∀ n ∈ t.nodes, n.attrs.length ≤ 140737488355328
def AttO (a : Att) : Prop := a.name.size ≤ 40 ∧ a.names.length ≤ 25 ∧ ∀ s ∈ a.names, s.size ≤ 40
def NodO (n : Nod) : Prop := n.name.size ≤ 40 ∧ n.attrs.length ≤ 30 ∧ ∀ a ∈ n.attrs, AttO a
theorem take_allQ {α : Type} {p : α → Prop} {l : List α} {k : Nat} {x : α} (hx : l[k]? = some x) (h : ∀ y ∈ l.take k, p y) (hp : p x) : ∀ y ∈ l.take (k + 1), p y := by
  obtain ⟨hk, he⟩ := List.getElem?_eq_some_iff.1 hx
  intro y hy
  rw [List.take_succ_eq_append_getElem hk] at hy
  rcases List.mem_append.1 hy with h1 | h1
  · exact h y h1
  · obtain rfl := List.mem_singleton.1 h1
    rw [he]; exact hp
theorem Few_spec (t : Tys) (ht : OkT t) : ACalls Tryz.prog 56 [tysA t] [] (fun y L => (∃ b, y = AB b ∧ (b = true → Small t)) ∧ L = []) := by
  have ln : (t.nodes.map cNod).length = t.nodes.length := by simp
  have le : (t.edges.map cEdg).length = t.edges.length := by simp
  by_cases h1 : 20 < t.nodes.length ∨ 30 < t.edges.length
  · refine a_enter Tryz.func56 (by kernel_rfl) rfl Tryz.ntmps56 rfl (by simp) ?_; refine a_seq ?_; refine a_reg ?_; (repeat (first | refine gZ pk ?_ | (show AL _ _ _ _ _ _ _; first | refine jB (fun u => ?_)))); refine a_frzBox 0 1 rfl rfl ?_
    repeat' (first | refine gA pk ?_ | (show AL _ _ _ _ _ _ _; first | (refine s_cmp rfl rfl rfl rfl rfl rfl rfl (fun hb => ?_) (fun hb => ?_) <;> simp only [cmpP] at hb)) | fail)
    all_goals first | (exfalso; omega) | skip
    all_goals refine finQ ?_
    all_goals exact ⟨⟨false, rfl, by simp⟩, rfl⟩
  · refine a_enter Tryz.func56 (by kernel_rfl) rfl Tryz.ntmps56 rfl (by simp) ?_; refine a_seq ?_; refine a_reg ?_; (repeat (first | refine gZ pk ?_ | (show AL _ _ _ _ _ _ _; first | refine jB (fun u => ?_)))); refine a_frzBox 0 1 rfl rfl ?_
    repeat (first | refine gA pk ?_)
    refine a_loop2 (fun (i : Nat) (m : Int) => [(1, tysP t), (3, AI m), (4, AI i)]) (fun _ _ => []) (fun i m => i ≤ t.nodes.length ∧ (0 ≤ m ∧ m ≤ 30) ∧ ∀ n ∈ t.nodes.take i, NodO n) (fun i _ => t.nodes.length - i) 0 0 ⟨Nat.zero_le _, by omega, by simp⟩ ?_ (OSub.none _) ?_
    · exact subQ
    · rintro i m ⟨hi, ⟨hm0, hm1⟩, hinv⟩
      rcases Nat.lt_or_ge i t.nodes.length with h | h
      · have hx := List.getElem?_eq_getElem h
        have hat := ht _ (List.getElem_mem h)
        generalize t.nodes[i] = n at hx hat
        have xk : (t.nodes.map cNod)[(i : Int).toNat]? = some (cNod n) := map_get hx
        have la : (n.attrs.map cAtt).length = n.attrs.length := by simp
        by_cases h2 : 30 < m + n.attrs.length ∨ 40 < n.name.size
        · repeat' (first | refine gA pk ?_ | (show AL _ _ _ _ _ _ _; first | refine jX tok xk ?_ | (refine s_cmp rfl rfl rfl rfl rfl rfl rfl (fun hb => ?_) (fun hb => ?_) <;> simp only [cmpP] at hb)) | fail)
          all_goals first | (exfalso; omega) | skip
          all_goals refine finQ ?_
          all_goals exact ⟨⟨false, rfl, by simp⟩, rfl⟩
        · have h3 : m + n.attrs.length ≤ 30 := by omega
          repeat (first | refine gA pk ?_ | (show AL _ _ _ _ _ _ _; first | refine jX tok xk ?_))
          refine a_loopX (fun k : Nat => [(1, tysP t), (3, AI (m + (n.attrs.map cAtt).length)), (4, AI i), (5, AI k)]) (fun _ => []) (fun k => k ≤ n.attrs.length ∧ ∀ a ∈ n.attrs.take k, AttO a) (fun k => n.attrs.length - k) 0 ⟨Nat.zero_le _, by simp⟩ ?_ (OSub.none _) ?_
          · exact subQ
          · rintro k ⟨hk, hinv2⟩
            rcases Nat.lt_or_ge k n.attrs.length with h' | h'
            · have hy := List.getElem?_eq_getElem h'
              generalize n.attrs[k] = a at hy
              have yk : (n.attrs.map cAtt)[(k : Int).toNat]? = some (cAtt a) := map_get hy
              have lnm : (a.names.map cS).length = a.names.length := by simp
              by_cases h4 : 40 < a.name.size ∨ 25 < a.names.length
              · repeat' (first | refine gA pk ?_ | (show AL _ _ _ _ _ _ _; first | refine jX tok xk ?_ | refine jX tok yk ?_ | refine jL tok (fun u => ?_) | refine jS tok 0 ?_ | refine jO tok 0 ?_ | (refine s_cmp rfl rfl rfl rfl rfl rfl rfl (fun hb => ?_) (fun hb => ?_) <;> simp only [cmpP] at hb)) | fail)
                all_goals first | (exfalso; omega) | skip
                all_goals refine finQ ?_
                all_goals exact ⟨⟨false, rfl, by simp⟩, rfl⟩
              · (repeat (first | refine a_seq ?_ | refine a_block ?_)); refine a_reg ?_
                repeat (first | refine gZ pk ?_ | (show AL _ _ _ _ _ _ _; first | refine jX tok xk ?_))
                (repeat (first | refine a_seq ?_ | refine a_block ?_)); refine a_reg ?_
                repeat (first | refine gZ pk ?_ | (show AL _ _ _ _ _ _ _; first | refine jX tok xk ?_ | refine jX tok yk ?_ | refine jL tok (fun u => ?_) | refine jS tok 0 ?_))
                refine a_frzBox 0 6 rfl rfl ?_
                repeat (first | refine gA pk ?_)
                refine a_loopX (fun j : Nat => [(1, tysP t), (3, AI (m + (n.attrs.map cAtt).length)), (4, AI i), (5, AI k), (6, .ip (cAtt a)), (7, AI j)]) (fun _ => []) (fun j => j ≤ a.names.length ∧ ∀ s ∈ a.names.take j, s.size ≤ 40) (fun j => a.names.length - j) 0 ⟨Nat.zero_le _, by simp⟩ ?_ (OSub.none _) ?_
                · exact subQ
                · rintro j ⟨hj, hinv3⟩
                  rcases Nat.lt_or_ge j a.names.length with h5 | h5
                  · have hz := List.getElem?_eq_getElem h5
                    generalize a.names[j] = s at hz
                    have zk : (a.names.map cS)[(j : Int).toNat]? = some (cS s) := map_get hz
                    by_cases h6 : 40 < s.size
                    · repeat (first | refine gA pk ?_ | (show AL _ _ _ _ _ _ _; first | refine jX tok zk ?_))
                      refine finQ ?_
                      exact ⟨⟨false, rfl, by simp⟩, rfl⟩
                    · repeat (first | refine gA pk ?_ | (show AL _ _ _ _ _ _ _; first | refine jX tok zk ?_))
                      exact ⟨j + 1, ⟨by omega, take_allQ hz hinv3 (by omega)⟩, by omega, by exact subQ, OSub.none _⟩
                  · obtain rfl : j = a.names.length := by omega
                    rw [List.take_length] at hinv3
                    repeat (first | refine gA pk ?_)
                    exact ⟨k + 1, ⟨by omega, take_allQ hy hinv2 ⟨by omega, by omega, hinv3⟩⟩, by omega, by exact subQ, OSub.none _⟩
            · obtain rfl : k = n.attrs.length := by omega
              rw [List.take_length] at hinv2
              repeat (first | refine gA pk ?_ | (show AL _ _ _ _ _ _ _; first | refine jX tok xk ?_))
              exact ⟨i + 1, m + ((n.attrs.map cAtt).length : Int), ⟨by omega, by omega, take_allQ hx hinv ⟨by omega, by omega, hinv2⟩⟩, by omega, by exact subQ, OSub.none _⟩
      · obtain rfl : i = t.nodes.length := by omega
        rw [List.take_length] at hinv
        repeat (first | refine gA pk ?_)
        refine a_loopX (fun i : Nat => [(1, tysP t), (8, AI i)]) (fun _ => []) (fun i => i ≤ t.edges.length ∧ ∀ n ∈ t.edges.take i, n.name.size ≤ 40) (fun i => t.edges.length - i) 0 ⟨Nat.zero_le _, by simp⟩ ?_ (OSub.none _) ?_
        · exact subQ
        · rintro i ⟨hi, hinv2⟩
          rcases Nat.lt_or_ge i t.edges.length with h' | h'
          · have hx := List.getElem?_eq_getElem h'
            generalize t.edges[i] = n at hx
            have xk : (t.edges.map cEdg)[(i : Int).toNat]? = some (cEdg n) := map_get hx
            by_cases h2 : 40 < n.name.size
            · repeat (first | refine gA pk ?_ | (show AL _ _ _ _ _ _ _; first | refine jX tok xk ?_))
              refine finQ ?_
              exact ⟨⟨false, rfl, by simp⟩, rfl⟩
            · repeat (first | refine gA pk ?_ | (show AL _ _ _ _ _ _ _; first | refine jX tok xk ?_))
              exact ⟨i + 1, ⟨by omega, take_allQ hx hinv2 (by omega)⟩, by omega, by exact subQ, OSub.none _⟩
          · obtain rfl : i = t.edges.length := by omega
            rw [List.take_length] at hinv2
            repeat (first | refine gA pk ?_)
            refine finQ ?_
            exact ⟨⟨true, rfl, fun _ => ⟨by omega, by omega, hinv, hinv2⟩⟩, rfl⟩
end Go.Proofs.YtddohheabpiljaaGreat

end
section
/-
  Watches: what is small (reference).
-/
namespace Go.Proofs.YtddohheabpiljaaGreat
open Go.Sj Go.Sj.Typ Go.Sj.Sta Go.Sj.Inc
set_option maxRecDepth 8000
set_option linter.unusedVariables false
set_option linter.unusedSimpArgs false
set_option maxHeartbeats 16000000

theorem light17_spec (t : Tys) (ht : OkT t) (p g : Gr) (hp : OkG p) (hg : OkG g) : Go.Sj.ACalls Tryz.prog 32 [tysA t, grA p, grA g] [] (fun y L => (∃ b, y = AB b ∧ (b = true → Small t)) ∧ L = []) := by
  have s1 := Few_spec t ht
  have s2 := gfew_spec p
  have s3 := gfew_spec g
  have s4 := fun (hs : Small t) => ggiven_spec t hs p g hp hg
  have lp := hp.1
  have lp2 := hp.2
  have lg := hg.1
  have lg2 := hg.2
  generalize decide (p.nodes.length ≤ 45 ∧ p.edges.length ≤ 90) = b2 at *
  generalize decide (g.nodes.length ≤ 45 ∧ g.edges.length ≤ 90) = b3 at *
  generalize validS t p g = e at *
  obtain ⟨pn, pe⟩ := p
  obtain ⟨gn, ge⟩ := g
  simp only at lp lp2 lg lg2
  have l1 : (rowI pn).length = pn.length := by simp
  have l2 : (pe.map cEd).length = pe.length := by simp
  have l3 : (rowI gn).length = gn.length := by simp
  have l4 : (ge.map cEd).length = ge.length := by simp
  change Pure _ _ [.agg [ints pn, edsA pe]] _ at s2
  change Pure _ _ [.agg [ints gn, edsA ge]] _ at s3
  change ∀ _, Pure _ _ [tysA t, .agg [ints pn, edsA pe], .agg [ints gn, edsA ge]] _ at s4
  change Go.Sj.ACalls _ _ [tysA t, .agg [ints pn, edsA pe], .agg [ints gn, edsA ge]] _ _
  refine a_enter Tryz.func32 (by kernel_rfl) rfl Tryz.ntmps32 rfl (by simp) ?_
  refine a_seq ?_
  refine a_reg ?_
  repeat (first | refine gZ pk ?_ | (show AL _ _ _ _ _ _ _; first | refine jB (fun u => ?_)))
  refine a_frzBox 2 3 rfl rfl ?_
  refine a_frzBox 1 4 rfl rfl ?_
  refine a_frzBox 0 5 rfl rfl ?_
  repeat (first | refine gN pk ?_ | (show AL _ _ _ _ _ _ _; first | refine s_call (Lc := []) (Lr := []) rfl rfl rfl rfl rfl s1 (SubL.of_eq rfl) (List.Perm.refl _) ?_; rintro _ _ ⟨⟨b1, rfl, hb1⟩, rfl⟩))
  cases b1 with
  | false =>
    repeat (first | refine gA pk ?_)
    exact fin (x := .lit _) (.inr rfl) rfl (Sub.refl _) ⟨⟨_, rfl, fun h => (by cases h)⟩, rfl⟩ (OSub.none _)
  | true =>
    have hs := hb1 rfl
    replace s4 := s4 hs
    cases b2
    all_goals cases b3
    all_goals
      repeat' (first | refine gA pk ?_ | (show AL _ _ _ _ _ _ _; first | refine jP s2 ?_ | refine jP s3 ?_ | refine jP s4 ?_ | (refine s_cmp rfl rfl rfl rfl rfl rfl rfl (fun hb => ?_) (fun hb => ?_) <;> simp only [cmpP] at hb)) | fail)
      all_goals exact fin (x := .lit _) (.inr rfl) rfl (Sub.refl _) ⟨⟨_, rfl, fun _ => hs⟩, rfl⟩ (OSub.none _)
theorem calls_subA {P : Program} {f : FuncId} {args args' : List AV} {L : Own} {R : AV → Own → Prop} (h : Go.Sj.ACalls P f args L R) (hs : SubL args' args) : Go.Sj.ACalls P f args' L R :=
  ⟨h.ok, fun σ F w vs a b => h.out σ F w vs a (hs.vrs b)⟩
theorem light20_spec (t : Tys) (ht : OkT t) (ps : List Gr) (g : Gr) (hps : ∀ p ∈ ps, OkG p) (hl : ps.length ≤ 140737488355328) (hg : OkG g) : Go.Sj.ACalls Tryz.prog 11 [tysA t, grsA ps, grA g] [] (fun y L => (∃ b, y = AB b ∧ (b = true → Small t)) ∧ L = []) := by
  have s0   := calls_subA (light17_spec t ht ⟨[], []⟩ g ⟨by decide, by decide⟩ hg) (args' := [tysA t, .agg [nilS, nilS], grA g]) ⟨Sub.refl _, Sub.agg (m := [ints [], edsA []]) ⟨Sub.nil 1, Sub.nil 3, trivial⟩, Sub.refl _, trivial⟩
  have sp := fun (p : Gr) (hp : p ∈ ps) => light17_spec t ht p g (hps p hp) hg
  have lps : (ps.map cGr).length = ps.length := by simp
  obtain ⟨gn, ge⟩ := g
  change Go.Sj.ACalls _ _ [tysA t, .agg [nilS, nilS], .agg [ints gn, edsA ge]] _ _ at s0
  change Go.Sj.ACalls _ _ [tysA t, grsA ps, .agg [ints gn, edsA ge]] _ _
  by_cases h7 : 7 < ps.length
  · refine a_enter Tryz.func11 (by kernel_rfl) rfl Tryz.ntmps11 rfl (by simp) ?_
    refine a_seq ?_
    refine a_reg ?_
    repeat (first | refine gZ pk ?_ | (show AL _ _ _ _ _ _ _; first | refine jB (fun u => ?_)))
    refine a_frzBox 1 3 rfl rfl ?_
    refine a_frzBox 0 5 rfl rfl ?_
    repeat (first | refine gA pk ?_)
    exact fin (x := .lit _) (.inr rfl) rfl (Sub.refl _) ⟨⟨_, rfl, fun h => (by cases h)⟩, rfl⟩ (OSub.none _)
  · refine a_enter Tryz.func11 (by kernel_rfl) rfl Tryz.ntmps11 rfl (by simp) ?_
    refine a_seq ?_
    refine a_reg ?_
    repeat (first | refine gZ pk ?_ | (show AL _ _ _ _ _ _ _; first | refine jB (fun u => ?_)))
    refine a_frzBox 1 3 rfl rfl ?_
    refine a_frzBox 0 5 rfl rfl ?_
    repeat (first | refine gN pk ?_ | (show AL _ _ _ _ _ _ _; first | refine s_call (Lc := []) (Lr := []) rfl rfl rfl rfl rfl s0 (SubL.of_eq rfl) (List.Perm.refl _) ?_; rintro _ _ ⟨⟨b1, rfl, hb1⟩, rfl⟩))
    cases b1 with
    | false =>
      repeat (first | refine gA pk ?_)
      exact fin (x := .lit _) (.inr rfl) rfl (Sub.refl _) ⟨⟨_, rfl, fun h => (by cases h)⟩, rfl⟩ (OSub.none _)
    | true =>
      have hs := hb1 rfl
      repeat (first | refine gA pk ?_)
      refine a_loopX (fun k : Nat => [(1, grsA ps), (3, tysP t), (5, .ip [ints gn, edsA ge]), (7, AI k)]) (fun _ => []) (fun k => k ≤ ps.length) (fun k => ps.length - k) 0 (Nat.zero_le _) ?_ (OSub.none _) ?_
      · exact subQ
      · intro k hk
        rcases Nat.lt_or_ge k ps.length with h | h
        · have h1 := List.getElem?_eq_getElem h
          have s1 := sp _ (List.getElem_mem h)
          have hpo := hps _ (List.getElem_mem h)
          generalize ps[k] = p at h1 s1 hpo
          have xk : (ps.map cGr)[(k : Int).toNat]? = some (cGr p) := map_get (f := cGr) h1
          have q1 := hpo.1
          have q2 := hpo.2
          obtain ⟨pn, pe⟩ := p
          simp only at q1 q2
          have l1 : (rowI pn).length = pn.length := by simp
          have l2 : (pe.map cEd).length = pe.length := by simp
          have xk : (ps.map cGr)[(k : Int).toNat]? = some [ints pn, edsA pe] := xk
          change Go.Sj.ACalls _ _ [tysA t, .agg [ints pn, edsA pe], .agg [ints gn, edsA ge]] _ _ at s1
          repeat (first | refine gN pk ?_)
          refine a_regG ((List.range 24).map fun i => if inL [6] i = true then .eff else if inL [0, 3, 4, 5, 11, 13, 14, 17, 19, 20] i = true then .read else .pure) [] [0, 1, 2, 3, 4, 5, 6, 7, 8, 9, 10, 11, 12, 13, 14, 15, 16, 17, 18, 19, 20, 21, 22, 23] .stop mixed rfl rfl (by decide +kernel) ?_
          repeat' (first | (with_reducible show AG _ _ _ _ _ _ _ _ _ _; first | exact ag_none | refine ag_stop ?_ | refine ag_nd ?_ ?_) | (show AMid _ _ _ _; first | refine amid_f ?_ | refine amid_g (by first | exact OSub.refl _ | exact .drop (OSub.refl _) | exact .drop (.drop (OSub.refl _))) ?_) | refine gY pk ?_ | (show AL _ _ _ _ _ _ _; first | refine jX tok xk ?_ | refine s_call (Lc := []) (Lr := []) rfl rfl rfl rfl rfl s1 (SubL.of_eq rfl) (List.Perm.refl _) ?_; rintro _ _ ⟨⟨b2, rfl, -⟩, rfl⟩) | fail)
          cases b2 with
          | false =>
            repeat' (first | (with_reducible show AG _ _ _ _ _ _ _ _ _ _; first | exact ag_none | refine ag_stop ?_ | refine ag_nd ?_ ?_) | (show AMid _ _ _ _; first | refine amid_f ?_ | refine amid_g (by first | exact OSub.refl _ | exact .drop (OSub.refl _) | exact .drop (.drop (OSub.refl _))) ?_) | refine gY pk ?_ | (show AL _ _ _ _ _ _ _; first | refine jX tok xk ?_) | fail)
            repeat (first | refine gA pk ?_)
            exact fin (x := .lit _) (.inr rfl) rfl (Sub.refl _) ⟨⟨_, rfl, fun h => (by cases h)⟩, rfl⟩ (OSub.none _)
          | true =>
            by_cases h5 : 5 < pn.length + pe.length
            · repeat' (first | (with_reducible show AG _ _ _ _ _ _ _ _ _ _; first | exact ag_none | refine ag_stop ?_ | refine ag_nd ?_ ?_) | (show AMid _ _ _ _; first | refine amid_f ?_ | refine amid_g (by first | exact OSub.refl _ | exact .drop (OSub.refl _) | exact .drop (.drop (OSub.refl _))) ?_) | refine gY pk ?_ | (show AL _ _ _ _ _ _ _; first | refine jX tok xk ?_) | fail)
              repeat (first | refine gA pk ?_)
              exact fin (x := .lit _) (.inr rfl) rfl (Sub.refl _) ⟨⟨_, rfl, fun h => (by cases h)⟩, rfl⟩ (OSub.none _)
            · repeat' (first | (with_reducible show AG _ _ _ _ _ _ _ _ _ _; first | exact ag_none | refine ag_stop ?_ | refine ag_nd ?_ ?_) | (show AMid _ _ _ _; first | refine amid_f ?_ | refine amid_g (by first | exact OSub.refl _ | exact .drop (OSub.refl _) | exact .drop (.drop (OSub.refl _))) ?_) | refine gY pk ?_ | (show AL _ _ _ _ _ _ _; first | refine jX tok xk ?_) | fail)
              repeat (first | refine gA pk ?_)
              exact ⟨k + 1, by omega, by omega, by exact subQ, OSub.none _⟩
        · repeat (first | refine gA pk ?_)
          exact fin (x := .lit _) (.inr rfl) rfl (Sub.refl _) ⟨⟨_, rfl, fun _ => hs⟩, rfl⟩ (OSub.none _)
end Go.Proofs.YtddohheabpiljaaGreat

end
