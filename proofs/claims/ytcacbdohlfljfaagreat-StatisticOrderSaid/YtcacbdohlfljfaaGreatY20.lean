/-
  Few: the walk.
-/
import Derived.Test.YtcacbdohlfljfaaGreatSjQ8
import Derived.Test.YtcacbdohlfljfaaGreatTy
import Derived.Test.YtcacbdohlfljfaaGreatSjQM
import Derived.Test.YtcacbdohlfljfaaGreatSjQ6
namespace Go.Proofs.YtcacbdohlfljfaaGreat
open Go.Sj Go.Sj.Typ
set_option linter.unusedVariables false
set_option maxHeartbeats 4000000

/-- Lengths as they can be. -/
def OkT (t : Tys) : Prop := ∀ n ∈ t.nodes, n.attrs.length ≤ 140737488355328
def AttO (a : Att) : Prop := a.name.size ≤ 40 ∧ a.names.length ≤ 25 ∧ ∀ s ∈ a.names, s.size ≤ 40
def NodO (n : Nod) : Prop := n.name.size ≤ 40 ∧ n.attrs.length ≤ 30 ∧ ∀ a ∈ n.attrs, AttO a
theorem take_allQ {α : Type} {p : α → Prop} {l : List α} {k : Nat} {x : α} (hx : l[k]? = some x) (h : ∀ y ∈ l.take k, p y) (hp : p x) : ∀ y ∈ l.take (k + 1), p y := by
  obtain ⟨hk, he⟩ := List.getElem?_eq_some_iff.1 hx
  intro y hy
  rw [List.take_succ_eq_append_getElem hk] at hy
  rcases List.mem_append.1 hy with h1 | h1
  · exact h y h1
  · obtain rfl := List.mem_singleton.1 h1
    rw [he]; exact hp
theorem Few_spec (t : Tys) (ht : OkT t) : ACalls Tryz.prog 11 [tysA t] [] (fun y L => (∃ b, y = AB b ∧ (b = true → Small t)) ∧ L = []) := by
  have ln : (t.nodes.map cNod).length = t.nodes.length := by simp
  have le : (t.edges.map cEdg).length = t.edges.length := by simp
  by_cases h1 : 20 < t.nodes.length ∨ 30 < t.edges.length
  · refine a_enter Tryz.func11 (by kernel_rfl) rfl Tryz.ntmps11 rfl (by simp) ?_; refine a_seq ?_; refine a_reg ?_; (repeat (first | refine gZ pk ?_ | (show AL _ _ _ _ _ _ _; first | refine jB (fun u => ?_)))); refine a_frzBox 0 1 rfl rfl ?_
    repeat' (first | refine gA pk ?_ | (show AL _ _ _ _ _ _ _; first | (refine s_cmp rfl rfl rfl rfl rfl rfl rfl (fun hb => ?_) (fun hb => ?_) <;> simp only [cmpP] at hb)) | fail)
    all_goals first | (exfalso; omega) | skip
    all_goals refine finQ ?_
    all_goals exact ⟨⟨false, rfl, by simp⟩, rfl⟩
  · refine a_enter Tryz.func11 (by kernel_rfl) rfl Tryz.ntmps11 rfl (by simp) ?_; refine a_seq ?_; refine a_reg ?_; (repeat (first | refine gZ pk ?_ | (show AL _ _ _ _ _ _ _; first | refine jB (fun u => ?_)))); refine a_frzBox 0 1 rfl rfl ?_
    repeat (first | refine gA pk ?_)
    refine a_loop2 (fun (i : Nat) (m : Int) => [(1, tysP t), (3, AI m), (4, AI i)]) (fun _ _ => []) (fun i m => i ≤ t.nodes.length ∧ (0 ≤ m ∧ m ≤ 30) ∧ ∀ n ∈ t.nodes.take i, NodO n) (fun i _ => t.nodes.length - i) 0 0 ⟨Nat.zero_le _, by omega, by simp⟩ ?_ (OSub.none _) ?_
    · exact subQ
    · rintro i m ⟨hi, ⟨hm0, hm1⟩, hinv⟩
      rcases Nat.lt_or_ge i t.nodes.length with h | h
      · have hx := List.getElem?_eq_getElem h
        have hat := ht _ (List.getElem_mem h)
        generalize t.nodes[i] = n at hx hat
        have xk : (t.nodes.map cNod)[(i : Int).toNat]? = some (cNod n) := map_get hx
        have la : (n.attrs.map cAtt).length = n.attrs.length := by simp
        by_cases h2 : 30 < m + n.attrs.length ∨ 40 < n.name.size
        · repeat' (first | refine gA pk ?_ | (show AL _ _ _ _ _ _ _; first | refine jX tok xk ?_ | (refine s_cmp rfl rfl rfl rfl rfl rfl rfl (fun hb => ?_) (fun hb => ?_) <;> simp only [cmpP] at hb)) | fail)
          all_goals first | (exfalso; omega) | skip
          all_goals refine finQ ?_
          all_goals exact ⟨⟨false, rfl, by simp⟩, rfl⟩
        · have h3 : m + n.attrs.length ≤ 30 := by omega
          repeat (first | refine gA pk ?_ | (show AL _ _ _ _ _ _ _; first | refine jX tok xk ?_))
          refine a_loopX (fun k : Nat => [(1, tysP t), (3, AI (m + (n.attrs.map cAtt).length)), (4, AI i), (5, AI k)]) (fun _ => []) (fun k => k ≤ n.attrs.length ∧ ∀ a ∈ n.attrs.take k, AttO a) (fun k => n.attrs.length - k) 0 ⟨Nat.zero_le _, by simp⟩ ?_ (OSub.none _) ?_
          · exact subQ
          · rintro k ⟨hk, hinv2⟩
            rcases Nat.lt_or_ge k n.attrs.length with h' | h'
            · have hy := List.getElem?_eq_getElem h'
              generalize n.attrs[k] = a at hy
              have yk : (n.attrs.map cAtt)[(k : Int).toNat]? = some (cAtt a) := map_get hy
              have lnm : (a.names.map cS).length = a.names.length := by simp
              by_cases h4 : 40 < a.name.size ∨ 25 < a.names.length
              · repeat' (first | refine gA pk ?_ | (show AL _ _ _ _ _ _ _; first | refine jX tok xk ?_ | refine jX tok yk ?_ | refine jL tok (fun u => ?_) | refine jS tok 0 ?_ | refine jO tok 0 ?_ | (refine s_cmp rfl rfl rfl rfl rfl rfl rfl (fun hb => ?_) (fun hb => ?_) <;> simp only [cmpP] at hb)) | fail)
                all_goals first | (exfalso; omega) | skip
                all_goals refine finQ ?_
                all_goals exact ⟨⟨false, rfl, by simp⟩, rfl⟩
              · (repeat (first | refine a_seq ?_ | refine a_block ?_)); refine a_reg ?_
                repeat (first | refine gZ pk ?_ | (show AL _ _ _ _ _ _ _; first | refine jX tok xk ?_))
                (repeat (first | refine a_seq ?_ | refine a_block ?_)); refine a_reg ?_
                repeat (first | refine gZ pk ?_ | (show AL _ _ _ _ _ _ _; first | refine jX tok xk ?_ | refine jX tok yk ?_ | refine jL tok (fun u => ?_) | refine jS tok 0 ?_))
                refine a_frzBox 0 6 rfl rfl ?_
                repeat (first | refine gA pk ?_)
                refine a_loopX (fun j : Nat => [(1, tysP t), (3, AI (m + (n.attrs.map cAtt).length)), (4, AI i), (5, AI k), (6, .ip (cAtt a)), (7, AI j)]) (fun _ => []) (fun j => j ≤ a.names.length ∧ ∀ s ∈ a.names.take j, s.size ≤ 40) (fun j => a.names.length - j) 0 ⟨Nat.zero_le _, by simp⟩ ?_ (OSub.none _) ?_
                · exact subQ
                · rintro j ⟨hj, hinv3⟩
                  rcases Nat.lt_or_ge j a.names.length with h5 | h5
                  · have hz := List.getElem?_eq_getElem h5
                    generalize a.names[j] = s at hz
                    have zk : (a.names.map cS)[(j : Int).toNat]? = some (cS s) := map_get hz
                    by_cases h6 : 40 < s.size
                    · repeat (first | refine gA pk ?_ | (show AL _ _ _ _ _ _ _; first | refine jX tok zk ?_))
                      refine finQ ?_
                      exact ⟨⟨false, rfl, by simp⟩, rfl⟩
                    · repeat (first | refine gA pk ?_ | (show AL _ _ _ _ _ _ _; first | refine jX tok zk ?_))
                      exact ⟨j + 1, ⟨by omega, take_allQ hz hinv3 (by omega)⟩, by omega, by exact subQ, OSub.none _⟩
                  · obtain rfl : j = a.names.length := by omega
                    rw [List.take_length] at hinv3
                    repeat (first | refine gA pk ?_)
                    exact ⟨k + 1, ⟨by omega, take_allQ hy hinv2 ⟨by omega, by omega, hinv3⟩⟩, by omega, by exact subQ, OSub.none _⟩
            · obtain rfl : k = n.attrs.length := by omega
              rw [List.take_length] at hinv2
              repeat (first | refine gA pk ?_ | (show AL _ _ _ _ _ _ _; first | refine jX tok xk ?_))
              exact ⟨i + 1, m + ((n.attrs.map cAtt).length : Int), ⟨by omega, by omega, take_allQ hx hinv ⟨by omega, by omega, hinv2⟩⟩, by omega, by exact subQ, OSub.none _⟩
      · obtain rfl : i = t.nodes.length := by omega
        rw [List.take_length] at hinv
        repeat (first | refine gA pk ?_)
        refine a_loopX (fun i : Nat => [(1, tysP t), (8, AI i)]) (fun _ => []) (fun i => i ≤ t.edges.length ∧ ∀ n ∈ t.edges.take i, n.name.size ≤ 40) (fun i => t.edges.length - i) 0 ⟨Nat.zero_le _, by simp⟩ ?_ (OSub.none _) ?_
        · exact subQ
        · rintro i ⟨hi, hinv2⟩
          rcases Nat.lt_or_ge i t.edges.length with h' | h'
          · have hx := List.getElem?_eq_getElem h'
            generalize t.edges[i] = n at hx
            have xk : (t.edges.map cEdg)[(i : Int).toNat]? = some (cEdg n) := map_get hx
            by_cases h2 : 40 < n.name.size
            · repeat (first | refine gA pk ?_ | (show AL _ _ _ _ _ _ _; first | refine jX tok xk ?_))
              refine finQ ?_
              exact ⟨⟨false, rfl, by simp⟩, rfl⟩
            · repeat (first | refine gA pk ?_ | (show AL _ _ _ _ _ _ _; first | refine jX tok xk ?_))
              exact ⟨i + 1, ⟨by omega, take_allQ hx hinv2 (by omega)⟩, by omega, by exact subQ, OSub.none _⟩
          · obtain rfl : i = t.edges.length := by omega
            rw [List.take_length] at hinv2
            repeat (first | refine gA pk ?_)
            refine finQ ?_
            exact ⟨⟨true, rfl, fun _ => ⟨by omega, by omega, hinv, hinv2⟩⟩, rfl⟩
end Go.Proofs.YtcacbdohlfljfaaGreat
