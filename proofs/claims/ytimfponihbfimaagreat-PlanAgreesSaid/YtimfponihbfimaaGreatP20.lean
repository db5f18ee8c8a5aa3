/- Parts of a proof. -/
import Derived.Test.YtimfponihbfimaaGreatP19
set_option linter.unusedVariables false
set_option linter.unusedSimpArgs false
section
namespace Go.Proofs.YtimfponihbfimaaGreat
open Go.Sj Go.Sj.Typ
set_option maxRecDepth 8000
set_option maxHeartbeats 4000000
theorem attrsOf_mem {ns : List Nod} {i : Int} {a : Att} (h : a ∈ attrsOf ns i) : ∃ n ∈ ns, a ∈ n.attrs := by
  simp only [attrsOf, List.mem_flatten, List.mem_map, List.mem_reverse] at h
  obtain ⟨l, ⟨x, hx, rfl⟩, ha⟩ := h
  unfold ownA at ha
  cases hn : ns[x.toNat]? with
  | none => rw [hn] at ha; cases ha
  | some n => rw [hn] at ha; exact ⟨n, List.mem_of_getElem? hn, ha⟩
theorem attS_of {t : Tys} (ht : Small t) {i : Int} : ∀ a ∈ attrsOf t.nodes i, AttS a := fun a ha => by
  obtain ⟨n, hn, han⟩ := attrsOf_mem ha
  obtain ⟨h1, h2, h3⟩ := (ht.node n hn).2.2 a han
  exact ⟨by omega, by omega, fun s hs => by have := h3 s hs; omega⟩
theorem attAt_eq {all : List Att} {k : Nat} {a : Att} (h : all[k]? = some a) : attAt all k = attrE a (all.take k) := by simp only [attAt, h]
theorem nodeE_eq {ns : List Nod} {i : Nat} {n : Nod} (h : ns[i]? = some n) : nodeE ns i = (if nameB n.name = false then 2 else if ((ns.take i).any fun m => decide (m.name = n.name)) = true then 5 else if n.par < -1 ∨ (i : Int) ≤ n.par then 6 else if 4 < n.attrs.length then 3
    else if 8 < (attrsOf ns i).length then 3
    else firstN (fun j => attAt (attrsOf ns i) ((attrsOf ns i).length - n.attrs.length + j)) n.attrs.length) := by simp only [nodeE, h]
theorem pr_succ {ns : List Nod} {k : Nat} {n : Nod} (h : PR ns k) (hn : ns[k]? = some n) (hp : ¬ (n.par < -1 ∨ (k : Int) ≤ n.par)) : PR ns (k + 1) := fun i m hi hm => by
  rcases Nat.lt_or_ge i k with h1 | h1
  · exact h i m h1 hm
  · obtain rfl : i = k := by omega
    rw [hn] at hm
    cases hm
    omega
theorem node1_spec (m n : Nod) : Pure Tryz.prog 184 [.agg (cNod m), .ip (cNod n)] (AB (decide (m.name = n.name))) := by
  refine zen Tryz.func184 (by kernel_rfl) rfl Tryz.ntmps184 rfl (by simp) ?_; refine a_seq ?_; refine a_reg ?_; (repeat (first | refine gZ pk ?_ | (show AL _ _ _ _ _ _ _; first | refine jB (fun u => ?_)))); refine zfb 0 2 rfl rfl ?_
  repeat' (first | refine gA pk ?_ | (show AL _ _ _ _ _ _ _; first | refine s_strEqB rfl rfl rfl rfl rfl rfl (fun hb => ?_) (fun hb => ?_) | (refine s_cmp rfl rfl rfl rfl rfl rfl rfl (fun hb => ?_) (fun hb => ?_) <;> simp only [cmpP] at hb)) | fail)
  · refine finQ ?_
    exact ⟨ABt hb, rfl⟩
  · refine finQ ?_
    exact ⟨ABf hb, rfl⟩
theorem node_spec (t : Tys) (ht : Small t) (i : Nat) (hi : i < t.nodes.length) (hp : PR t.nodes i) : Pure Tryz.prog 161 [tysA t, AI i] (AI (nodeE t.nodes i)) := by
  have hx := List.getElem?_eq_getElem hi
  have hn := ht.node _ (List.getElem_mem hi)
  generalize t.nodes[i] = n at hx hn
  have hnl := ht.nodes
  have xk : (t.nodes.map cNod)[(i : Int).toNat]? = some (cNod n) := zmp hx
  have ln : (t.nodes.map cNod).length = t.nodes.length := by simp
  have la : (n.attrs.map cAtt).length = n.attrs.length := by simp
  have s1 := IsName_spec n.name (by omega)
  have s2 : Pure Tryz.prog 183 [.im 4 (((t.nodes.map cNod).take i).drop 0), .fn (.func 184) [] [.ip (cNod n)]] (AB ((t.nodes.take i).any fun m => decide (m.name = n.name))) := by
    rw [List.drop_zero, ← List.map_take]
    exact ContainsFuncN_spec _ (by simp; omega) _ _ _ (fun x _ => node1_spec x n)
  rw [nodeE_eq hx]
  generalize ((t.nodes.take i).any fun m => decide (m.name = n.name)) = c at *
  cases hb1 : nameB n.name with
  | false =>
    rw [hb1] at s1
    rw [if_pos rfl]
    refine zen Tryz.func161 (by kernel_rfl) rfl Tryz.ntmps161 rfl (by simp) ?_; refine a_seq ?_; refine a_reg ?_; (repeat (first | refine gZ pk ?_ | (show AL _ _ _ _ _ _ _; first | refine jB (fun u => ?_)))); refine zfb 0 2 rfl rfl ?_
    (repeat (first | refine a_seq ?_ | refine a_block ?_)); refine a_reg ?_
    repeat (first | refine gZ pk ?_ | (show AL _ _ _ _ _ _ _; first | refine jL tok (fun u => ?_) | refine jS tok 0 ?_ | refine jX tok xk ?_))
    refine zfb 0 5 rfl rfl ?_
    repeat (first | refine gA pk ?_ | (show AL _ _ _ _ _ _ _; first | refine jP s1 ?_))
    refine finQ ?_
    exact ⟨rfl, rfl⟩
  | true =>
    rw [hb1] at s1
    rw [if_neg (by decide)]
    cases c with
    | true =>
      rw [if_pos rfl]
      refine zen Tryz.func161 (by kernel_rfl) rfl Tryz.ntmps161 rfl (by simp) ?_; refine a_seq ?_; refine a_reg ?_; (repeat (first | refine gZ pk ?_ | (show AL _ _ _ _ _ _ _; first | refine jB (fun u => ?_)))); refine zfb 0 2 rfl rfl ?_
      (repeat (first | refine a_seq ?_ | refine a_block ?_)); refine a_reg ?_
      repeat (first | refine gZ pk ?_ | (show AL _ _ _ _ _ _ _; first | refine jL tok (fun u => ?_) | refine jS tok 0 ?_ | refine jX tok xk ?_))
      refine zfb 0 5 rfl rfl ?_
      repeat (first | refine gA pk ?_ | (show AL _ _ _ _ _ _ _; first | refine jP s1 ?_ | refine s_slice tok (a := 0) (b := i) rfl rfl rfl rfl rfl rfl rfl rfl (by first | exact rfl | exact ⟨_, rfl⟩) (by first | exact rfl | exact ⟨_, rfl⟩) (by omega) (by omega) ?_ | refine jP s2 ?_))
      refine finQ ?_
      exact ⟨rfl, rfl⟩
    | false =>
      rw [if_neg (by decide)]
      by_cases hpar : n.par < -1 ∨ (i : Int) ≤ n.par
      · rw [if_pos hpar]
        rcases hpar with hpar | hpar
        all_goals
          refine zen Tryz.func161 (by kernel_rfl) rfl Tryz.ntmps161 rfl (by simp) ?_; refine a_seq ?_; refine a_reg ?_; (repeat (first | refine gZ pk ?_ | (show AL _ _ _ _ _ _ _; first | refine jB (fun u => ?_)))); refine zfb 0 2 rfl rfl ?_
          (repeat (first | refine a_seq ?_ | refine a_block ?_)); refine a_reg ?_
          repeat (first | refine gZ pk ?_ | (show AL _ _ _ _ _ _ _; first | refine jL tok (fun u => ?_) | refine jS tok 0 ?_ | refine jX tok xk ?_))
          refine zfb 0 5 rfl rfl ?_
          repeat' (first | refine gA pk ?_ | (show AL _ _ _ _ _ _ _; first | refine jP s1 ?_ | refine s_slice tok (a := 0) (b := i) rfl rfl rfl rfl rfl rfl rfl rfl (by first | exact rfl | exact ⟨_, rfl⟩) (by first | exact rfl | exact ⟨_, rfl⟩) (by omega) (by omega) ?_ | refine jP s2 ?_ | (refine s_cmp rfl rfl rfl rfl rfl rfl rfl (fun hb => ?_) (fun hb => ?_) <;> simp only [cmpP] at hb)) | fail)
          all_goals refine finQ ?_
          all_goals exact ⟨rfl, rfl⟩
      · rw [if_neg hpar]
        by_cases h4 : 4 < n.attrs.length
        · rw [if_pos h4]
          refine zen Tryz.func161 (by kernel_rfl) rfl Tryz.ntmps161 rfl (by simp) ?_; refine a_seq ?_; refine a_reg ?_; (repeat (first | refine gZ pk ?_ | (show AL _ _ _ _ _ _ _; first | refine jB (fun u => ?_)))); refine zfb 0 2 rfl rfl ?_
          (repeat (first | refine a_seq ?_ | refine a_block ?_)); refine a_reg ?_
          repeat (first | refine gZ pk ?_ | (show AL _ _ _ _ _ _ _; first | refine jL tok (fun u => ?_) | refine jS tok 0 ?_ | refine jX tok xk ?_))
          refine zfb 0 5 rfl rfl ?_
          repeat (first | refine gA pk ?_ | (show AL _ _ _ _ _ _ _; first | refine jP s1 ?_ | refine s_slice tok (a := 0) (b := i) rfl rfl rfl rfl rfl rfl rfl rfl (by first | exact rfl | exact ⟨_, rfl⟩) (by first | exact rfl | exact ⟨_, rfl⟩) (by omega) (by omega) ?_ | refine jP s2 ?_))
          refine finQ ?_
          exact ⟨rfl, rfl⟩
        · rw [if_neg h4]
          have hp1 := pr_succ hp hx hpar
          have s3 := (attrs_spec t ht (i + 1) (by omega) hp1 (i + 1) i (by omega) (by omega) (by omega)).pure
          have hall := attS_of ht (i := (i : Int))
          have hst := attrsOf_step hp1 (a := (i : Int)) (by omega) (by omega) hx
          have hle : n.attrs.length ≤ (attrsOf t.nodes i).length := by rw [hst, List.length_append]; omega
          generalize attrsOf t.nodes i = all at *
          have lall : (all.map cAtt).length = all.length := by simp
          by_cases h8 : 8 < all.length
          · rw [if_pos h8]
            refine zen Tryz.func161 (by kernel_rfl) rfl Tryz.ntmps161 rfl (by simp) ?_; refine a_seq ?_; refine a_reg ?_; (repeat (first | refine gZ pk ?_ | (show AL _ _ _ _ _ _ _; first | refine jB (fun u => ?_)))); refine zfb 0 2 rfl rfl ?_
            (repeat (first | refine a_seq ?_ | refine a_block ?_)); refine a_reg ?_
            repeat (first | refine gZ pk ?_ | (show AL _ _ _ _ _ _ _; first | refine jL tok (fun u => ?_) | refine jS tok 0 ?_ | refine jX tok xk ?_))
            refine zfb 0 5 rfl rfl ?_
            repeat (first | refine gA pk ?_ | (show AL _ _ _ _ _ _ _; first | refine jP s1 ?_ | refine s_slice tok (a := 0) (b := i) rfl rfl rfl rfl rfl rfl rfl rfl (by first | exact rfl | exact ⟨_, rfl⟩) (by first | exact rfl | exact ⟨_, rfl⟩) (by omega) (by omega) ?_ | refine jP s2 ?_ | refine jP s3 ?_))
            refine finQ ?_
            exact ⟨rfl, rfl⟩
          · rw [if_neg h8]
            generalize hF : (fun j => attAt all (all.length - n.attrs.length + j)) = F at *
            have hFj : ∀ j, F j = attAt all (all.length - n.attrs.length + j) := fun j => by rw [← hF]
            refine zen Tryz.func161 (by kernel_rfl) rfl Tryz.ntmps161 rfl (by simp) ?_; refine a_seq ?_; refine a_reg ?_; (repeat (first | refine gZ pk ?_ | (show AL _ _ _ _ _ _ _; first | refine jB (fun u => ?_)))); refine zfb 0 2 rfl rfl ?_
            (repeat (first | refine a_seq ?_ | refine a_block ?_)); refine a_reg ?_
            repeat (first | refine gZ pk ?_ | (show AL _ _ _ _ _ _ _; first | refine jL tok (fun u => ?_) | refine jS tok 0 ?_ | refine jX tok xk ?_))
            refine zfb 0 5 rfl rfl ?_
            repeat (first | refine gA pk ?_ | (show AL _ _ _ _ _ _ _; first | refine jP s1 ?_ | refine s_slice tok (a := 0) (b := i) rfl rfl rfl rfl rfl rfl rfl rfl (by first | exact rfl | exact ⟨_, rfl⟩) (by first | exact rfl | exact ⟨_, rfl⟩) (by omega) (by omega) ?_ | refine jP s2 ?_ | refine jP s3 ?_))
            refine zlx (fun j : Nat => [(6, attrsA all), (7, AI ((all.length : Int) - n.attrs.length + j))]) (fun _ => []) (fun j => j ≤ n.attrs.length ∧ ∀ x, x < j → F x = 0) (fun j => n.attrs.length - j) 0 ⟨Nat.zero_le _, fun j hj => by omega⟩ ?_ (OSub.none _) ?_
            · rw [lall, la, show (all.length : Int) - n.attrs.length + ((0 : Nat) : Int) = (all.length : Int) - n.attrs.length by omega]
              exact subQ
            · rintro j ⟨hj, hinv⟩
              have hk : ((all.length : Int) - n.attrs.length + j).toNat = all.length - n.attrs.length + j := by omega
              rcases Nat.lt_or_ge j n.attrs.length with h | h
              · have hy := List.getElem?_eq_getElem (l := all) (i := all.length - n.attrs.length + j) (by omega)
                have hys := hall _ (List.getElem_mem (l := all) (n := all.length - n.attrs.length + j) (by omega))
                generalize all[all.length - n.attrs.length + j] = y at hy hys
                have yk : (all.map cAtt)[((all.length : Int) - n.attrs.length + j).toNat]? = some (cAtt y) := by rw [hk]; exact zmp hy
                have hFe := (hFj j).trans (attAt_eq hy)
                have s4 : Pure Tryz.prog 186 [.agg (cAtt y), .im 4 (((all.map cAtt).take (all.length - n.attrs.length + j)).drop 0)] (AI (F j)) := by
                  rw [List.drop_zero, ← List.map_take, hFe]
                  exact attribute_spec y hys _ (by simp; omega)
                by_cases hz : F j = 0
                · rw [hz] at s4
                  repeat (first | refine gA pk ?_ | (show AL _ _ _ _ _ _ _; first | refine jX tok yk ?_ | refine s_sliceI tok (a := 0) (b := all.length - n.attrs.length + j) rfl rfl rfl rfl rfl rfl rfl rfl (by exact rfl) (by exact ⟨_, _, rfl, by omega⟩) (by omega) (by omega) ?_ | refine jP s4 ?_))
                  refine ⟨j + 1, ⟨by omega, below_succ hinv hz⟩, by omega, ?_, OSub.none _⟩
                  rw [show (all.length : Int) - n.attrs.length + ((j + 1 : Nat) : Int) = (all.length : Int) - n.attrs.length + j + 1 by omega]
                  exact subQ
                · rw [firstN_at hinv h hz]
                  generalize F j = e at *
                  repeat (first | refine gA pk ?_ | (show AL _ _ _ _ _ _ _; first | refine jX tok yk ?_ | refine s_sliceI tok (a := 0) (b := all.length - n.attrs.length + j) rfl rfl rfl rfl rfl rfl rfl rfl (by exact rfl) (by exact ⟨_, _, rfl, by omega⟩) (by omega) (by omega) ?_ | refine jP s4 ?_))
                  refine finQ ?_
                  exact ⟨rfl, rfl⟩
              · obtain rfl : j = n.attrs.length := by omega
                rw [firstN_none hinv]
                repeat (first | refine gA pk ?_)
                refine finQ ?_
                exact ⟨rfl, rfl⟩
end Go.Proofs.YtimfponihbfimaaGreat
end
section
namespace Go.Proofs.YtimfponihbfimaaGreat
open Go.Sj Go.Sj.Typ
set_option maxRecDepth 8000
set_option maxHeartbeats 4000000
theorem any_take_false {α : Type} {p : α → Bool} {l : List α} {k : Nat} (h : ∀ x ∈ l.take k, ¬ p x = true) : (l.take k).any p = false := by
  rw [List.any_eq_false]; exact h
theorem any_take_true {α : Type} {p : α → Bool} {l : List α} {k j : Nat} {x : α} (hx : l[j]? = some x) (hj : j < k) (hp : p x = true) : (l.take k).any p = true := by
  obtain ⟨h1, h2⟩ := List.getElem?_eq_some_iff.1 hx
  refine List.any_eq_true.2 ⟨x, ?_, hp⟩
  rw [List.mem_take_iff_getElem]
  exact ⟨j, by omega, h2⟩
theorem refNode_spec (t : Tys) (ht : Small t) (i : Nat) (hi : i < t.nodes.length) (hp : PR t.nodes i) : Pure Tryz.prog 83 [tysA t, AI i] (AI (nodeE t.nodes i)) := by
  have hx := List.getElem?_eq_getElem hi
  have hn := ht.node _ (List.getElem_mem hi)
  generalize t.nodes[i] = n at hx hn
  have hnl := ht.nodes
  have xk : (t.nodes.map cNod)[(i : Int).toNat]? = some (cNod n) := zmp hx
  have ln : (t.nodes.map cNod).length = t.nodes.length := by simp
  have la : (n.attrs.map cAtt).length = n.attrs.length := by simp
  have s1 := refIsName_spec n.name (by omega)
  have hE := nodeE_eq hx
  generalize nodeE t.nodes i = E at *
  cases hb1 : nameB n.name with
  | false =>
    rw [hb1] at s1
    rw [hb1, if_pos rfl] at hE
    subst hE
    refine zen Tryz.func83 (by kernel_rfl) rfl Tryz.ntmps83 rfl (by simp) ?_; refine a_seq ?_; refine a_reg ?_; (repeat (first | refine gZ pk ?_ | (show AL _ _ _ _ _ _ _; first | refine jB (fun u => ?_)))); refine zfb 0 2 rfl rfl ?_
    (repeat (first | refine a_seq ?_ | refine a_block ?_)); refine a_reg ?_
    repeat (first | refine gZ pk ?_ | (show AL _ _ _ _ _ _ _; first | refine jL tok (fun u => ?_) | refine jS tok 0 ?_ | refine jX tok xk ?_))
    refine zfb 0 5 rfl rfl ?_
    repeat (first | refine gA pk ?_ | (show AL _ _ _ _ _ _ _; first | refine jP s1 ?_))
    refine finQ ?_
    exact ⟨rfl, rfl⟩
  | true =>
    rw [hb1] at s1
    rw [hb1, if_neg (by decide)] at hE
    refine zen Tryz.func83 (by kernel_rfl) rfl Tryz.ntmps83 rfl (by simp) ?_; refine a_seq ?_; refine a_reg ?_; (repeat (first | refine gZ pk ?_ | (show AL _ _ _ _ _ _ _; first | refine jB (fun u => ?_)))); refine zfb 0 2 rfl rfl ?_
    (repeat (first | refine a_seq ?_ | refine a_block ?_)); refine a_reg ?_
    repeat (first | refine gZ pk ?_ | (show AL _ _ _ _ _ _ _; first | refine jL tok (fun u => ?_) | refine jS tok 0 ?_ | refine jX tok xk ?_))
    refine zfb 0 5 rfl rfl ?_
    repeat (first | refine gA pk ?_ | (show AL _ _ _ _ _ _ _; first | refine jP s1 ?_))
    refine zlx (fun k : Nat => [(1, AI i), (2, tysP t), (5, .ip (cNod n)), (6, AI k)]) (fun _ => []) (fun k => k ≤ i ∧ ∀ x ∈ t.nodes.take k, x.name ≠ n.name) (fun k => i - k) 0 ⟨Nat.zero_le _, by simp⟩ ?_ (OSub.none _) ?_
    · exact subQ
    · rintro k ⟨hk, hq⟩
      rcases Nat.lt_or_ge k i with h | h
      · have hy := List.getElem?_eq_getElem (l := t.nodes) (i := k) (by omega)
        generalize t.nodes[k] = y at hy
        have yk : (t.nodes.map cNod)[(k : Int).toNat]? = some (cNod y) := zmp hy
        by_cases he : y.name = n.name
        · rw [any_take_true hy h (by simpa using he), if_pos rfl] at hE
          subst hE
          repeat (first | refine gA pk ?_ | (show AL _ _ _ _ _ _ _; first | refine jX tok yk ?_ | refine s_strEqT rfl rfl rfl rfl rfl rfl (by first | rfl | assumption) ?_))
          refine finQ ?_
          exact ⟨rfl, rfl⟩
        · repeat (first | refine gA pk ?_ | (show AL _ _ _ _ _ _ _; first | refine jX tok yk ?_ | refine s_strEqF rfl rfl rfl rfl rfl rfl (by assumption) ?_))
          exact ⟨k + 1, ⟨by omega, take_all hy hq he⟩, by omega, by exact subQ, OSub.none _⟩
      · obtain rfl : k = i := by omega
        rw [any_take_false (fun x hx => by simpa using hq x hx), if_neg (by decide)] at hE
        have s2 := in_spec n.par (-1) ((k : Int) - 1)
        by_cases hpar : n.par < -1 ∨ (k : Int) ≤ n.par
        · rw [if_pos hpar] at hE
          rw [decide_eq_false (by omega)] at s2
          subst hE
          repeat (first | refine gA pk ?_ | (show AL _ _ _ _ _ _ _; first | refine jP s2 ?_))
          refine finQ ?_
          exact ⟨rfl, rfl⟩
        · rw [if_neg hpar] at hE
          rw [decide_eq_true (by omega)] at s2
          have hp1 := pr_succ hp hx hpar
          have s3 := (refAttrs_spec t ht (k + 1) (by omega) hp1 (k + 1) k (by omega) (by omega) (by omega)).pure
          have hall := attS_of ht (i := (k : Int))
          have hst := attrsOf_step hp1 (a := (k : Int)) (by omega) (by omega) hx
          have hle : n.attrs.length ≤ (attrsOf t.nodes k).length := by rw [hst, List.length_append]; omega
          have hlen := attrsOf_len hp1 (by omega) (fun n hn => (ht.node n hn).2.1) 20 (k : Int) (by omega) (by omega)
          generalize attrsOf t.nodes k = all at *
          have lall : (all.map cAtt).length = all.length := by simp
          by_cases h4 : 4 < n.attrs.length
          · rw [if_pos h4] at hE
            subst hE
            repeat (first | refine gA pk ?_ | (show AL _ _ _ _ _ _ _; first | refine jP s2 ?_ | refine jP s3 ?_))
            refine finQ ?_
            exact ⟨rfl, rfl⟩
          · rw [if_neg h4] at hE
            by_cases h8 : 8 < all.length
            · rw [if_pos h8] at hE
              subst hE
              repeat (first | refine gA pk ?_ | (show AL _ _ _ _ _ _ _; first | refine jP s2 ?_ | refine jP s3 ?_))
              refine finQ ?_
              exact ⟨rfl, rfl⟩
            · rw [if_neg h8] at hE
              generalize hF : (fun j => attAt all (all.length - n.attrs.length + j)) = F at *
              have hFj : ∀ j, F j = attAt all (all.length - n.attrs.length + j) := fun j => by rw [← hF]
              subst hE
              repeat (first | refine gA pk ?_ | (show AL _ _ _ _ _ _ _; first | refine jP s2 ?_ | refine jP s3 ?_))
              refine zlx (fun j : Nat => [(7, attrsA all), (8, AI ((all.length : Int) - n.attrs.length + j))]) (fun _ => []) (fun j => j ≤ n.attrs.length ∧ ∀ x, x < j → F x = 0) (fun j => n.attrs.length - j) 0 ⟨Nat.zero_le _, fun j hj => by omega⟩ ?_ (OSub.none _) ?_
              · rw [lall, la, show (all.length : Int) - n.attrs.length + ((0 : Nat) : Int) = (all.length : Int) - n.attrs.length by omega]
                exact subQ
              · rintro j ⟨hj, hinv⟩
                have hk : ((all.length : Int) - n.attrs.length + j).toNat = all.length - n.attrs.length + j := by omega
                rcases Nat.lt_or_ge j n.attrs.length with h | h
                · have hy := List.getElem?_eq_getElem (l := all) (i := all.length - n.attrs.length + j) (by omega)
                  have hys := hall _ (List.getElem_mem (l := all) (n := all.length - n.attrs.length + j) (by omega))
                  generalize all[all.length - n.attrs.length + j] = y at hy hys
                  have yk : (all.map cAtt)[((all.length : Int) - n.attrs.length + j).toNat]? = some (cAtt y) := by rw [hk]; exact zmp hy
                  have hFe := (hFj j).trans (attAt_eq hy)
                  have hbk : all.length - n.attrs.length + j ≤ all.length := by omega
                  have hki : ((all.length - n.attrs.length + j : Nat) : Int) = (all.length : Int) - n.attrs.length + j := by omega
                  generalize all.length - n.attrs.length + j = b at *
                  have s4 := refIsName_spec y.name hys.1
                  have s5 := refAttribute_spec y hys
                  unfold attrE at hFe
                  cases hb2 : nameB y.name with
                  | false =>
                    rw [hb2] at s4
                    rw [hb2, if_pos rfl] at hFe
                    rw [firstN_at hinv h (by omega), hFe]
                    repeat (first | refine gA pk ?_ | (show AL _ _ _ _ _ _ _; first | refine jX tok yk ?_ | refine jP s4 ?_))
                    refine finQ ?_
                    exact ⟨rfl, rfl⟩
                  | true =>
                    rw [hb2] at s4
                    rw [hb2, if_neg (by decide)] at hFe
                    repeat (first | refine gA pk ?_ | (show AL _ _ _ _ _ _ _; first | refine jX tok yk ?_ | refine jP s4 ?_))
                    refine zlx (fun c : Nat => [(7, attrsA all), (8, AI ((all.length : Int) - n.attrs.length + j)), (9, AI c)]) (fun _ => []) (fun c => c ≤ b ∧ ∀ x ∈ all.take c, x.name ≠ y.name) (fun c => b - c) 0 ⟨Nat.zero_le _, by simp⟩ ?_ (OSub.none _) ?_
                    · exact subQ
                    · rintro c ⟨hc, hqc⟩
                      rcases Nat.lt_or_ge c b with h' | h'
                      · have hz := List.getElem?_eq_getElem (l := all) (i := c) (by omega)
                        generalize all[c] = z at hz
                        have zk : (all.map cAtt)[(c : Int).toNat]? = some (cAtt z) := zmp hz
                        by_cases he : z.name = y.name
                        · rw [any_take_true hz h' (by simpa using he), if_pos rfl] at hFe
                          rw [firstN_at hinv h (by omega), hFe]
                          repeat (first | refine gA pk ?_ | (show AL _ _ _ _ _ _ _; first | refine jX tok zk ?_ | refine jX tok yk ?_ | refine s_strEqT rfl rfl rfl rfl rfl rfl (by first | rfl | assumption) ?_))
                          refine finQ ?_
                          exact ⟨rfl, rfl⟩
                        · repeat (first | refine gA pk ?_ | (show AL _ _ _ _ _ _ _; first | refine jX tok zk ?_ | refine jX tok yk ?_ | refine s_strEqF rfl rfl rfl rfl rfl rfl (by assumption) ?_))
                          exact ⟨c + 1, ⟨by omega, take_all hz hqc he⟩, by omega, by exact subQ, OSub.none _⟩
                      · obtain rfl : c = b := by omega
                        rw [any_take_false (fun x hx => by simpa using hqc x hx), if_neg (by decide)] at hFe
                        rw [← hFe] at s5
                        by_cases hz : F j = 0
                        · rw [hz] at s5
                          repeat (first | refine gA pk ?_ | (show AL _ _ _ _ _ _ _; first | refine jX tok yk ?_ | refine jP s5 ?_))
                          refine ⟨j + 1, ⟨by omega, below_succ hinv hz⟩, by omega, ?_, OSub.none _⟩
                          rw [show (all.length : Int) - n.attrs.length + ((j + 1 : Nat) : Int) = (all.length : Int) - n.attrs.length + j + 1 by omega]
                          exact subQ
                        · rw [firstN_at hinv h hz]
                          generalize F j = e at *
                          repeat (first | refine gA pk ?_ | (show AL _ _ _ _ _ _ _; first | refine jX tok yk ?_ | refine jP s5 ?_))
                          refine finQ ?_
                          exact ⟨rfl, rfl⟩
                · obtain rfl : j = n.attrs.length := by omega
                  rw [firstN_none hinv]
                  repeat (first | refine gA pk ?_)
                  refine finQ ?_
                  exact ⟨rfl, rfl⟩
end Go.Proofs.YtimfponihbfimaaGreat
end
