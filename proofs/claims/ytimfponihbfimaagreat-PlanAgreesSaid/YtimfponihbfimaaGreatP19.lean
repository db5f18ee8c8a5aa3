/- Parts of a proof. -/
import Derived.Test.YtimfponihbfimaaGreatP18
set_option linter.unusedVariables false
set_option linter.unusedSimpArgs false
section
namespace Go.Proofs.YtimfponihbfimaaGreat
open Go.Sj Go.Sj.Typ
set_option maxRecDepth 8000
set_option maxHeartbeats 4000000
theorem nameAt_eq {l : List ByteArray} {k : Nat} {s : ByteArray} (h : l[k]? = some s) : nameAt l k = if nameB s = true then (if s ∈ l.take k then 5 else 0) else 2 := by
  simp only [nameAt, h]
theorem take_all {α : Type} {p : α → Prop} {l : List α} {k : Nat} {x : α} (hx : l[k]? = some x) (h : ∀ y ∈ l.take k, p y) (hp : p x) : ∀ y ∈ l.take (k + 1), p y := by
  obtain ⟨hk, he⟩ := List.getElem?_eq_some_iff.1 hx
  intro y hy
  rw [List.take_succ_eq_append_getElem hk] at hy
  rcases List.mem_append.1 hy with h1 | h1
  · exact h y h1
  · obtain rfl := List.mem_singleton.1 h1
    rw [he]; exact hp
theorem below_succ {f : Nat → Int} {k : Nat} (h : ∀ j, j < k → f j = 0) (hk : f k = 0) : ∀ j, j < k + 1 → f j = 0 := fun j hj => by
  rcases Nat.lt_or_ge j k with h1 | h1
  · exact h j h1
  · obtain rfl : j = k := by omega
    exact hk
theorem names_spec (l : List ByteArray) (hl : l.length ≤ 1000000) (hs : ∀ s ∈ l, s.size ≤ 1000000) : Pure Tryz.prog 201 [strsA l] (AI (namesE l)) := by
  have ll : (l.map cS).length = l.length := by simp
  by_cases h20 : 20 < l.length
  · rw [show namesE l = 3 by simp [namesE, h20]]
    refine zen Tryz.func201 (by kernel_rfl) rfl Tryz.ntmps201 rfl (by simp) ?_
    repeat (first | refine gA pk ?_)
    refine finQ ?_
    exact ⟨rfl, rfl⟩
  · rw [show namesE l = firstN (nameAt l) l.length by simp [namesE, h20]]
    refine zen Tryz.func201 (by kernel_rfl) rfl Tryz.ntmps201 rfl (by simp) ?_
    repeat (first | refine gA pk ?_)
    rw [ll]
    refine zlx (fun k : Nat => [(0, strsA l), (8, strsA l), (9, AI l.length), (10, AI k)]) (fun _ => []) (fun k => k ≤ l.length ∧ ∀ j, j < k → nameAt l j = 0) (fun k => l.length - k) 0 ⟨Nat.zero_le _, fun j hj => by omega⟩ ?_ (OSub.refl _) ?_
    · exact subQ
    · rintro k ⟨hk, hp⟩
      rcases Nat.lt_or_ge k l.length with h | h
      · have hx := List.getElem?_eq_getElem h
        have hsz := hs _ (List.getElem_mem h)
        generalize l[k] = s at hx hsz
        have hn := nameAt_eq hx
        have xk : (l.map cS)[(k : Int).toNat]? = some (cS s) := zmp hx
        have s1 := IsName_spec s hsz
        have s2 : Pure Tryz.prog 211 [.im 1 (((l.map cS).take k).drop 0), AS s] (AB (decide (s ∈ l.take k))) := by
          rw [List.drop_zero, ← List.map_take]
          exact ContainsS_spec _ (by simp; omega) _
        cases hb : nameB s with
        | false =>
          rw [hb] at s1
          rw [show firstN (nameAt l) l.length = 2 by rw [firstN_at hp h (by rw [hn]; simp [hb]), hn]; simp [hb]]
          repeat (first | refine gA pk ?_ | (show AL _ _ _ _ _ _ _; first | refine jX tok xk ?_ | refine jP s1 ?_))
          refine finQ ?_
          exact ⟨rfl, rfl⟩
        | true =>
          rw [hb] at s1
          by_cases hm : s ∈ l.take k
          · rw [decide_eq_true hm] at s2
            rw [show firstN (nameAt l) l.length = 5 by rw [firstN_at hp h (by rw [hn]; simp [hb, hm]), hn]; simp [hb, hm]]
            repeat (first | refine gA pk ?_ | (show AL _ _ _ _ _ _ _; first | refine jX tok xk ?_ | refine jP s1 ?_ | refine s_slice tok (a := 0) (b := k) rfl rfl rfl rfl rfl rfl rfl rfl (by first | exact rfl | exact ⟨_, rfl⟩) (by first | exact rfl | exact ⟨_, rfl⟩) (by omega) (by omega) ?_ | refine jP s2 ?_))
            refine finQ ?_
            exact ⟨rfl, rfl⟩
          · rw [decide_eq_false hm] at s2
            repeat (first | refine gA pk ?_ | (show AL _ _ _ _ _ _ _; first | refine jX tok xk ?_ | refine jP s1 ?_ | refine s_slice tok (a := 0) (b := k) rfl rfl rfl rfl rfl rfl rfl rfl (by first | exact rfl | exact ⟨_, rfl⟩) (by first | exact rfl | exact ⟨_, rfl⟩) (by omega) (by omega) ?_ | refine jP s2 ?_))
            exact ⟨k + 1, ⟨by omega, below_succ hp (by rw [hn]; simp [hb, hm])⟩, by omega, by exact subQ, OSub.none _⟩
      · obtain rfl : k = l.length := by omega
        rw [firstN_none hp]
        repeat (first | refine gA pk ?_)
        refine finQ ?_
        exact ⟨rfl, rfl⟩
theorem refNames_spec (l : List ByteArray) (hl : l.length ≤ 1000000) (hs : ∀ s ∈ l, s.size ≤ 1000000) : Pure Tryz.prog 178 [strsA l] (AI (namesE l)) := by
  have ll : (l.map cS).length = l.length := by simp
  by_cases h20 : 20 < l.length
  · rw [show namesE l = 3 by simp [namesE, h20]]
    refine zen Tryz.func178 (by kernel_rfl) rfl Tryz.ntmps178 rfl (by simp) ?_
    repeat (first | refine gA pk ?_)
    refine finQ ?_
    exact ⟨rfl, rfl⟩
  · rw [show namesE l = firstN (nameAt l) l.length by simp [namesE, h20]]
    refine zen Tryz.func178 (by kernel_rfl) rfl Tryz.ntmps178 rfl (by simp) ?_
    repeat (first | refine gA pk ?_)
    refine zlx (fun k : Nat => [(0, strsA l), (3, AI k)]) (fun _ => []) (fun k => k ≤ l.length ∧ ∀ j, j < k → nameAt l j = 0) (fun k => l.length - k) 0 ⟨Nat.zero_le _, fun j hj => by omega⟩ ?_ (OSub.refl _) ?_
    · exact subQ
    · rintro k ⟨hk, hp⟩
      rcases Nat.lt_or_ge k l.length with h | h
      · have hx := List.getElem?_eq_getElem h
        have hsz := hs _ (List.getElem_mem h)
        generalize l[k] = s at hx hsz
        have hn := nameAt_eq hx
        have xk : (l.map cS)[(k : Int).toNat]? = some (cS s) := zmp hx
        have s1 := refIsName_spec s hsz
        cases hb : nameB s with
        | false =>
          rw [hb] at s1
          rw [show firstN (nameAt l) l.length = 2 by rw [firstN_at hp h (by rw [hn]; simp [hb]), hn]; simp [hb]]
          repeat (first | refine gA pk ?_ | (show AL _ _ _ _ _ _ _; first | refine jX tok xk ?_ | refine jP s1 ?_))
          refine finQ ?_
          exact ⟨rfl, rfl⟩
        | true =>
          rw [hb] at s1
          repeat (first | refine gA pk ?_ | (show AL _ _ _ _ _ _ _; first | refine jX tok xk ?_ | refine jP s1 ?_))
          refine zlx (fun j : Nat => [(0, strsA l), (3, AI k), (4, AI j)]) (fun _ => []) (fun j => j ≤ k ∧ ∀ x ∈ l.take j, x ≠ s) (fun j => k - j) 0 ⟨Nat.zero_le _, by simp⟩ ?_ (OSub.refl _) ?_
          · exact subQ
          · rintro j ⟨hj, hq⟩
            rcases Nat.lt_or_ge j k with h' | h'
            · have hy := List.getElem?_eq_getElem (l := l) (i := j) (by omega)
              generalize l[j] = y at hy
              have yk : (l.map cS)[(j : Int).toNat]? = some (cS y) := zmp hy
              by_cases he : y = s
              · have hm : s ∈ l.take k := by
                  rw [List.mem_take_iff_getElem]
                  obtain ⟨h1, h2⟩ := List.getElem?_eq_some_iff.1 hy
                  exact ⟨j, by omega, by rw [h2]; exact he⟩
                rw [show firstN (nameAt l) l.length = 5 by rw [firstN_at hp h (by rw [hn]; simp [hb, hm]), hn]; simp [hb, hm]]
                repeat (first | refine gA pk ?_ | (show AL _ _ _ _ _ _ _; first | refine jX tok yk ?_ | refine jX tok xk ?_ | refine s_strEqT rfl rfl rfl rfl rfl rfl (by first | rfl | assumption) ?_))
                refine finQ ?_
                exact ⟨rfl, rfl⟩
              · repeat (first | refine gA pk ?_ | (show AL _ _ _ _ _ _ _; first | refine jX tok yk ?_ | refine jX tok xk ?_ | refine s_strEqF rfl rfl rfl rfl rfl rfl (by assumption) ?_))
                exact ⟨j + 1, ⟨by omega, take_all hy hq he⟩, by omega, by exact subQ, OSub.none _⟩
            · obtain rfl : j = k := by omega
              have hm : s ∉ l.take j := fun hm => hq s hm rfl
              repeat (first | refine gA pk ?_)
              exact ⟨j + 1, ⟨by omega, below_succ hp (by rw [hn]; simp [hb, hm])⟩, by omega, by exact subQ, OSub.none _⟩
      · obtain rfl : k = l.length := by omega
        rw [firstN_none hp]
        repeat (first | refine gA pk ?_)
        refine finQ ?_
        exact ⟨rfl, rfl⟩
end Go.Proofs.YtimfponihbfimaaGreat
end
section
namespace Go.Proofs.YtimfponihbfimaaGreat
open Go.Sj Go.Sj.Typ
set_option maxRecDepth 8000
set_option maxHeartbeats 4000000
def RgP (a : Att) : Prop := (a.names.length = 0 ∧ -1000000 ≤ a.lo ∧ a.lo ≤ a.hi ∧ a.hi ≤ 1000000) ∨ (a.names.length ≠ 0 ∧ a.lo = 0 ∧ a.hi = a.names.length - 1)
instance (a : Att) : Decidable (RgP a) := inferInstanceAs (Decidable (_ ∨ _))
theorem rg_iff (a : Att) : rangeE a = if RgP a then 0 else 6 := by
  unfold rangeE RgP
  by_cases h : a.names = []
  · simp [h]
  · have : a.names.length ≠ 0 := fun e => h (List.length_eq_zero_iff.1 e)
    rw [if_neg h]
    simp [h]
theorem rg_ok {a : Att} (h : RgP a) : AI 0 = AI (rangeE a) := by rw [rg_iff, if_pos h]
theorem rg_bad {a : Att} (h : ¬ RgP a) : AI 6 = AI (rangeE a) := by rw [rg_iff, if_neg h]
theorem in_spec (n lo hi : Int) : Pure Tryz.prog 136 [AI n, AI lo, AI hi] (AB (decide (lo ≤ n ∧ n ≤ hi))) := by
  refine zen Tryz.func136 (by kernel_rfl) rfl Tryz.ntmps136 rfl (by simp) ?_
  repeat' (first | refine gA pk ?_ | (show AL _ _ _ _ _ _ _; first | (refine s_cmp rfl rfl rfl rfl rfl rfl rfl (fun hb => ?_) (fun hb => ?_) <;> simp only [cmpP] at hb)) | fail)
  all_goals first | ((refine finQ ?_); exact ⟨ABt (by omega), rfl⟩) | ((refine finQ ?_); exact ⟨ABf (by omega), rfl⟩)
theorem attribute1_spec (b a : Att) : Pure Tryz.prog 200 [.agg (cAtt b), .ip (cAtt a)] (AB (decide (b.name = a.name))) := by
  refine zen Tryz.func200 (by kernel_rfl) rfl Tryz.ntmps200 rfl (by simp) ?_; refine a_seq ?_; refine a_reg ?_; (repeat (first | refine gZ pk ?_ | (show AL _ _ _ _ _ _ _; first | refine jB (fun u => ?_)))); refine zfb 0 2 rfl rfl ?_
  repeat' (first | refine gA pk ?_ | (show AL _ _ _ _ _ _ _; first | refine s_strEqB rfl rfl rfl rfl rfl rfl (fun hb => ?_) (fun hb => ?_) | (refine s_cmp rfl rfl rfl rfl rfl rfl rfl (fun hb => ?_) (fun hb => ?_) <;> simp only [cmpP] at hb)) | fail)
  · refine finQ ?_
    exact ⟨ABt hb, rfl⟩
  · refine finQ ?_
    exact ⟨ABf hb, rfl⟩
def AttS (a : Att) : Prop := a.name.size ≤ 1000000 ∧ a.names.length ≤ 1000000 ∧ ∀ s ∈ a.names, s.size ≤ 1000000
theorem attribute_spec (a : Att) (ha : AttS a) (b : List Att) (hb : b.length ≤ 1000000) : Pure Tryz.prog 186 [.agg (cAtt a), attrsA b] (AI (attrE a b)) := by
  obtain ⟨h1, h2, h3⟩ := ha
  have ll : (a.names.map cS).length = a.names.length := by simp
  have s1 := IsName_spec a.name h1
  have s2 := ContainsFuncA_spec b hb 200 [.ip (cAtt a)] (fun x => decide (x.name = a.name)) (fun x _ => attribute1_spec x a)
  have s3 := names_spec a.names h2 h3
  unfold attrE bodyE
  generalize (b.any fun x => decide (x.name = a.name)) = c at *
  cases hn : nameB a.name with
  | false =>
    rw [hn] at s1
    rw [if_pos rfl]
    refine zen Tryz.func186 (by kernel_rfl) rfl Tryz.ntmps186 rfl (by simp) ?_; refine a_seq ?_; refine a_reg ?_; (repeat (first | refine gZ pk ?_ | (show AL _ _ _ _ _ _ _; first | refine jB (fun u => ?_)))); refine zfb 0 2 rfl rfl ?_
    repeat (first | refine gA pk ?_ | (show AL _ _ _ _ _ _ _; first | refine jP s1 ?_))
    refine finQ ?_
    exact ⟨rfl, rfl⟩
  | true =>
    rw [hn] at s1
    rw [if_neg (by decide)]
    cases c with
    | true =>
      rw [if_pos rfl]
      refine zen Tryz.func186 (by kernel_rfl) rfl Tryz.ntmps186 rfl (by simp) ?_; refine a_seq ?_; refine a_reg ?_; (repeat (first | refine gZ pk ?_ | (show AL _ _ _ _ _ _ _; first | refine jB (fun u => ?_)))); refine zfb 0 2 rfl rfl ?_
      repeat (first | refine gA pk ?_ | (show AL _ _ _ _ _ _ _; first | refine jP s1 ?_ | refine jP s2 ?_))
      refine finQ ?_
      exact ⟨rfl, rfl⟩
    | false =>
      rw [if_neg (by decide)]
      generalize namesE a.names = e at *
      by_cases he : e = 0
      · rw [if_neg (by omega)]
        subst he
        have rgi := @rg_ok a
        have rgb := @rg_bad a
        unfold RgP at rgi rgb
        refine zen Tryz.func186 (by kernel_rfl) rfl Tryz.ntmps186 rfl (by simp) ?_; refine a_seq ?_; refine a_reg ?_; (repeat (first | refine gZ pk ?_ | (show AL _ _ _ _ _ _ _; first | refine jB (fun u => ?_)))); refine zfb 0 2 rfl rfl ?_
        repeat' (first | refine gA pk ?_ | (show AL _ _ _ _ _ _ _; first | refine jP s1 ?_ | refine jP s2 ?_ | refine jP s3 ?_ | (refine s_cmp rfl rfl rfl rfl rfl rfl rfl (fun hb => ?_) (fun hb => ?_) <;> simp only [cmpP] at hb)) | fail)
        all_goals refine finQ ?_
        all_goals first | exact ⟨rgi (by omega), rfl⟩ | exact ⟨rgb (by omega), rfl⟩
      · rw [if_pos he]
        refine zen Tryz.func186 (by kernel_rfl) rfl Tryz.ntmps186 rfl (by simp) ?_; refine a_seq ?_; refine a_reg ?_; (repeat (first | refine gZ pk ?_ | (show AL _ _ _ _ _ _ _; first | refine jB (fun u => ?_)))); refine zfb 0 2 rfl rfl ?_
        repeat (first | refine gA pk ?_ | (show AL _ _ _ _ _ _ _; first | refine jP s1 ?_ | refine jP s2 ?_ | refine jP s3 ?_))
        refine finQ ?_
        exact ⟨rfl, rfl⟩
theorem refAttribute_spec (a : Att) (ha : AttS a) : Pure Tryz.prog 138 [.agg (cAtt a)] (AI (bodyE a)) := by
  obtain ⟨h1, h2, h3⟩ := ha
  have ll : (a.names.map cS).length = a.names.length := by simp
  have s1 := in_spec
  have s3 := refNames_spec a.names h2 h3
  unfold bodyE
  have rgi := @rg_ok a
  have rgb := @rg_bad a
  unfold RgP at rgi rgb
  by_cases h0 : a.names.length = 0
  · have e0 : namesE a.names = 0 := by rw [List.length_eq_zero_iff.1 h0]; rfl
    rw [e0, if_neg (by decide)]
    refine zen Tryz.func138 (by kernel_rfl) rfl Tryz.ntmps138 rfl (by simp) ?_; refine a_seq ?_; refine a_reg ?_; (repeat (first | refine gZ pk ?_ | (show AL _ _ _ _ _ _ _; first | refine jB (fun u => ?_)))); refine zfb 0 1 rfl rfl ?_
    repeat' (first | refine gA pk ?_ | (show AL _ _ _ _ _ _ _; first | (refine s_callB rfl rfl rfl rfl rfl (s1 _ _ _) (SubL.of_eq rfl) (fun hb => ?_) (fun hb => ?_) <;> (first | replace hb := of_decide_eq_true hb | replace hb := of_decide_eq_false hb | skip)) | (refine s_cmp rfl rfl rfl rfl rfl rfl rfl (fun hb => ?_) (fun hb => ?_) <;> simp only [cmpP] at hb)) | fail)
    all_goals refine finQ ?_
    all_goals first | exact ⟨rgi (by omega), rfl⟩ | exact ⟨rgb (by omega), rfl⟩
  · generalize namesE a.names = e at *
    by_cases he : e = 0
    · rw [if_neg (by omega)]
      subst he
      refine zen Tryz.func138 (by kernel_rfl) rfl Tryz.ntmps138 rfl (by simp) ?_; refine a_seq ?_; refine a_reg ?_; (repeat (first | refine gZ pk ?_ | (show AL _ _ _ _ _ _ _; first | refine jB (fun u => ?_)))); refine zfb 0 1 rfl rfl ?_
      repeat' (first | refine gA pk ?_ | (show AL _ _ _ _ _ _ _; first | refine jP s3 ?_ | (refine s_cmp rfl rfl rfl rfl rfl rfl rfl (fun hb => ?_) (fun hb => ?_) <;> simp only [cmpP] at hb)) | fail)
      all_goals refine finQ ?_
      all_goals first | exact ⟨rgi (by omega), rfl⟩ | exact ⟨rgb (by omega), rfl⟩
    · rw [if_pos he]
      refine zen Tryz.func138 (by kernel_rfl) rfl Tryz.ntmps138 rfl (by simp) ?_; refine a_seq ?_; refine a_reg ?_; (repeat (first | refine gZ pk ?_ | (show AL _ _ _ _ _ _ _; first | refine jB (fun u => ?_)))); refine zfb 0 1 rfl rfl ?_
      repeat (first | refine gA pk ?_ | (show AL _ _ _ _ _ _ _; first | refine jP s3 ?_))
      refine finQ ?_
      exact ⟨rfl, rfl⟩
end Go.Proofs.YtimfponihbfimaaGreat
end
section
namespace Go.Proofs.YtimfponihbfimaaGreat
open Go.Sj Go.Sj.Typ
set_option maxRecDepth 8000
set_option maxHeartbeats 4000000
theorem cAtt_cell (l : List Att) : (l.map cAtt).all (fun e => e.all AV.cell) = true := by simp [cAtt, AV.cell, Value.oneCell']
theorem attrsOf_len {ns : List Nod} {k m : Nat} (h : PR ns k) (hk : k ≤ ns.length) (hm : ∀ n ∈ ns, n.attrs.length ≤ m) : ∀ (f : Nat) (a : Int), a + 1 ≤ f → a < k → (attrsOf ns a).length ≤ m * f
  | 0, a, hf, ha => by rw [attrsOf_neg (by omega)]; simp
  | f + 1, a, hf, ha => by
    by_cases h0 : a < 0
    · rw [attrsOf_neg h0]; simp
    · have hx := List.getElem?_eq_getElem (l := ns) (i := a.toNat) (by omega)
      have hp := h a.toNat _ (by omega) hx
      have hmm := hm _ (List.getElem_mem (l := ns) (n := a.toNat) (by omega))
      rw [attrsOf_step h (by omega) ha hx]
      have := attrsOf_len h hk hm f _ (by omega : (ns[a.toNat]).par + 1 ≤ f) (by omega)
      rw [List.length_append, Nat.mul_add]
      omega
theorem attrs_spec (t : Tys) (ht : Small t) (k : Nat) (hk : k ≤ t.nodes.length) (hp : PR t.nodes k) : ∀ (m : Nat) (a : Int), 0 ≤ a → a < k → a < m →
    Gives Tryz.prog 185 [tysA t, AI a] 135 4 ((attrsOf t.nodes a).map cAtt)
  | 0, a, h0, _, hm => by omega
  | m + 1, a, h0, ha, hm => by
    have ih := attrs_spec t ht k hk hp m
    have hx := List.getElem?_eq_getElem (l := t.nodes) (i := a.toNat) (by omega)
    have hmem := List.getElem_mem (l := t.nodes) (n := a.toNat) (by omega)
    have hn := ht.node _ hmem
    have hpar := hp a.toNat _ (by omega) hx
    have hs := attrsOf_step hp h0 ha hx
    generalize t.nodes[a.toNat] = n at hx hn hpar hs
    have xk : (t.nodes.map cNod)[a.toNat]? = some (cNod n) := zmp hx
    have hlen := attrsOf_len hp hk (fun n hn => (ht.node n hn).2.1) 20 n.par (by have := ht.nodes; omega) (by omega)
    have ln : (n.attrs.map cAtt).length = n.attrs.length := by simp
    have lp : ((attrsOf t.nodes n.par).map cAtt).length = (attrsOf t.nodes n.par).length := by simp
    have hna := hn.2.1
    by_cases h1 : 0 ≤ n.par
    · have hc := ih n.par h1 (by omega) (by omega)
      refine zen Tryz.func185 (by kernel_rfl) rfl Tryz.ntmps185 rfl (by simp) ?_; refine a_seq ?_; refine a_reg ?_; (repeat (first | refine gZ pk ?_ | (show AL _ _ _ _ _ _ _; first | refine jB (fun u => ?_)))); refine zfb 0 2 rfl rfl ?_
      repeat (first | refine gA pk ?_ | (show AL _ _ _ _ _ _ _; first | refine jX tok xk ?_ | refine s_callG rfl rfl rfl rfl rfl (hc) (SubL.of_eq rfl) (fun v => ?_)))
      refine s_appendIm tok 0 rfl rfl rfl rfl rfl rfl (by decide) rfl rfl rfl rfl (cAtt_cell n.attrs) (by omega) (by simp only [ln, lp]; omega) (fun v' => ?_)
      repeat (first | refine gA pk ?_)
      rw [hs, List.map_append]
      refine finR ?_
      exact ⟨_, rfl, rfl⟩
    · rw [attrsOf_neg (a := n.par) (by omega), List.nil_append] at hs
      refine zen Tryz.func185 (by kernel_rfl) rfl Tryz.ntmps185 rfl (by simp) ?_; refine a_seq ?_; refine a_reg ?_; (repeat (first | refine gZ pk ?_ | (show AL _ _ _ _ _ _ _; first | refine jB (fun u => ?_)))); refine zfb 0 2 rfl rfl ?_
      repeat (first | refine gA pk ?_ | (show AL _ _ _ _ _ _ _; first | refine jX tok xk ?_))
      refine s_appendZ tok rfl rfl rfl rfl rfl rfl (by decide) Sub.z0nil rfl rfl (cAtt_cell n.attrs) (by omega) (by simp only [ln]; omega) (fun v' => ?_)
      repeat (first | refine gA pk ?_)
      rw [hs]
      refine finR ?_
      exact ⟨_, rfl, rfl⟩
theorem refAttrs_spec (t : Tys) (ht : Small t) (k : Nat) (hk : k ≤ t.nodes.length) (hp : PR t.nodes k) : ∀ (m : Nat) (a : Int), -1 ≤ a → a < k → a < m →
    Gives Tryz.prog 137 [tysA t, AI a] 135 4 ((attrsOf t.nodes a).map cAtt)
  | 0, a, h0, _, hm => by
    obtain rfl : a = -1 := by omega
    rw [attrsOf_neg (by omega)]
    refine zen Tryz.func137 (by kernel_rfl) rfl Tryz.ntmps137 rfl (by simp) ?_; refine a_seq ?_; refine a_reg ?_; (repeat (first | refine gZ pk ?_ | (show AL _ _ _ _ _ _ _; first | refine jB (fun u => ?_)))); refine zfb 0 2 rfl rfl ?_
    repeat (first | refine gA pk ?_)
    exact fin (x := .lit _) (.inr rfl) rfl (Sub.refl _) ⟨_, rfl, rfl⟩ (.free .nil)
  | m + 1, a, h0, ha, hm => by
    have ih := refAttrs_spec t ht k hk hp m
    by_cases h00 : a < 0
    · rw [attrsOf_neg h00]
      refine zen Tryz.func137 (by kernel_rfl) rfl Tryz.ntmps137 rfl (by simp) ?_; refine a_seq ?_; refine a_reg ?_; (repeat (first | refine gZ pk ?_ | (show AL _ _ _ _ _ _ _; first | refine jB (fun u => ?_)))); refine zfb 0 2 rfl rfl ?_
      repeat (first | refine gA pk ?_)
      exact fin (x := .lit _) (.inr rfl) rfl (Sub.refl _) ⟨_, rfl, rfl⟩ (.free .nil)
    · have hx := List.getElem?_eq_getElem (l := t.nodes) (i := a.toNat) (by omega)
      have hmem := List.getElem_mem (l := t.nodes) (n := a.toNat) (by omega)
      have hn := ht.node _ hmem
      have hpar := hp a.toNat _ (by omega) hx
      have hs := attrsOf_step hp (by omega) ha hx
      generalize t.nodes[a.toNat] = n at hx hn hpar hs
      have xk : (t.nodes.map cNod)[a.toNat]? = some (cNod n) := zmp hx
      have hlen := attrsOf_len hp hk (fun n hn => (ht.node n hn).2.1) 20 n.par (by have := ht.nodes; omega) (by omega)
      have ln : (n.attrs.map cAtt).length = n.attrs.length := by simp
      have lp : ((attrsOf t.nodes n.par).map cAtt).length = (attrsOf t.nodes n.par).length := by simp
      have hna := hn.2.1
      have hc := ih n.par hpar.1 (by omega) (by omega)
      refine zen Tryz.func137 (by kernel_rfl) rfl Tryz.ntmps137 rfl (by simp) ?_; refine a_seq ?_; refine a_reg ?_; (repeat (first | refine gZ pk ?_ | (show AL _ _ _ _ _ _ _; first | refine jB (fun u => ?_)))); refine zfb 0 2 rfl rfl ?_
      repeat (first | refine gN pk ?_)
      refine a_regT (.br [1, 2, 3, 4, 5, 6, 7, 10, 11, 12, 13, 14, 15] (.seg [0, 8, 9, 16, 17]) (.seg [8, 0, 9, 16, 17])) mixed rfl rfl (by decide +kernel) (at_br ?_)
      repeat (first | refine gZ pk ?_ | (show AL _ _ _ _ _ _ _; first | refine jX tok xk ?_))
      refine ⟨at_seg ?_, at_seg ?_⟩
      · refine s_build tok (parts := []) rfl rfl rfl rfl rfl rfl rfl rfl (by decide) (by decide) (fun v => ?_)
        refine s_callG rfl rfl rfl rfl rfl (hc) (SubL.of_eq rfl) (fun v => ?_)
        refine s_appendOwn tok 1 0 rfl rfl rfl rfl rfl rfl (by decide) rfl rfl rfl rfl rfl (cAtt_cell _) (by simp only [lp, List.length_nil]; omega) (by simp only [lp, List.length_nil]; omega) (fun v1 => ?_)
        refine s_appendIm tok 1 rfl rfl rfl rfl rfl rfl (by decide) rfl rfl rfl rfl (cAtt_cell n.attrs) (by simp only [List.length_append, ln, lp, List.length_nil]; omega) (by simp only [List.length_append, ln, lp, List.length_nil]; omega) (fun v' => ?_)
        repeat (first | refine gA pk ?_)
        refine fin (x := .lit _) (.inr rfl) rfl (Sub.refl _) ⟨_, rfl, rfl⟩ ?_
        rw [hs, List.map_append]
        exact .drop (OSub.refl _)
      · refine s_callG rfl rfl rfl rfl rfl (hc) (SubL.of_eq rfl) (fun v => ?_)
        refine s_build tok (parts := []) rfl rfl rfl rfl rfl rfl rfl rfl (by decide) (by decide) (fun v => ?_)
        refine s_appendOwn tok 0 1 rfl rfl rfl rfl rfl rfl (by decide) rfl rfl rfl rfl rfl (cAtt_cell _) (by simp only [lp, List.length_nil]; omega) (by simp only [lp, List.length_nil]; omega) (fun v1 => ?_)
        refine s_appendIm tok 0 rfl rfl rfl rfl rfl rfl (by decide) rfl rfl rfl rfl (cAtt_cell n.attrs) (by simp only [List.length_append, ln, lp, List.length_nil]; omega) (by simp only [List.length_append, ln, lp, List.length_nil]; omega) (fun v' => ?_)
        repeat (first | refine gA pk ?_)
        refine fin (x := .lit _) (.inr rfl) rfl (Sub.refl _) ⟨_, rfl, rfl⟩ ?_
        rw [hs, List.map_append]
        exact .keep (.drop .nil)
end Go.Proofs.YtimfponihbfimaaGreat
end
