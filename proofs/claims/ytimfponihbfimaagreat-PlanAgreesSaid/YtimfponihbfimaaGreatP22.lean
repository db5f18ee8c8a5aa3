/- Parts of a proof. -/
import Derived.Test.YtimfponihbfimaaGreatP21
set_option linter.unusedVariables false
set_option linter.unusedSimpArgs false
section
namespace Go.Proofs.YtimfponihbfimaaGreat
open Go.Sj Go.Sj.Typ
set_option maxRecDepth 8000
set_option maxHeartbeats 4000000
theorem obset_int {E : Nat} {l : List Int} {j : Nat} {q0 q : Int} (h : l[j]? = some q0) : obSet (.row E 1 (rowI l)) j 0 (cI q) = .row E 1 (rowI (l.set j q)) := by
  simp only [obSet, rowI, List.map_set]
  rw [List.getD_eq_getElem?_getD, List.getElem?_map, h]
  rfl
theorem obat_int {E : Nat} {l : List Int} {j : Nat} {q0 : Int} (h : l[j]? = some q0) : obAt (.row E 1 (rowI l)) j 0 = some (cI q0) := by
  simp only [obAt, rowI, List.getElem?_map, h]; rfl
theorem Reverse_spec (l : List Int) (hl : l.length ≤ 1000000) (v : Value) : ACalls Tryz.prog 203 [.lit v] [(v, .row 3 1 (rowI l))] (fun y M => y = .tup [] ∧ M = [(v, .row 3 1 (rowI l.reverse))]) := by
  have hall := fun i => rev_all l (i := i)
  have hzero := rev_zero l
  generalize hf : (fun k => l.getD k default) = f at *
  generalize hn : l.length = n at *
  have ll : (rowI l).length = n := by simp [hn]
  refine zen Tryz.func203 (by kernel_rfl) rfl Tryz.ntmps203 rfl (by simp) ?_
  repeat (first | refine gA pk ?_ | (show AL _ _ _ _ _ _ _; first | refine zol tok 0 rfl rfl rfl rfl (by decide) rfl rfl rfl ?_))
  refine zlx (fun i : Nat => [(0, .lit v), (2, AI i), (3, AI ((n : Int) - 1 - i))]) (fun i => [(v, .row 3 1 (rowI (Typ.mkL n (revTo n f i))))]) (fun i => i ≤ n) (fun i => n - i) 0 (Nat.zero_le _) ?_ (by rw [hzero]; exact OSub.refl _) ?_
  · rw [ll, show (n : Int) - 1 - ((0 : Nat) : Int) = (n : Int) - 1 by omega]
    exact subQ
  · intro i hi
    have lm : (rowI (Typ.mkL n (revTo n f i))).length = n := by rw [List.length_map, mkL_length]
    by_cases h1 : i + i + 1 < n
    · have hs := rev_step f h1
      have g1 : (Typ.mkL n (revTo n f i))[i]? = some (f i) := by rw [mkL_get (by omega), revTo, if_neg (by omega)]
      have g2 : (Typ.mkL n (revTo n f i))[n - 1 - i]? = some (f (n - 1 - i)) := by rw [mkL_get (by omega), revTo, if_neg (by omega)]
      generalize Typ.mkL n (revTo n f i) = A at *
      generalize f i = q1 at *
      generalize f (n - 1 - i) = q2 at *
      have e1 : ((i : Int)).toNat = i := by omega
      have e2 : ((n : Int) - 1 - i).toNat = n - 1 - i := by omega
      have g3 : (A.set i q2)[n - 1 - i]? = some q2 := by rw [List.getElem?_set, if_neg (by omega)]; exact g2
      have lm2 : (rowI (A.set i q2)).length = n := by simpa using lm
      have b1 : obAt (.row 3 1 (rowI A)) ((i : Int)).toNat 0 = some (cI q1) := by rw [e1]; exact obat_int g1
      have b2 : obAt (.row 3 1 (rowI A)) (((n : Int) - 1 - i)).toNat 0 = some (cI q2) := by rw [e2]; exact obat_int g2
      have b3 : obAt (.row 3 1 (rowI (A.set i q2))) (((n : Int) - 1 - i)).toNat 0 = some (cI q2) := by rw [e2]; exact obat_int g3
      repeat (first | (show AWp _ _ _ _ _ _; first | refine a_regRO [0, 1, 2, 3, 4, 5, 6, 7, 8, 9, 10, 11, 12, 13, 14, 15] mixed rfl rfl (by decide +kernel) ?_) | refine gN pk ?_ | (show AL _ _ _ _ _ _ _; first | refine zoi tok 0 rfl rfl rfl rfl (by decide) rfl rfl rfl rfl rfl rfl (by omega) (by omega) ?_ | refine s_ownLoad tok 0 rfl rfl rfl rfl (by decide) rfl rfl rfl rfl b1 rfl (List.cons_ne_nil _ _) ?_ | refine s_ownLoad tok 0 rfl rfl rfl rfl (by decide) rfl rfl rfl rfl b2 rfl (List.cons_ne_nil _ _) ?_))
      have es1 : obSet (.row 3 1 (rowI A)) ((i : Int)).toNat 0 (cI q2) = .row 3 1 (rowI (A.set i q2)) := by rw [e1]; exact obset_int g1
      have es2 : obSet (.row 3 1 (rowI (A.set i q2))) (((n : Int) - 1 - i)).toNat 0 (cI q1) = .row 3 1 (rowI ((A.set i q2).set (n - 1 - i) q1)) := by rw [e2]; exact obset_int g3
      refine s_storeQ tok 0 rfl rfl rfl rfl rfl rfl rfl rfl (by decide) rfl rfl b1 (Nat.le_refl _) es1 ?_
      repeat (first | refine gA pk ?_ | (show AL _ _ _ _ _ _ _; first | refine zoi tok 0 rfl rfl rfl rfl (by decide) rfl rfl rfl rfl rfl rfl (by omega) (by omega) ?_ | refine s_storeQ tok 0 rfl rfl rfl rfl rfl rfl rfl rfl (by decide) rfl rfl b3 (Nat.le_refl _) es2 ?_))
      refine ⟨i + 1, by omega, by omega, ?_, by rw [← hs]; exact OSub.refl _⟩
      rw [show (n : Int) - 1 - ((i + 1 : Nat) : Int) = (n : Int) - 1 - i - 1 by omega]
      exact subQ
    · repeat (first | refine gA pk ?_)
      refine fin (x := .tup []) (.inl rfl) rfl (Sub.refl _) ⟨rfl, rfl⟩ ?_
      rw [hall i (by omega)]
      exact OSub.refl _
def idxV (l : List Int) (v : Int) : Int := match l.findIdx? (fun x => decide (v = x)) with | some i => i | none => -1
theorem idxV_pos (l : List Int) (v : Int) : (v ∈ l ∧ 0 ≤ idxV l v) ∨ (v ∉ l ∧ idxV l v = -1) := by
  unfold idxV
  by_cases h : v ∈ l
  · left
    refine ⟨h, ?_⟩
    cases hf : l.findIdx? (fun x => decide (v = x)) with
    | none =>
      rw [List.findIdx?_eq_none_iff] at hf
      have := hf v h
      simp at this
    | some i => simp only; omega
  · right
    refine ⟨h, ?_⟩
    rw [show l.findIdx? (fun x => decide (v = x)) = none from by
      rw [List.findIdx?_eq_none_iff]
      intro x hx
      simp only [decide_eq_false_iff_not]
      rintro rfl
      exact h hx]
theorem idxV_at {l : List Int} {v : Int} {k : Nat} (h : ∀ x ∈ l.take k, v ≠ x) (hk : l[k]? = some v) : idxV l v = k := by
  have : l.findIdx? (fun x => decide (v = x)) = some k := by
    rw [List.findIdx?_eq_some_iff_getElem]
    obtain ⟨hlt, he⟩ := List.getElem?_eq_some_iff.1 hk
    refine ⟨hlt, by simp [he], fun j hj => ?_⟩
    have := h l[j] (by rw [List.mem_take_iff_getElem]; exact ⟨j, by omega, rfl⟩)
    simpa using this
  unfold idxV
  rw [this]
theorem take_allI {α : Type} {p : α → Prop} {l : List α} {k : Nat} {x : α} (hx : l[k]? = some x) (h : ∀ y ∈ l.take k, p y) (hp : p x) : ∀ y ∈ l.take (k + 1), p y := by
  obtain ⟨hk, he⟩ := List.getElem?_eq_some_iff.1 hx
  intro y hy
  rw [List.take_succ_eq_append_getElem hk] at hy
  rcases List.mem_append.1 hy with h1 | h1
  · exact h y h1
  · obtain rfl := List.mem_singleton.1 h1
    rw [he]; exact hp
theorem IndexV_spec (l : List Int) (hl : l.length ≤ 1000000) (v : Int) : Pure Tryz.prog 123 [ints l, AI v] (AI (idxV l v)) := by
  have ll : (rowI l).length = l.length := by simp
  refine zen Tryz.func123 (by kernel_rfl) rfl Tryz.ntmps123 rfl (by simp) ?_
  repeat (first | refine gA pk ?_)
  rw [ll]
  refine zlx (fun k : Nat => [(0, ints l), (1, AI v), (7, AI l.length), (8, AI k)]) (fun _ => []) (fun k => k ≤ l.length ∧ ∀ x ∈ l.take k, v ≠ x) (fun k => l.length - k) 0 ⟨Nat.zero_le _, by simp⟩ ?_ (OSub.refl _) ?_
  · exact subQ
  · rintro k ⟨hk, hp⟩
    rcases Nat.lt_or_ge k l.length with h | h
    · have hx := List.getElem?_eq_getElem h
      generalize l[k] = y at hx
      have xk : (rowI l)[(k : Int).toNat]? = some [AI y] := zmp (f := cI) hx
      by_cases he : v = y
      · subst he
        rw [idxV_at hp hx]
        repeat (first | refine gA pk ?_ | (show AL _ _ _ _ _ _ _; first | refine jX tok xk ?_))
        refine finQ ?_
        exact ⟨rfl, rfl⟩
      · repeat (first | refine gA pk ?_ | (show AL _ _ _ _ _ _ _; first | refine jX tok xk ?_))
        exact ⟨k + 1, ⟨by omega, take_allI hx hp he⟩, by omega, by exact subQ, OSub.none _⟩
    · obtain rfl : k = l.length := by omega
      rw [List.take_length] at hp
      repeat (first | refine gA pk ?_)
      rw [show (-1 : Int) = idxV l v from by
        rcases idxV_pos l v with ⟨h1, _⟩ | ⟨_, h2⟩
        · exact absurd rfl (hp v h1)
        · exact h2.symm]
      refine finQ ?_
      exact ⟨rfl, rfl⟩
theorem ContainsV_spec (l : List Int) (hl : l.length ≤ 1000000) (v : Int) : Pure Tryz.prog 78 [ints l, AI v] (AB (decide (v ∈ l))) := by
  have h := IndexV_spec l hl v
  have hc := idxV_pos l v
  generalize idxV l v = i at *
  rcases hc with ⟨h1, h2⟩ | ⟨h1, h2⟩
  · rw [decide_eq_true h1]
    refine zen Tryz.func78 (by kernel_rfl) rfl Tryz.ntmps78 rfl (by simp) ?_
    repeat (first | refine gA pk ?_ | (show AL _ _ _ _ _ _ _; first | refine jP h ?_))
    refine finQ ?_
    exact ⟨rfl, rfl⟩
  · rw [decide_eq_false h1]
    refine zen Tryz.func78 (by kernel_rfl) rfl Tryz.ntmps78 rfl (by simp) ?_
    repeat (first | refine gA pk ?_ | (show AL _ _ _ _ _ _ _; first | refine jP h ?_))
    refine finQ ?_
    exact ⟨rfl, rfl⟩
theorem line_spec (t : Tys) (k : Nat) (hk : k ≤ t.nodes.length) (hk2 : k ≤ 1000) (hp : PR t.nodes k) (a : Int) (h0 : -1 ≤ a) (ha : a < k) : Gives Tryz.prog 192 [tysA t, AI a] 3 1 (rowI (up t.nodes a).reverse) := by
  have hlen := up_len hp hk 1000 a (by omega) ha
  have ln : (t.nodes.map cNod).length = t.nodes.length := by simp
  refine zen Tryz.func192 (by kernel_rfl) rfl Tryz.ntmps192 rfl (by simp) ?_; refine a_seq ?_; refine a_reg ?_; (repeat (first | refine gZ pk ?_ | (show AL _ _ _ _ _ _ _; first | refine jB (fun u => ?_)))); refine zfb 0 2 rfl rfl ?_
  repeat (first | refine gA pk ?_)
  refine a_loop3 (fun (c : Int) (o : List Int) (v : Value) => [(1, AI c), (2, tysP t), (5, .lit v)]) (fun c o v => [(v, .row 3 1 (rowI o))]) (fun c o v => -1 ≤ c ∧ c < k ∧ o ++ up t.nodes c = up t.nodes a) (fun c o v => (c + 1).toNat) a [] (.slice none 0 0) ⟨h0, ha, rfl⟩ ?_ (.free (OSub.none _)) ?_
  · exact subQ
  · rintro c o v ⟨hc0, hck, ho⟩
    by_cases hc : 0 ≤ c
    · have hx := List.getElem?_eq_getElem (l := t.nodes) (i := c.toNat) (by omega)
      generalize t.nodes[c.toNat] = n at hx
      have hpar := hp c.toNat _ (by omega) hx
      have hs := up_step hp hc hck hx
      have xk : (t.nodes.map cNod)[c.toNat]? = some (cNod n) := zmp hx
      rw [hs] at ho
      have hol : o.length ≤ 1000 := by
        have := congrArg List.length ho
        simp only [List.length_append, List.length_cons] at this
        omega
      have lo : (rowI o).length = o.length := by simp
      repeat (first | refine gA pk ?_)
      (first | refine s_build1 tok rfl rfl rfl rfl rfl rfl rfl rfl (fun u => ?_) | refine s_build1M tok rfl rfl rfl rfl rfl rfl rfl (fun u => ?_) | refine zba tok rfl rfl rfl rfl rfl rfl rfl rfl (by decide) (fun u => ?_)); refine s_append1 tok 0 rfl rfl rfl rfl rfl rfl (by decide) rfl rfl rfl rfl (by omega) (by omega) (fun v' => ?_)
      repeat (first | refine gA pk ?_ | (show AL _ _ _ _ _ _ _; first | refine jX tok xk ?_))
      refine ⟨n.par, o ++ [c], v', ⟨by omega, by omega, by rw [← ho]; simp⟩, by omega, ?_, ?_⟩
      · exact subQ
      · rw [rowI, List.map_append]
        first | exact OSub.refl _ | exact .keep (.drop .nil) | exact .drop (.keep .nil)
    · rw [up_neg (a := c) (by omega), List.append_nil] at ho
      subst ho
      have hr := Reverse_spec (up t.nodes a) (by omega) v
      repeat (first | refine gA pk ?_)
      refine s_callO 0 rfl rfl rfl rfl rfl rfl (hr) (SubL.of_eq rfl) ?_
      rintro _ _ ⟨rfl, rfl⟩
      repeat (first | refine gA pk ?_)
      exact fin (x := .lit _) (.inr rfl) rfl (Sub.refl _) ⟨_, rfl, rfl⟩ (OSub.refl _)
theorem is_spec (t : Tys) (k : Nat) (hk : k ≤ t.nodes.length) (hk2 : k ≤ 1000) (hp : PR t.nodes k) (a b : Int) (h0 : -1 ≤ a) (ha : a < k) : Pure Tryz.prog 171 [tysA t, AI a, AI b] (AB (decide (b ∈ up t.nodes a))) := by
  have hlen := up_len hp hk 1000 a (by omega) ha
  have s1 := (line_spec t k hk hk2 hp a h0 ha).pure
  have s2 := ContainsV_spec (up t.nodes a).reverse (by simp; omega) b
  rw [show decide (b ∈ (up t.nodes a).reverse) = decide (b ∈ up t.nodes a) by simp] at s2
  generalize decide (b ∈ up t.nodes a) = c at *
  refine zen Tryz.func171 (by kernel_rfl) rfl Tryz.ntmps171 rfl (by simp) ?_; refine a_seq ?_; refine a_reg ?_; (repeat (first | refine gZ pk ?_ | (show AL _ _ _ _ _ _ _; first | refine jB (fun u => ?_)))); refine zfb 0 3 rfl rfl ?_
  repeat (first | refine gA pk ?_ | (show AL _ _ _ _ _ _ _; first | refine jP s1 ?_ | refine jP s2 ?_))
  refine finQ ?_
  exact ⟨rfl, rfl⟩
theorem Below1_spec (t : Tys) (k : Nat) (hk : k ≤ t.nodes.length) (hp : PR t.nodes k) (b : Int) (hb : 0 ≤ b) : ∀ (m : Nat) (a : Int), a + 1 ≤ m → -1 ≤ a → a < k → Pure Tryz.prog 142 [tysA t, AI a, AI b] (AB (decide (b ∈ up t.nodes a)))
  | 0, a, hm, h0, ha => by
    obtain rfl : a = -1 := by omega
    rw [up_neg (by omega)]
    refine zen Tryz.func142 (by kernel_rfl) rfl Tryz.ntmps142 rfl (by simp) ?_; refine a_seq ?_; refine a_reg ?_; (repeat (first | refine gZ pk ?_ | (show AL _ _ _ _ _ _ _; first | refine jB (fun u => ?_)))); refine zfb 0 3 rfl rfl ?_
    repeat (first | refine gA pk ?_)
    refine finQ ?_
    exact ⟨by simp, rfl⟩
  | m + 1, a, hm, h0, ha => by
    have ih := Below1_spec t k hk hp b hb m
    by_cases hc : 0 ≤ a
    · have hx := List.getElem?_eq_getElem (l := t.nodes) (i := a.toNat) (by omega)
      generalize t.nodes[a.toNat] = n at hx
      have hpar := hp a.toNat _ (by omega) hx
      have hs := up_step hp hc ha hx
      have xk : (t.nodes.map cNod)[a.toNat]? = some (cNod n) := zmp hx
      have s1 := ih n.par (by omega) (by omega) (by omega)
      rw [hs]
      by_cases he : a = b
      · subst he
        refine zen Tryz.func142 (by kernel_rfl) rfl Tryz.ntmps142 rfl (by simp) ?_; refine a_seq ?_; refine a_reg ?_; (repeat (first | refine gZ pk ?_ | (show AL _ _ _ _ _ _ _; first | refine jB (fun u => ?_)))); refine zfb 0 3 rfl rfl ?_
        repeat (first | refine gA pk ?_)
        refine finQ ?_
        exact ⟨by simp, rfl⟩
      · rw [show decide (b ∈ a :: up t.nodes n.par) = decide (b ∈ up t.nodes n.par) by
          rw [decide_eq_decide, List.mem_cons]
          exact ⟨fun h => h.resolve_left (fun h => he h.symm), .inr⟩]
        generalize decide (b ∈ up t.nodes n.par) = c at *
        refine zen Tryz.func142 (by kernel_rfl) rfl Tryz.ntmps142 rfl (by simp) ?_; refine a_seq ?_; refine a_reg ?_; (repeat (first | refine gZ pk ?_ | (show AL _ _ _ _ _ _ _; first | refine jB (fun u => ?_)))); refine zfb 0 3 rfl rfl ?_
        repeat (first | refine gA pk ?_ | (show AL _ _ _ _ _ _ _; first | refine jX tok xk ?_ | refine jP s1 ?_))
        refine finQ ?_
        exact ⟨rfl, rfl⟩
    · rw [up_neg (by omega)]
      refine zen Tryz.func142 (by kernel_rfl) rfl Tryz.ntmps142 rfl (by simp) ?_; refine a_seq ?_; refine a_reg ?_; (repeat (first | refine gZ pk ?_ | (show AL _ _ _ _ _ _ _; first | refine jB (fun u => ?_)))); refine zfb 0 3 rfl rfl ?_
      repeat (first | refine gA pk ?_)
      refine finQ ?_
      exact ⟨by simp, rfl⟩
end Go.Proofs.YtimfponihbfimaaGreat
end
section
namespace Go.Proofs.YtimfponihbfimaaGreat
open Go.Sj Go.Sj.Typ
set_option maxRecDepth 8000
set_option maxHeartbeats 4000000
theorem given1_spec (a : Int) (t : Tys) : Pure Tryz.prog 191 [AI a, tysP t] (AB (outB t a)) := by
  have ln : (t.nodes.map cNod).length = t.nodes.length := by simp
  unfold outB
  refine zen Tryz.func191 (by kernel_rfl) rfl Tryz.ntmps191 rfl (by simp) ?_
  repeat' (first | refine gA pk ?_ | (show AL _ _ _ _ _ _ _; first | (refine s_cmp rfl rfl rfl rfl rfl rfl rfl (fun hb => ?_) (fun hb => ?_) <;> simp only [cmpP] at hb)) | fail)
  all_goals first | ((refine finQ ?_); exact ⟨ABt (by omega), rfl⟩) | ((refine finQ ?_); exact ⟨ABf (by omega), rfl⟩)
theorem given_spec (t : Tys) (ht : Small t) (l : List Int) (hl : l.length ≤ 1000) : Pure Tryz.prog 170 [tysA t, ints l] (AI (givenR t l)) := by
  have s1 := Valid_spec t ht
  have s2 := ContainsFuncI_spec l (by omega) 191 [tysP t] (outB t) (fun a _ => given1_spec a t)
  unfold givenR
  generalize (validR t).2 = e at *
  generalize (validR t).1 = nm at *
  generalize l.any (outB t) = b at *
  by_cases he : e = 0
  · subst he
    rw [if_neg (by decide)]
    cases b with
    | true =>
      rw [if_pos rfl]
      refine zen Tryz.func170 (by kernel_rfl) rfl Tryz.ntmps170 rfl (by simp) ?_; refine a_seq ?_; refine a_reg ?_; (repeat (first | refine gZ pk ?_ | (show AL _ _ _ _ _ _ _; first | refine jB (fun u => ?_)))); refine zfb 0 2 rfl rfl ?_
      repeat (first | refine gA pk ?_ | (show AL _ _ _ _ _ _ _; first | refine jP s1 ?_ | refine jP s2 ?_))
      refine finQ ?_
      exact ⟨rfl, rfl⟩
    | false =>
      rw [if_neg (by decide)]
      refine zen Tryz.func170 (by kernel_rfl) rfl Tryz.ntmps170 rfl (by simp) ?_; refine a_seq ?_; refine a_reg ?_; (repeat (first | refine gZ pk ?_ | (show AL _ _ _ _ _ _ _; first | refine jB (fun u => ?_)))); refine zfb 0 2 rfl rfl ?_
      repeat (first | refine gA pk ?_ | (show AL _ _ _ _ _ _ _; first | refine jP s1 ?_ | refine jP s2 ?_))
      refine finQ ?_
      exact ⟨rfl, rfl⟩
  · rw [if_pos he]
    refine zen Tryz.func170 (by kernel_rfl) rfl Tryz.ntmps170 rfl (by simp) ?_; refine a_seq ?_; refine a_reg ?_; (repeat (first | refine gZ pk ?_ | (show AL _ _ _ _ _ _ _; first | refine jB (fun u => ?_)))); refine zfb 0 2 rfl rfl ?_
    repeat (first | refine gA pk ?_ | (show AL _ _ _ _ _ _ _; first | refine jP s1 ?_))
    refine finQ ?_
    exact ⟨rfl, rfl⟩
theorem given_own (t : Tys) (ht : Small t) (l : List Int) (hl : l.length ≤ 1000) (v : Value) : ACalls Tryz.prog 170 [tysA t, .lit v] [(v, .row 3 1 (rowI l))] (fun y L => y = AI (givenR t l) ∧ L = []) :=
  ACalls.give (given_spec t ht l hl) trivial ⟨FZ.refl _, FZ.here, trivial⟩
theorem refGiven_spec (t : Tys) (ht : Small t) (a b : Int) : Pure Tryz.prog 160 [tysA t, AI a, AI b] (AI (givenR t [a, b])) := by
  have ln : (t.nodes.map cNod).length = t.nodes.length := by simp
  have hnl := ht.nodes
  have s1 := refValid_spec t ht
  have s2 := in_spec
  have hE : givenR t [a, b] = if (validR t).2 ≠ 0 then (validR t).2 else if (0 ≤ a ∧ a < t.nodes.length) ∧ (0 ≤ b ∧ b < t.nodes.length) then 0 else 6 := by
    unfold givenR
    split
    · rfl
    · simp only [List.any_cons, List.any_nil, Bool.or_false, outB]
      by_cases h : (0 ≤ a ∧ a < t.nodes.length) ∧ (0 ≤ b ∧ b < t.nodes.length)
      · rw [if_pos h, decide_eq_false (by omega), decide_eq_false (by omega)]; rfl
      · rw [if_neg h]
        by_cases h1 : a < 0 ∨ (t.nodes.length : Int) ≤ a
        · rw [decide_eq_true h1]; rfl
        · rw [decide_eq_false h1, decide_eq_true (by omega)]; rfl
  rw [hE]
  generalize (validR t).2 = e at *
  generalize (validR t).1 = nm at *
  by_cases he : e = 0
  · subst he
    rw [if_neg (by decide)]
    refine zen Tryz.func160 (by kernel_rfl) rfl Tryz.ntmps160 rfl (by simp) ?_; refine a_seq ?_; refine a_reg ?_; (repeat (first | refine gZ pk ?_ | (show AL _ _ _ _ _ _ _; first | refine jB (fun u => ?_)))); refine zfb 0 3 rfl rfl ?_
    repeat' (first | refine gA pk ?_ | (show AL _ _ _ _ _ _ _; first | refine jP s1 ?_ | (refine s_callB rfl rfl rfl rfl rfl (s2 _ _ _) (SubL.of_eq rfl) (fun hb => ?_) (fun hb => ?_) <;> (first | replace hb := of_decide_eq_true hb | replace hb := of_decide_eq_false hb | skip)) | (refine s_cmp rfl rfl rfl rfl rfl rfl rfl (fun hb => ?_) (fun hb => ?_) <;> simp only [cmpP] at hb)) | fail)
    all_goals refine finQ ?_
    all_goals first | exact ⟨if6_ok (by omega), rfl⟩ | exact ⟨if6_bad (by omega), rfl⟩
  · rw [if_pos he]
    refine zen Tryz.func160 (by kernel_rfl) rfl Tryz.ntmps160 rfl (by simp) ?_; refine a_seq ?_; refine a_reg ?_; (repeat (first | refine gZ pk ?_ | (show AL _ _ _ _ _ _ _; first | refine jB (fun u => ?_)))); refine zfb 0 3 rfl rfl ?_
    repeat (first | refine gA pk ?_ | (show AL _ _ _ _ _ _ _; first | refine jP s1 ?_))
    refine finQ ?_
    exact ⟨rfl, rfl⟩
theorem given_at {t : Tys} (ht : Small t) {a b : Int} (h : givenR t [a, b] = 0) : PR t.nodes t.nodes.length ∧ (0 ≤ a ∧ a < t.nodes.length) ∧ (0 ≤ b ∧ b < t.nodes.length) ∧ t.nodes.length ≤ 1000 :=
  ⟨given_pr h, (given_ok h).2 a (by simp), (given_ok h).2 b (by simp), by have := ht.nodes; omega⟩
theorem Is_spec (t : Tys) (ht : Small t) (a b : Int) : Pure Tryz.prog 121 [tysA t, AI a, AI b] (AB (isR t a b)) := by
  have s1 := given_own t ht [a, b] (by simp)
  unfold isR
  by_cases hg : givenR t [a, b] = 0
  · obtain ⟨hp, ha, hb, hk⟩ := given_at ht hg
    rw [hg] at s1
    have s2 := is_spec t _ (Nat.le_refl _) hk hp a b (by omega) ha.2
    rw [decide_eq_true hg, Bool.true_and]
    generalize decide (b ∈ up t.nodes a) = c at *
    refine zen Tryz.func121 (by kernel_rfl) rfl Tryz.ntmps121 rfl (by simp) ?_; refine a_seq ?_; refine a_reg ?_; (repeat (first | refine gZ pk ?_ | (show AL _ _ _ _ _ _ _; first | refine jB (fun u => ?_)))); refine zfb 0 3 rfl rfl ?_
    repeat (first | refine gA pk ?_ | (show AL _ _ _ _ _ _ _; first | refine s_build tok (parts := [(0, .tmp _), (1, .tmp _)]) rfl rfl rfl rfl rfl rfl rfl rfl (by decide) (by decide) (fun u => ?_)))
    refine s_callO 0 rfl rfl rfl rfl rfl rfl (s1 _) (SubL.of_eq rfl) ?_
    rintro _ _ ⟨rfl, rfl⟩
    repeat (first | refine gA pk ?_ | (show AL _ _ _ _ _ _ _; first | refine jP s2 ?_))
    refine finQ ?_
    exact ⟨rfl, rfl⟩
  · rw [decide_eq_false hg, Bool.false_and]
    generalize givenR t [a, b] = e at *
    refine zen Tryz.func121 (by kernel_rfl) rfl Tryz.ntmps121 rfl (by simp) ?_; refine a_seq ?_; refine a_reg ?_; (repeat (first | refine gZ pk ?_ | (show AL _ _ _ _ _ _ _; first | refine jB (fun u => ?_)))); refine zfb 0 3 rfl rfl ?_
    repeat (first | refine gA pk ?_ | (show AL _ _ _ _ _ _ _; first | refine s_build tok (parts := [(0, .tmp _), (1, .tmp _)]) rfl rfl rfl rfl rfl rfl rfl rfl (by decide) (by decide) (fun u => ?_)))
    refine s_callO 0 rfl rfl rfl rfl rfl rfl (s1 _) (SubL.of_eq rfl) ?_
    rintro _ _ ⟨rfl, rfl⟩
    repeat (first | refine gA pk ?_)
    refine finQ ?_
    exact ⟨rfl, rfl⟩
theorem refIs_spec (t : Tys) (ht : Small t) (a b : Int) : Pure Tryz.prog 181 [tysA t, AI a, AI b] (AB (isR t a b)) := by
  have s1 := refGiven_spec t ht a b
  unfold isR
  by_cases hg : givenR t [a, b] = 0
  · obtain ⟨hp, ha, hb, hk⟩ := given_at ht hg
    rw [hg] at s1
    have s2 := Below1_spec t _ (Nat.le_refl _) hp b hb.1 1000 a (by omega) (by omega) ha.2
    rw [decide_eq_true hg, Bool.true_and]
    generalize decide (b ∈ up t.nodes a) = c at *
    refine zen Tryz.func181 (by kernel_rfl) rfl Tryz.ntmps181 rfl (by simp) ?_; refine a_seq ?_; refine a_reg ?_; (repeat (first | refine gZ pk ?_ | (show AL _ _ _ _ _ _ _; first | refine jB (fun u => ?_)))); refine zfb 0 3 rfl rfl ?_
    repeat (first | refine gA pk ?_ | (show AL _ _ _ _ _ _ _; first | refine jP s1 ?_ | refine jP s2 ?_))
    refine finQ ?_
    exact ⟨rfl, rfl⟩
  · rw [decide_eq_false hg, Bool.false_and]
    generalize givenR t [a, b] = e at *
    refine zen Tryz.func181 (by kernel_rfl) rfl Tryz.ntmps181 rfl (by simp) ?_; refine a_seq ?_; refine a_reg ?_; (repeat (first | refine gZ pk ?_ | (show AL _ _ _ _ _ _ _; first | refine jB (fun u => ?_)))); refine zfb 0 3 rfl rfl ?_
    repeat (first | refine gA pk ?_ | (show AL _ _ _ _ _ _ _; first | refine jP s1 ?_))
    refine finQ ?_
    exact ⟨rfl, rfl⟩
end Go.Proofs.YtimfponihbfimaaGreat
end
