/- Parts of a proof. -/
import Derived.Test.YtddohheabpiljaaGreatE17
set_option linter.unusedVariables false
set_option linter.unusedSimpArgs false
section
namespace Go.Proofs.YtddohheabpiljaaGreat
open Go.Sj Go.Sj.Typ
set_option maxRecDepth 8000
set_option maxHeartbeats 4000000
theorem obset_int {E : Nat} {l : List Int} {j : Nat} {q0 q : Int} (h : l[j]? = some q0) : obSet (.row E 1 (rowI l)) j 0 (cI q) = .row E 1 (rowI (l.set j q)) := by
  simp only [obSet, rowI, List.map_set]
  rw [List.getD_eq_getElem?_getD, List.getElem?_map, h]
  rfl
theorem obat_int {E : Nat} {l : List Int} {j : Nat} {q0 : Int} (h : l[j]? = some q0) : obAt (.row E 1 (rowI l)) j 0 = some (cI q0) := by
  simp only [obAt, rowI, List.getElem?_map, h]; rfl
theorem Reverse_spec (l : List Int) (hl : l.length ≤ 1000000) (v : Value) : ACalls Tryz.prog 193 [.lit v] [(v, .row 3 1 (rowI l))] (fun y M => y = .tup [] ∧ M = [(v, .row 3 1 (rowI l.reverse))]) := by
  have hall := fun i => rev_all l (i := i)
  have hzero := rev_zero l
  generalize hf : (fun k => l.getD k default) = f at *
  generalize hn : l.length = n at *
  have ll : (rowI l).length = n := by simp [hn]
  refine a_enter Tryz.func193 (by kernel_rfl) rfl Tryz.ntmps193 rfl (by simp) ?_
  repeat (first | refine gA pk ?_ | (show AL _ _ _ _ _ _ _; first | refine s_ownLen tok 0 rfl rfl rfl rfl (by decide) rfl rfl rfl ?_))
  refine a_loopX (fun i : Nat => [(0, .lit v), (2, AI i), (3, AI ((n : Int) - 1 - i))]) (fun i => [(v, .row 3 1 (rowI (Typ.mkL n (revTo n f i))))]) (fun i => i ≤ n) (fun i => n - i) 0 (Nat.zero_le _) ?_ (by rw [hzero]; exact OSub.refl _) ?_
  · rw [ll, show (n : Int) - 1 - ((0 : Nat) : Int) = (n : Int) - 1 by omega]
    exact subQ
  · intro i hi
    have lm : (rowI (Typ.mkL n (revTo n f i))).length = n := by rw [List.length_map, mkL_length]
    by_cases h1 : i + i + 1 < n
    · have hs := rev_step f h1
      have g1 : (Typ.mkL n (revTo n f i))[i]? = some (f i) := by rw [mkL_get (by omega), revTo, if_neg (by omega)]
      have g2 : (Typ.mkL n (revTo n f i))[n - 1 - i]? = some (f (n - 1 - i)) := by rw [mkL_get (by omega), revTo, if_neg (by omega)]
      generalize Typ.mkL n (revTo n f i) = A at *
      generalize f i = q1 at *
      generalize f (n - 1 - i) = q2 at *
      have e1 : ((i : Int)).toNat = i := by omega
      have e2 : ((n : Int) - 1 - i).toNat = n - 1 - i := by omega
      have g3 : (A.set i q2)[n - 1 - i]? = some q2 := by rw [List.getElem?_set, if_neg (by omega)]; exact g2
      have lm2 : (rowI (A.set i q2)).length = n := by simpa using lm
      have b1 : obAt (.row 3 1 (rowI A)) ((i : Int)).toNat 0 = some (cI q1) := by rw [e1]; exact obat_int g1
      have b2 : obAt (.row 3 1 (rowI A)) (((n : Int) - 1 - i)).toNat 0 = some (cI q2) := by rw [e2]; exact obat_int g2
      have b3 : obAt (.row 3 1 (rowI (A.set i q2))) (((n : Int) - 1 - i)).toNat 0 = some (cI q2) := by rw [e2]; exact obat_int g3
      repeat (first | (show AWp _ _ _ _ _ _; first | refine a_regRO [0, 1, 2, 3, 4, 5, 6, 7, 8, 9, 10, 11, 12, 13, 14, 15] mixed rfl rfl (by decide +kernel) ?_) | refine gN pk ?_ | (show AL _ _ _ _ _ _ _; first | refine s_ownIndex tok 0 rfl rfl rfl rfl (by decide) rfl rfl rfl rfl rfl rfl (by omega) (by omega) ?_ | refine s_ownLoad tok 0 rfl rfl rfl rfl (by decide) rfl rfl rfl rfl b1 rfl (List.cons_ne_nil _ _) ?_ | refine s_ownLoad tok 0 rfl rfl rfl rfl (by decide) rfl rfl rfl rfl b2 rfl (List.cons_ne_nil _ _) ?_))
      have es1 : obSet (.row 3 1 (rowI A)) ((i : Int)).toNat 0 (cI q2) = .row 3 1 (rowI (A.set i q2)) := by rw [e1]; exact obset_int g1
      have es2 : obSet (.row 3 1 (rowI (A.set i q2))) (((n : Int) - 1 - i)).toNat 0 (cI q1) = .row 3 1 (rowI ((A.set i q2).set (n - 1 - i) q1)) := by rw [e2]; exact obset_int g3
      refine s_storeQ tok 0 rfl rfl rfl rfl rfl rfl rfl rfl (by decide) rfl rfl b1 (Nat.le_refl _) es1 ?_
      repeat (first | refine gA pk ?_ | (show AL _ _ _ _ _ _ _; first | refine s_ownIndex tok 0 rfl rfl rfl rfl (by decide) rfl rfl rfl rfl rfl rfl (by omega) (by omega) ?_ | refine s_storeQ tok 0 rfl rfl rfl rfl rfl rfl rfl rfl (by decide) rfl rfl b3 (Nat.le_refl _) es2 ?_))
      refine ⟨i + 1, by omega, by omega, ?_, by rw [← hs]; exact OSub.refl _⟩
      rw [show (n : Int) - 1 - ((i + 1 : Nat) : Int) = (n : Int) - 1 - i - 1 by omega]
      exact subQ
    · repeat (first | refine gA pk ?_)
      refine fin (x := .tup []) (.inl rfl) rfl (Sub.refl _) ⟨rfl, rfl⟩ ?_
      rw [hall i (by omega)]
      exact OSub.refl _
def idxV (l : List Int) (v : Int) : Int := match l.findIdx? (fun x => decide (v = x)) with | some i => i | none => -1
theorem idxV_pos (l : List Int) (v : Int) : (v ∈ l ∧ 0 ≤ idxV l v) ∨ (v ∉ l ∧ idxV l v = -1) := by
  unfold idxV
  by_cases h : v ∈ l
  · left
    refine ⟨h, ?_⟩
    cases hf : l.findIdx? (fun x => decide (v = x)) with
    | none =>
      rw [List.findIdx?_eq_none_iff] at hf
      have := hf v h
      simp at this
    | some i => simp only; omega
  · right
    refine ⟨h, ?_⟩
    rw [show l.findIdx? (fun x => decide (v = x)) = none from by
      rw [List.findIdx?_eq_none_iff]
      intro x hx
      simp only [decide_eq_false_iff_not]
      rintro rfl
      exact h hx]
theorem idxV_at {l : List Int} {v : Int} {k : Nat} (h : ∀ x ∈ l.take k, v ≠ x) (hk : l[k]? = some v) : idxV l v = k := by
  have : l.findIdx? (fun x => decide (v = x)) = some k := by
    rw [List.findIdx?_eq_some_iff_getElem]
    obtain ⟨hlt, he⟩ := List.getElem?_eq_some_iff.1 hk
    refine ⟨hlt, by simp [he], fun j hj => ?_⟩
    have := h l[j] (by rw [List.mem_take_iff_getElem]; exact ⟨j, by omega, rfl⟩)
    simpa using this
  unfold idxV
  rw [this]
theorem take_allI {α : Type} {p : α → Prop} {l : List α} {k : Nat} {x : α} (hx : l[k]? = some x) (h : ∀ y ∈ l.take k, p y) (hp : p x) : ∀ y ∈ l.take (k + 1), p y := by
  obtain ⟨hk, he⟩ := List.getElem?_eq_some_iff.1 hx
  intro y hy
  rw [List.take_succ_eq_append_getElem hk] at hy
  rcases List.mem_append.1 hy with h1 | h1
  · exact h y h1
  · obtain rfl := List.mem_singleton.1 h1
    rw [he]; exact hp
theorem IndexV_spec (l : List Int) (hl : l.length ≤ 1000000) (v : Int) : Pure Tryz.prog 110 [ints l, AI v] (AI (idxV l v)) := by
  have ll : (rowI l).length = l.length := by simp
  refine a_enter Tryz.func110 (by kernel_rfl) rfl Tryz.ntmps110 rfl (by simp) ?_
  repeat (first | refine gA pk ?_)
  rw [ll]
  refine a_loopX (fun k : Nat => [(0, ints l), (1, AI v), (7, AI l.length), (8, AI k)]) (fun _ => []) (fun k => k ≤ l.length ∧ ∀ x ∈ l.take k, v ≠ x) (fun k => l.length - k) 0 ⟨Nat.zero_le _, by simp⟩ ?_ (OSub.refl _) ?_
  · exact subQ
  · rintro k ⟨hk, hp⟩
    rcases Nat.lt_or_ge k l.length with h | h
    · have hx := List.getElem?_eq_getElem h
      generalize l[k] = y at hx
      have xk : (rowI l)[(k : Int).toNat]? = some [AI y] := map_get (f := cI) hx
      by_cases he : v = y
      · subst he
        rw [idxV_at hp hx]
        repeat (first | refine gA pk ?_ | (show AL _ _ _ _ _ _ _; first | refine jX tok xk ?_))
        refine finQ ?_
        exact ⟨rfl, rfl⟩
      · repeat (first | refine gA pk ?_ | (show AL _ _ _ _ _ _ _; first | refine jX tok xk ?_))
        exact ⟨k + 1, ⟨by omega, take_allI hx hp he⟩, by omega, by exact subQ, OSub.none _⟩
    · obtain rfl : k = l.length := by omega
      rw [List.take_length] at hp
      repeat (first | refine gA pk ?_)
      rw [show (-1 : Int) = idxV l v from by
        rcases idxV_pos l v with ⟨h1, _⟩ | ⟨_, h2⟩
        · exact absurd rfl (hp v h1)
        · exact h2.symm]
      refine finQ ?_
      exact ⟨rfl, rfl⟩
theorem ContainsV_spec (l : List Int) (hl : l.length ≤ 1000000) (v : Int) : Pure Tryz.prog 94 [ints l, AI v] (AB (decide (v ∈ l))) := by
  have h := IndexV_spec l hl v
  have hc := idxV_pos l v
  generalize idxV l v = i at *
  rcases hc with ⟨h1, h2⟩ | ⟨h1, h2⟩
  · rw [decide_eq_true h1]
    refine a_enter Tryz.func94 (by kernel_rfl) rfl Tryz.ntmps94 rfl (by simp) ?_
    repeat (first | refine gA pk ?_ | (show AL _ _ _ _ _ _ _; first | refine jP h ?_))
    refine finQ ?_
    exact ⟨rfl, rfl⟩
  · rw [decide_eq_false h1]
    refine a_enter Tryz.func94 (by kernel_rfl) rfl Tryz.ntmps94 rfl (by simp) ?_
    repeat (first | refine gA pk ?_ | (show AL _ _ _ _ _ _ _; first | refine jP h ?_))
    refine finQ ?_
    exact ⟨rfl, rfl⟩
theorem line_spec (t : Tys) (k : Nat) (hk : k ≤ t.nodes.length) (hk2 : k ≤ 1000) (hp : PR t.nodes k) (a : Int) (h0 : -1 ≤ a) (ha : a < k) : Gives Tryz.prog 184 [tysA t, AI a] 3 1 (rowI (up t.nodes a).reverse) := by
  have hlen := up_len hp hk 1000 a (by omega) ha
  have ln : (t.nodes.map cNod).length = t.nodes.length := by simp
  refine a_enter Tryz.func184 (by kernel_rfl) rfl Tryz.ntmps184 rfl (by simp) ?_; refine a_seq ?_; refine a_reg ?_; (repeat (first | refine gZ pk ?_ | (show AL _ _ _ _ _ _ _; first | refine jB (fun u => ?_)))); refine a_frzBox 0 2 rfl rfl ?_
  repeat (first | refine gA pk ?_)
  refine a_loop3 (fun (c : Int) (o : List Int) (v : Value) => [(1, AI c), (2, tysP t), (5, .lit v)]) (fun c o v => [(v, .row 3 1 (rowI o))]) (fun c o v => -1 ≤ c ∧ c < k ∧ o ++ up t.nodes c = up t.nodes a) (fun c o v => (c + 1).toNat) a [] (.slice none 0 0) ⟨h0, ha, rfl⟩ ?_ (.free (OSub.none _)) ?_
  · exact subQ
  · rintro c o v ⟨hc0, hck, ho⟩
    by_cases hc : 0 ≤ c
    · have hx := List.getElem?_eq_getElem (l := t.nodes) (i := c.toNat) (by omega)
      generalize t.nodes[c.toNat] = n at hx
      have hpar := hp c.toNat _ (by omega) hx
      have hs := up_step hp hc hck hx
      have xk : (t.nodes.map cNod)[c.toNat]? = some (cNod n) := map_get hx
      rw [hs] at ho
      have hol : o.length ≤ 1000 := by
        have := congrArg List.length ho
        simp only [List.length_append, List.length_cons] at this
        omega
      have lo : (rowI o).length = o.length := by simp
      repeat (first | refine gA pk ?_)
      (first | refine s_build1 tok rfl rfl rfl rfl rfl rfl rfl rfl (fun u => ?_) | refine s_build1M tok rfl rfl rfl rfl rfl rfl rfl (fun u => ?_) | refine s_build1A tok rfl rfl rfl rfl rfl rfl rfl rfl (by decide) (fun u => ?_)); refine s_append1 tok 0 rfl rfl rfl rfl rfl rfl (by decide) rfl rfl rfl rfl (by omega) (by omega) (fun v' => ?_)
      repeat (first | refine gA pk ?_ | (show AL _ _ _ _ _ _ _; first | refine jX tok xk ?_))
      refine ⟨n.par, o ++ [c], v', ⟨by omega, by omega, by rw [← ho]; simp⟩, by omega, ?_, ?_⟩
      · exact subQ
      · rw [rowI, List.map_append]
        first | exact OSub.refl _ | exact .keep (.drop .nil) | exact .drop (.keep .nil)
    · rw [up_neg (a := c) (by omega), List.append_nil] at ho
      subst ho
      have hr := Reverse_spec (up t.nodes a) (by omega) v
      repeat (first | refine gA pk ?_)
      refine s_callO 0 rfl rfl rfl rfl rfl rfl (hr) (SubL.of_eq rfl) ?_
      rintro _ _ ⟨rfl, rfl⟩
      repeat (first | refine gA pk ?_)
      exact fin (x := .lit _) (.inr rfl) rfl (Sub.refl _) ⟨_, rfl, rfl⟩ (OSub.refl _)
theorem is_spec (t : Tys) (k : Nat) (hk : k ≤ t.nodes.length) (hk2 : k ≤ 1000) (hp : PR t.nodes k) (a b : Int) (h0 : -1 ≤ a) (ha : a < k) : Pure Tryz.prog 173 [tysA t, AI a, AI b] (AB (decide (b ∈ up t.nodes a))) := by
  have hlen := up_len hp hk 1000 a (by omega) ha
  have s1 := (line_spec t k hk hk2 hp a h0 ha).pure
  have s2 := ContainsV_spec (up t.nodes a).reverse (by simp; omega) b
  rw [show decide (b ∈ (up t.nodes a).reverse) = decide (b ∈ up t.nodes a) by simp] at s2
  generalize decide (b ∈ up t.nodes a) = c at *
  refine a_enter Tryz.func173 (by kernel_rfl) rfl Tryz.ntmps173 rfl (by simp) ?_; refine a_seq ?_; refine a_reg ?_; (repeat (first | refine gZ pk ?_ | (show AL _ _ _ _ _ _ _; first | refine jB (fun u => ?_)))); refine a_frzBox 0 3 rfl rfl ?_
  repeat (first | refine gA pk ?_ | (show AL _ _ _ _ _ _ _; first | refine jP s1 ?_ | refine jP s2 ?_))
  refine finQ ?_
  exact ⟨rfl, rfl⟩
theorem Below1_spec (t : Tys) (k : Nat) (hk : k ≤ t.nodes.length) (hp : PR t.nodes k) (b : Int) (hb : 0 ≤ b) : ∀ (m : Nat) (a : Int), a + 1 ≤ m → -1 ≤ a → a < k → Pure Tryz.prog 72 [tysA t, AI a, AI b] (AB (decide (b ∈ up t.nodes a)))
  | 0, a, hm, h0, ha => by
    obtain rfl : a = -1 := by omega
    rw [up_neg (by omega)]
    refine a_enter Tryz.func72 (by kernel_rfl) rfl Tryz.ntmps72 rfl (by simp) ?_; refine a_seq ?_; refine a_reg ?_; (repeat (first | refine gZ pk ?_ | (show AL _ _ _ _ _ _ _; first | refine jB (fun u => ?_)))); refine a_frzBox 0 3 rfl rfl ?_
    repeat (first | refine gA pk ?_)
    refine finQ ?_
    exact ⟨by simp, rfl⟩
  | m + 1, a, hm, h0, ha => by
    have ih := Below1_spec t k hk hp b hb m
    by_cases hc : 0 ≤ a
    · have hx := List.getElem?_eq_getElem (l := t.nodes) (i := a.toNat) (by omega)
      generalize t.nodes[a.toNat] = n at hx
      have hpar := hp a.toNat _ (by omega) hx
      have hs := up_step hp hc ha hx
      have xk : (t.nodes.map cNod)[a.toNat]? = some (cNod n) := map_get hx
      have s1 := ih n.par (by omega) (by omega) (by omega)
      rw [hs]
      by_cases he : a = b
      · subst he
        refine a_enter Tryz.func72 (by kernel_rfl) rfl Tryz.ntmps72 rfl (by simp) ?_; refine a_seq ?_; refine a_reg ?_; (repeat (first | refine gZ pk ?_ | (show AL _ _ _ _ _ _ _; first | refine jB (fun u => ?_)))); refine a_frzBox 0 3 rfl rfl ?_
        repeat (first | refine gA pk ?_)
        refine finQ ?_
        exact ⟨by simp, rfl⟩
      · rw [show decide (b ∈ a :: up t.nodes n.par) = decide (b ∈ up t.nodes n.par) by
          rw [decide_eq_decide, List.mem_cons]
          exact ⟨fun h => h.resolve_left (fun h => he h.symm), .inr⟩]
        generalize decide (b ∈ up t.nodes n.par) = c at *
        refine a_enter Tryz.func72 (by kernel_rfl) rfl Tryz.ntmps72 rfl (by simp) ?_; refine a_seq ?_; refine a_reg ?_; (repeat (first | refine gZ pk ?_ | (show AL _ _ _ _ _ _ _; first | refine jB (fun u => ?_)))); refine a_frzBox 0 3 rfl rfl ?_
        repeat (first | refine gA pk ?_ | (show AL _ _ _ _ _ _ _; first | refine jX tok xk ?_ | refine jP s1 ?_))
        refine finQ ?_
        exact ⟨rfl, rfl⟩
    · rw [up_neg (by omega)]
      refine a_enter Tryz.func72 (by kernel_rfl) rfl Tryz.ntmps72 rfl (by simp) ?_; refine a_seq ?_; refine a_reg ?_; (repeat (first | refine gZ pk ?_ | (show AL _ _ _ _ _ _ _; first | refine jB (fun u => ?_)))); refine a_frzBox 0 3 rfl rfl ?_
      repeat (first | refine gA pk ?_)
      refine finQ ?_
      exact ⟨by simp, rfl⟩
end Go.Proofs.YtddohheabpiljaaGreat
end
section
namespace Go.Proofs.YtddohheabpiljaaGreat
open Go.Sj Go.Sj.Typ
set_option maxRecDepth 8000
set_option maxHeartbeats 4000000
theorem given1_spec (a : Int) (t : Tys) : Pure Tryz.prog 183 [AI a, tysP t] (AB (outB t a)) := by
  have ln : (t.nodes.map cNod).length = t.nodes.length := by simp
  unfold outB
  refine a_enter Tryz.func183 (by kernel_rfl) rfl Tryz.ntmps183 rfl (by simp) ?_
  repeat' (first | refine gA pk ?_ | (show AL _ _ _ _ _ _ _; first | (refine s_cmp rfl rfl rfl rfl rfl rfl rfl (fun hb => ?_) (fun hb => ?_) <;> simp only [cmpP] at hb)) | fail)
  all_goals first | ((refine finQ ?_); exact ⟨ABt (by omega), rfl⟩) | ((refine finQ ?_); exact ⟨ABf (by omega), rfl⟩)
theorem given_spec (t : Tys) (ht : Small t) (l : List Int) (hl : l.length ≤ 1000) : Pure Tryz.prog 172 [tysA t, ints l] (AI (givenR t l)) := by
  have s1 := Valid_spec t ht
  have s2 := ContainsFuncI_spec l (by omega) 183 [tysP t] (outB t) (fun a _ => given1_spec a t)
  unfold givenR
  generalize (validR t).2 = e at *
  generalize (validR t).1 = nm at *
  generalize l.any (outB t) = b at *
  by_cases he : e = 0
  · subst he
    rw [if_neg (by decide)]
    cases b with
    | true =>
      rw [if_pos rfl]
      refine a_enter Tryz.func172 (by kernel_rfl) rfl Tryz.ntmps172 rfl (by simp) ?_; refine a_seq ?_; refine a_reg ?_; (repeat (first | refine gZ pk ?_ | (show AL _ _ _ _ _ _ _; first | refine jB (fun u => ?_)))); refine a_frzBox 0 2 rfl rfl ?_
      repeat (first | refine gA pk ?_ | (show AL _ _ _ _ _ _ _; first | refine jP s1 ?_ | refine jP s2 ?_))
      refine finQ ?_
      exact ⟨rfl, rfl⟩
    | false =>
      rw [if_neg (by decide)]
      refine a_enter Tryz.func172 (by kernel_rfl) rfl Tryz.ntmps172 rfl (by simp) ?_; refine a_seq ?_; refine a_reg ?_; (repeat (first | refine gZ pk ?_ | (show AL _ _ _ _ _ _ _; first | refine jB (fun u => ?_)))); refine a_frzBox 0 2 rfl rfl ?_
      repeat (first | refine gA pk ?_ | (show AL _ _ _ _ _ _ _; first | refine jP s1 ?_ | refine jP s2 ?_))
      refine finQ ?_
      exact ⟨rfl, rfl⟩
  · rw [if_pos he]
    refine a_enter Tryz.func172 (by kernel_rfl) rfl Tryz.ntmps172 rfl (by simp) ?_; refine a_seq ?_; refine a_reg ?_; (repeat (first | refine gZ pk ?_ | (show AL _ _ _ _ _ _ _; first | refine jB (fun u => ?_)))); refine a_frzBox 0 2 rfl rfl ?_
    repeat (first | refine gA pk ?_ | (show AL _ _ _ _ _ _ _; first | refine jP s1 ?_))
    refine finQ ?_
    exact ⟨rfl, rfl⟩
theorem given_own (t : Tys) (ht : Small t) (l : List Int) (hl : l.length ≤ 1000) (v : Value) : ACalls Tryz.prog 172 [tysA t, .lit v] [(v, .row 3 1 (rowI l))] (fun y L => y = AI (givenR t l) ∧ L = []) :=
  ACalls.give (given_spec t ht l hl) trivial ⟨FZ.refl _, FZ.here, trivial⟩
end Go.Proofs.YtddohheabpiljaaGreat
end
section
namespace Go.Proofs.YtddohheabpiljaaGreat
open Go.Sj Go.Sj.Typ
set_option maxRecDepth 8000
set_option maxHeartbeats 4000000
theorem given_own1 (t : Tys) (ht : Small t) (a : Int) (v : Value) : ACalls Tryz.prog 172 [tysA t, .lit v] [(v, .row 3 1 [[AI a]])] (fun y L => y = AI (givenR t [a]) ∧ L = []) := given_own t ht [a] (by simp) v
theorem given_at1 {t : Tys} (ht : Small t) {a : Int} (h : givenR t [a] = 0) : PR t.nodes t.nodes.length ∧ (0 ≤ a ∧ a < t.nodes.length) ∧ t.nodes.length ≤ 1000 :=
  ⟨given_pr h, (given_ok h).2 a (by simp), by have := ht.nodes; omega⟩
theorem rng_succ (p : Int → Bool) (k : Nat) : ((List.range (k + 1)).map fun (i : Nat) => (i : Int)).filter p = ((List.range k).map fun (i : Nat) => (i : Int)).filter p ++ if p k = true then [(k : Int)] else [] := by
  rw [List.range_succ, List.map_append, List.filter_append]
  congr 1
  simp only [List.map_cons, List.map_nil, List.filter_cons, List.filter_nil]
theorem rng_len (p : Int → Bool) (k : Nat) : (((List.range k).map fun (i : Nat) => (i : Int)).filter p).length ≤ k := by
  have := List.length_filter_le p ((List.range k).map fun (i : Nat) => (i : Int))
  simpa using this
theorem Below_spec (t : Tys) (ht : Small t) (a : Int) : Pure Tryz.prog 153 [tysA t, AI a] (.tup [ints (belR t a).1, AI (belR t a).2]) := by
  have s1 := given_own1 t ht a
  have ln : (t.nodes.map cNod).length = t.nodes.length := by simp
  have nil1 : Sub (.lit (.slice none 0 0)) (ints []) := Sub.nil 1
  unfold belR
  by_cases hg : givenR t [a] = 0
  · obtain ⟨hp, ha, hk⟩ := given_at1 ht hg
    rw [hg] at s1
    rw [if_neg (by omega)]
    have hst := rng_succ (fun x => decide (a ∈ up t.nodes x))
    have hln := rng_len (fun x => decide (a ∈ up t.nodes x))
    have s2 : ∀ i : Int, 0 ≤ i → i < t.nodes.length → Pure Tryz.prog 173 [tysA t, AI i, AI a] (AB (decide (a ∈ up t.nodes i))) := fun i hi h2 => is_spec t _ (Nat.le_refl _) hk hp i a (by omega) h2
    generalize hP : (fun x => decide (a ∈ up t.nodes x)) = P at *
    have hP2 : ∀ x, decide (a ∈ up t.nodes x) = P x := fun x => by rw [← hP]
    simp only [hP2] at s2 hst
    refine a_enter Tryz.func153 (by kernel_rfl) rfl Tryz.ntmps153 rfl (by simp) ?_; refine a_seq ?_; refine a_reg ?_; (repeat (first | refine gZ pk ?_ | (show AL _ _ _ _ _ _ _; first | refine jB (fun u => ?_)))); refine a_frzBox 0 2 rfl rfl ?_
    repeat (first | refine gA pk ?_ | (show AL _ _ _ _ _ _ _; first | refine s_build1 tok rfl rfl rfl rfl rfl rfl rfl rfl (fun u => ?_)))
    refine s_callO 0 rfl rfl rfl rfl rfl rfl (s1 _) (SubL.of_eq rfl) ?_
    rintro _ _ ⟨rfl, rfl⟩
    repeat (first | refine gA pk ?_)
    rw [ln]
    refine a_loop2 (fun (k : Nat) (v : Value) => [(1, AI a), (2, tysP t), (7, .lit v), (18, AI t.nodes.length), (19, AI k)]) (fun k v => [(v, .row 3 1 (rowI (((List.range k).map fun (i : Nat) => (i : Int)).filter P)))]) (fun k _ => k ≤ t.nodes.length) (fun k _ => t.nodes.length - k) 0 (.slice none 0 0) (by omega) ?_ (.free (OSub.none _)) ?_
    · exact subQ
    · intro k v hk
      by_cases hlt : k < t.nodes.length
      · have s3 := s2 k (by omega) (by omega)
        have hs := hst k
        have hl := hln k
        generalize ((List.range k).map fun (i : Nat) => (i : Int)).filter P = out at *
        have lo : (rowI out).length = out.length := by simp
        cases hb : P k with
        | true =>
          rw [hb] at s3
          rw [hb, if_pos rfl] at hs
          repeat (first | refine gA pk ?_ | (show AL _ _ _ _ _ _ _; first | refine jP s3 ?_))
          (first | refine s_build1 tok rfl rfl rfl rfl rfl rfl rfl rfl (fun u => ?_) | refine s_build1M tok rfl rfl rfl rfl rfl rfl rfl (fun u => ?_) | refine s_build1A tok rfl rfl rfl rfl rfl rfl rfl rfl (by decide) (fun u => ?_)); refine s_append1 tok 0 rfl rfl rfl rfl rfl rfl (by decide) rfl rfl rfl rfl (by omega) (by omega) (fun v' => ?_)
          repeat (first | refine gA pk ?_)
          refine ⟨k + 1, v', by omega, by omega, by exact subQ, ?_⟩
          rw [hs, rowI, List.map_append]
          exact OSub.refl _
        | false =>
          rw [hb] at s3
          rw [hb, if_neg (by decide), List.append_nil] at hs
          repeat (first | refine gA pk ?_ | (show AL _ _ _ _ _ _ _; first | refine jP s3 ?_))
          refine ⟨k + 1, v, by omega, by omega, by exact subQ, ?_⟩
          rw [hs]
          exact OSub.refl _
      · obtain rfl : k = t.nodes.length := by omega
        repeat (first | refine gA pk ?_)
        exact finF 0 (x := .tup [.lit _, .lit _]) (.inr rfl) rfl rfl (FZ.tup (m := [ints (((List.range t.nodes.length).map fun (i : Nat) => (i : Int)).filter P), AI 0]) ⟨FZ.here, FZ.refl _, trivial⟩) ⟨rfl, rfl⟩
  · rw [if_pos hg]
    generalize givenR t [a] = g at *
    refine a_enter Tryz.func153 (by kernel_rfl) rfl Tryz.ntmps153 rfl (by simp) ?_; refine a_seq ?_; refine a_reg ?_; (repeat (first | refine gZ pk ?_ | (show AL _ _ _ _ _ _ _; first | refine jB (fun u => ?_)))); refine a_frzBox 0 2 rfl rfl ?_
    repeat (first | refine gA pk ?_ | (show AL _ _ _ _ _ _ _; first | refine s_build1 tok rfl rfl rfl rfl rfl rfl rfl rfl (fun u => ?_)))
    refine s_callO 0 rfl rfl rfl rfl rfl rfl (s1 _) (SubL.of_eq rfl) ?_
    rintro _ _ ⟨rfl, rfl⟩
    repeat (first | refine gA pk ?_)
    exact fin (x := .tup [.lit _, .lit _]) (.inr rfl) rfl (Sub.tup (l := [.lit (.slice none 0 0), AI g]) (m := [ints [], AI g]) ⟨nil1, Sub.refl _, trivial⟩) ⟨rfl, rfl⟩ (OSub.none _)
end Go.Proofs.YtddohheabpiljaaGreat
end
section
namespace Go.Sj
set_option maxRecDepth 8000
section
variable {P : Program} {N : Nat} {ops : List Oper} {Q : St → Own → Prop} {L : Own} {rest : List (Oper × Kd)} {l : List (Nat × AV)} {q : Nat}
theorem s_makeQ {tt : List (TypeId × TD)} (ok : TOK P tt) {o : Oper} {T : TypeId} {x y : Operand} {E s1 b1 : Nat} {z1 : List Value} {d : TD} {k1 k2 : IntKind} {n c : Int} {es : List (List AV)}
    (ho : o.op = .makeSlice T x y) (hdst : o.dst = some q) (hd : Nat.blt q N = true) (hg : guardA ops o (lk l) = some true) (hT : lkT tt T = some ⟨.slice E, s1, b1, z1⟩) (hE : lkT tt E = some d)
    (hx : ev (lk l) x = .lit (.int k1 n)) (hy : ev (lk l) y = .lit (.int k2 c)) (hr : List.replicate n.toNat (d.zero.map .lit) = es) (h0 : 0 ≤ n) (hnc : n ≤ c) (hb : (d.bytes : Int) * c ≤ 140737488355328) (h63 : c ≤ 140737488355328)
    (nx : ∀ a m j, AL P N ops Q rest (lk ((q, .lit (.slice a m j)) :: l)) ((.slice a m j, .row E d.size es) :: L)) : AL P N ops Q ((o, .eff) :: rest) (lk l) L := by
  subst hr
  obtain ⟨dst, op', ty, pos, after, g⟩ := o
  simp only at ho
  subst ho
  refine s_eff (fun x M => ∃ a m j, x = .lit (.slice a m j) ∧ M = (.slice a m j, .row E d.size (List.replicate n.toNat (d.zero.map .lit))) :: L) hdst hd hg ⟨fun σ F w ρ hR hρ => ?_⟩ (fun x M ⟨a, m, j, e1, e2⟩ => by rw [e1, e2]; exact nx a m j)
  have e1 := hρ x (by simp [Op.operands])
  have e2 := hρ y (by simp [Op.operands])
  rw [hx] at e1
  rw [hy] at e2
  obtain ⟨i, z, hi, his, hib, hz, hzz⟩ := (ok _ _ hE).get
  have hu := (ok _ _ hT).slice rfl
  have hr := run_make (P := P) w T E i z hu hi hz k1 k2 n c h0 hnc (by rw [hib]; omega) (by omega)
  have hrun : (execOp ρ ⟨dst, .makeSlice T x y, ty, pos, after, g⟩).run P w = .ok (.value (.slice (some ⟨w.heap.size, 0, none⟩) n.toNat c.toNat)) (w.alloc (.cells (madeCells z.cells (c.toNat * i.size)) E)) := by
    simp only [execOp, e1.lit_inv, e2.lit_inv, Sem.run_bind, hr, Result.andThen_ok, Sem.run_pure]
  rw [hrun, his]
  have hown := own_new (σ := σ) (w := w) (E := E) (sz := d.size) (n := n.toNat) (c := c.toNat) (cur := madeCells z.cells (c.toNat * d.size)) (es := List.replicate n.toNat (d.zero.map .lit)) (by simp) (by omega) (by simp only [maxLen]; omega) (size_madeCells _ _)
    (fun e he => by rw [(List.mem_replicate.1 he).2]; simpa using (ok _ _ hE).zlen) (made_rep hzz (ok _ _ hE).zlen (by omega))
  exact ⟨σ, _, _, σ.le_refl, hR.newRow hown, .lit _, _, _, _, rfl, rfl⟩
end
theorem perm3 {A : Type} (a b c : A) : List.Perm [a, b, c] [b, a, c] ∧ List.Perm [a, b, c] [a, c, b] ∧ List.Perm [a, b, c] [c, b, a] ∧ List.Perm [a, b, c] [b, c, a] ∧ List.Perm [a, b, c] [c, a, b] ∧ List.Perm [a, b, c] [a, b, c] := by
  refine ⟨.swap _ _ _, .cons _ (.swap _ _ _), ?_, ?_, ?_, .refl _⟩
  · exact (List.Perm.cons _ (.swap _ _ _)).trans ((List.Perm.swap _ _ _).trans (.cons _ (.swap _ _ _)))
  · exact (List.Perm.swap _ _ _).trans (.cons _ (.swap _ _ _))
  · exact (List.Perm.cons _ (.swap _ _ _)).trans (.swap _ _ _)
end Go.Sj
end
section
namespace Go.Sj.Part
set_option maxRecDepth 8000
def rootF (p : List Nat) : Nat → Nat → Nat
  | 0, i => i
  | f + 1, i => if p.getD i 0 = i then i else rootF p f (p.getD i 0)
def root (p : List Nat) (i : Nat) : Nat := rootF p i i
end Go.Sj.Part
end
section
namespace Go.Sj
end Go.Sj
namespace Go.Sj.Part
set_option maxRecDepth 8000
def nextRow (i : Nat) (row : List Nat) (v : Nat) : Bool := v == i || row.getD v 0 == v
def nextTo (i : Nat) (row : List Nat) (k : Nat) : List (List Nat) := ((List.range k).filter (nextRow i row)).map fun v => row ++ [v]
def nextAll (i : Nat) (rows : List (List Nat)) : List (List Nat) := rows.flatMap fun row => nextTo i row (i + 1)
def allTo : Nat → List (List Nat)
  | 0 => [[]]
  | i + 1 => nextAll i (allTo i)
def allR (n : Int) : List (List Nat) × Int := if 7 < n then ([], 3) else if n < 0 then ([], 6) else (allTo n.toNat, 0)
end Go.Sj.Part
end
section
namespace Go.Sj.Dif
set_option maxRecDepth 8000
structure Ar where
  u : Int
  s : Int
  f : Nat
  t : Nat
  c : Int
  deriving DecidableEq
def Inr (N : Nat) (l : List Ar) : Prop := ∀ a ∈ l, a.f < N ∧ a.t < N
section
variable {N : Nat} {l : List Ar} (hl : Inr N l)
include hl
end
end Go.Sj.Dif
end
section
namespace Go.Sj
end Go.Sj
namespace Go.Sj.Dif
set_option maxRecDepth 8000
structure Tst where
  k : Int
  lv : Int
  la : Int
  rv : Int
  ra : Int
def cT (x : Tst) : List AV := [AI x.k, AI x.lv, AI x.la, AI x.rv, AI x.ra]
def cA (a : Ar) : List AV := [AI a.u, AI a.s, AI a.f, AI a.t, AI a.c]
def AOk (n : Nat) (a : Ar) : Prop := a.f < n + 1 ∧ a.t < n + 1 ∧ -2000000 ≤ a.c ∧ a.c ≤ 2000000
section
variable {n : Nat} {l : List Ar} (hl : ∀ a ∈ l, AOk n a)
include hl
end
section
variable {n : Nat} {l : List Ar} (hl : ∀ a ∈ l, AOk n a)
include hl
end
section
variable {n : Nat} {l : List Ar} (hl : ∀ a ∈ l, AOk n a) (hn : n ≤ 100)
include hl hn
end
end Go.Sj.Dif
end
section
namespace Go.Sj
set_option maxRecDepth 8000
theorem Turn.perm {x : AV} {L M : Own} (h : L.Perm M) : Turn x L x M := fun τ F w u a b => ⟨τ, τ.le_refl, a.perm h, b⟩
namespace Dif
def cRow (xs : List Int) : List AV := [ints xs]
end Dif
end Go.Sj
end
section
namespace Go.Sj
set_option maxRecDepth 8000
theorem FZL.len {v : Value} {sz : Nat} {es : List (List AV)} : ∀ {l m : List AV}, FZL v sz es l m → l.length = m.length
  | [], [], _ => rfl
  | x :: l, y :: m, h => by rw [List.length_cons, List.length_cons, FZL.len h.2]
  | [], _ :: _, h => h.elim
  | _ :: _, [], h => h.elim
theorem FZL.at {v : Value} {sz : Nat} {es : List (List AV)} : ∀ {l m : List AV}, FZL v sz es l m → ∀ {j : Nat} {y : AV}, m[j]? = some y → ∃ x, l[j]? = some x ∧ FZ v sz es x y
  | [], [], _, j, y, hy => by simp at hy
  | x :: l, z :: m, h, 0, y, hy => by simp at hy; subst hy; exact ⟨x, rfl, h.1⟩
  | x :: l, z :: m, h, j + 1, y, hy => by
    obtain ⟨x', h1, h2⟩ := FZL.at h.2 (j := j) (by simpa using hy)
    exact ⟨x', by simpa using h1, h2⟩
  | [], _ :: _, h, _, _, _ => h.elim
  | _ :: _, [], h, _, _, _ => h.elim
section
variable {P : Program} {N : Nat} {ops : List Oper} {Q : St → Own → Prop} {L : Own} {rest : List (Oper × Kd)} {l : List (Nat × AV)} {k : Kd} {q : Nat}
end
section
variable (E2 E3 : Nat) (n : Nat)
def up1 {A : Type} (f : Nat → A) (j : Nat) (x : A) : Nat → A := fun b => if b = j then x else f b
variable {E2 E3 n}
theorem range_set {A : Type} (f : Nat → A) (i : Nat) (x : A) : ((List.range n).map f).set i x = (List.range n).map (up1 f i x) := by
  refine List.ext_getElem? fun k => ?_
  rw [List.getElem?_set, List.getElem?_map, List.getElem?_map]
  rcases Nat.lt_or_ge k n with h | h
  · rw [List.getElem?_range h]
    unfold up1
    by_cases e : i = k
    · subst e; simp [h]
    · simp [e, Ne.symm e]
  · rw [List.getElem?_eq_none (by simpa using h)]
    by_cases e : i = k
    · subst e; simp; omega
    · simp [e]
end
end Go.Sj
end
