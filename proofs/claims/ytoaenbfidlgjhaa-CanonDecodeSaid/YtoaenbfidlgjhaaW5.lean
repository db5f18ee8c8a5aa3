/-
  What a code says of places, and codes: the program's walks. Conditions: valid graphs of at most 8 nodes; orders of their nodes.
-/
import Derived.Test.YtoaenbfidlgjhaaSjQ8
import Derived.Test.YtoaenbfidlgjhaaW4
namespace Go.Proofs.Ytoaenbfidlgjhaa
open Go.Sj Go.Sj.Typ Go.Sj.Sta Go.Sj.Can
set_option linter.unusedVariables false
set_option linter.unusedSimpArgs false
set_option maxHeartbeats 16000000

theorem bt_rng {g : Gr} {a b i : Int} (h : i ∈ bt g a b) : ∃ k : Nat, i = k ∧ k < g.edges.length := by
  obtain ⟨j, rfl, e, he, _⟩ := bt_mem.1 h
  exact ⟨j, rfl, (List.getElem?_eq_some_iff.1 he).1⟩
theorem tT_le (g : Gr) (a b : Int) : (tT g a b).length ≤ 1 + g.edges.length := by
  rw [tT_len]
  have := List.countP_le_length (p := isE a b) (l := g.edges)
  omega
theorem flat_le {f : Int → List Int} {C : Nat} : ∀ {p : List Int}, (∀ j ∈ p, (f j).length ≤ C) → (p.flatMap f).length ≤ p.length * C
  | [], _ => by simp
  | j :: p, h => by
    rw [List.flatMap_cons, List.length_append, List.length_cons, Nat.add_mul]
    have h1 := h j (by simp)
    have h2 := flat_le (p := p) (fun i hi => h i (by simp [hi]))
    omega
theorem rowI_snoc (l : List Int) (x : Int) : rowI (l ++ [x]) = rowI l ++ [[AI x]] := by simp [cI]
theorem rowI_app (l m : List Int) : rowI (l ++ m) = rowI l ++ rowI m := by simp
theorem types_spec (g : Gr) (hg : GV g) (a b : Nat) (ha : a < g.nodes.length) (hb : b < g.nodes.length) : Pure Try.prog 82 [tabP g, AI a, AI b] (ints (tT g a b)) := by
  have le : (g.edges.map cEd).length = g.edges.length := by simp
  have hel := hg.el
  have hl := bt_le g a b
  have lb : (rowI (bt g a b)).length = (bt g a b).length := by simp
  have vk : ((List.range g.nodes.length).map fun (i : Nat) => [rowA g.nodes.length fun (j : Nat) => bt g i j])[(a : Int).toNat]? = some [rowA g.nodes.length fun (j : Nat) => bt g a j] := by rw [Int.toNat_natCast]; exact range_get ha
  have wk : ((List.range g.nodes.length).map fun (j : Nat) => imI (bt g a j))[(b : Int).toNat]? = some (imI (bt g a b)) := by rw [Int.toNat_natCast]; exact range_get hb
  have lv : ((List.range g.nodes.length).map fun (i : Nat) => [rowA g.nodes.length fun (j : Nat) => bt g i j]).length = g.nodes.length := by simp
  have lw : ((List.range g.nodes.length).map fun (j : Nat) => imI (bt g a j)).length = g.nodes.length := by simp
  have hr : tT g a b = ((bt g a b).length : Int) :: (bt g a b).map (tyI g) := by unfold tT; rw [← bt_len]; rfl
  have hm := fun i (h : i ∈ bt g a b) => bt_rng h
  have het := fun (k : Nat) (h : k < g.edges.length) => hg.edges _ (List.getElem_mem h)
  rw [hr]
  generalize bt g a b = B at *
  refine a_enter Try.func82 (by kernel_rfl) rfl Try.ntmps82 rfl (by simp) ?_
  repeat (first | refine gA pk ?_ | (show AL _ _ _ _ _ _ _; first | refine jX tok vk ?_ | refine jX tok wk ?_))
  refine s_build1 tok rfl rfl rfl rfl rfl rfl rfl rfl (fun v0 => ?_)
  repeat (first | refine gN pk ?_)
  rw [lb]
  refine a_loop2 (fun (k : Nat) (v : Value) => [(0, tabP g), (8, .lit v), (24, ints B), (25, AI B.length), (26, AI k)]) (fun k v => [(v, .row 3 1 (rowI ((B.length : Int) :: (B.take k).map (tyI g))))]) (fun k v => k ≤ B.length) (fun k v => B.length - k) 0 v0 (Nat.zero_le _) ?_ (OSub.refl _) ?_
  · exact subQ
  · intro k v hk
    rcases Nat.lt_or_ge k B.length with h | h
    · have hx := List.getElem?_eq_getElem h
      obtain ⟨i, hi, hil⟩ := hm _ (List.getElem_mem h)
      rw [hi] at hx
      have hxe := List.getElem?_eq_getElem hil
      have hty := tyI_get hxe
      have he := het i hil
      generalize g.edges[i] = e at hxe hty he
      obtain ⟨e1, e2, e3⟩ := e
      simp only at hty he
      have xk : (rowI B)[(k : Int).toNat]? = some [AI i] := map_get (f := cI) hx
      have ek : (g.edges.map cEd)[(i : Int).toNat]? = some [AI e1, AI e2, AI e3] := map_get (f := cEd) hxe
      have hs : rowI ((B.length : Int) :: (B.take (k + 1)).map (tyI g)) = rowI ((B.length : Int) :: (B.take k).map (tyI g)) ++ [[AI e1]] := by
        rw [List.take_add_one, hx]
        simp [hty, cI]
      have hll : (rowI ((B.length : Int) :: (B.take k).map (tyI g))).length = k + 1 := by simp; omega
      repeat (first | refine gA pk ?_ | (show AL _ _ _ _ _ _ _; first | refine jX tok xk ?_ | refine jX tok ek ?_))
      (first | refine s_build1 tok rfl rfl rfl rfl rfl rfl rfl rfl (fun u => ?_) | refine s_build1M tok rfl rfl rfl rfl rfl rfl rfl (fun u => ?_) | refine s_build1A tok rfl rfl rfl rfl rfl rfl rfl rfl (by decide) (fun u => ?_)); refine s_append1 tok 0 rfl rfl rfl rfl rfl rfl (by decide) rfl rfl rfl rfl (by omega) (by omega) (fun v => ?_)
      repeat (first | refine gA pk ?_)
      exact ⟨k + 1, v, by omega, by omega, by exact subQ, by rw [hs]; exact OSub.refl _⟩
    · obtain rfl : k = B.length := by omega
      rw [List.take_length]
      repeat (first | refine gA pk ?_)
      refine finF 0 (.inr rfl) rfl rfl (y := ints ((B.length : Int) :: B.map (tyI g))) FZ.here ⟨rfl, rfl⟩
theorem typesI_spec (g : Gr) (hg : GV g) (a b : Int) (ha : 0 ≤ a ∧ a < g.nodes.length) (hb : 0 ≤ b ∧ b < g.nodes.length) : Pure Try.prog 82 [tabP g, AI a, AI b] (ints (tT g a b)) := by
  obtain ⟨x, rfl⟩ : ∃ x : Nat, a = x := ⟨a.toNat, by omega⟩
  obtain ⟨y, rfl⟩ : ∃ y : Nat, b = y := ⟨b.toNat, by omega⟩
  exact types_spec g hg x y (by omega) (by omega)
theorem part_take (l : List Int) (k : Nat) : ((rowI l).take k).drop 0 = rowI (l.take k) := by rw [List.drop_zero, ← List.map_take]
theorem place_spec (g : Gr) (hg : GV g) (hn : g.nodes.length ≤ 8) (p : List Int) (v : Int) (hp : Po g.nodes.length (p ++ [v])) : Pure Try.prog 67 [tabP g, ints (p ++ [v])] (ints (pc (nN g) (tT g) p v)) := by
  have hv := hp.rng v (by simp)
  have hpl := hp.len
  rw [List.length_append, List.length_singleton] at hpl
  have hpr := fun x (h : x ∈ p) => hp.rng x (by simp [h])
  have hel := hg.el
  have ll : (rowI (p ++ [v])).length = p.length + 1 := by simp
  have lp : (rowI p).length = p.length := by simp
  have ln : (rowI g.nodes).length = g.nodes.length := by simp
  have xk : (rowI (p ++ [v]))[(((rowI (p ++ [v])).length : Int) - 1).toNat]? = some [AI v] := by
    rw [ll, show (((p.length + 1 : Nat)) : Int) - 1 = (p.length : Nat) by omega, Int.toNat_natCast]
    exact map_get (f := cI) (by simp)
  have nk : (rowI g.nodes)[v.toNat]? = some [AI (nN g v)] := map_get (f := cI) (nodeAt_get hv.1 hv.2)
  have s3 := typesI_spec g hg v v hv hv
  have t3 := tT_le g v v
  have t1 := fun j => tT_le g j v
  have t2 := fun j => tT_le g v j
  have sa := fun j (h : j ∈ p) => typesI_spec g hg j v (hpr j h) hv
  have sb := fun j (h : j ∈ p) => typesI_spec g hg v j hv (hpr j h)
  have hfl := fun k => flat_le (f := fun j => tT g j v ++ tT g v j) (C := 162) (p := p.take k) (fun j _ => by rw [List.length_append]; have := t1 j; have := t2 j; omega)
  unfold pc
  generalize nN g v = nv at *
  refine a_enter Try.func67 (by kernel_rfl) rfl Try.ntmps67 rfl (by simp) ?_
  repeat (first | refine gA pk ?_ | (show AL _ _ _ _ _ _ _; first | refine jX tok xk ?_ | refine jX tok nk ?_))
  rw [show ((rowI (p ++ [v])).length : Int) - 1 = (p.length : Nat) by omega]
  refine s_build1 tok rfl rfl rfl rfl rfl rfl rfl rfl (fun v0 => ?_)
  repeat (first | refine gN pk ?_ | (show AL _ _ _ _ _ _ _; first | refine s_slice tok (a := 0) (b := p.length) rfl rfl rfl rfl rfl rfl rfl rfl (by first | exact rfl | exact ⟨_, rfl⟩) (by first | exact rfl | exact ⟨_, rfl⟩) (by omega) (by omega) ?_))
  rw [part_take, List.take_left' rfl, lp]
  refine a_loop2 (fun (k : Nat) (w : Value) => [(0, tabP g), (6, AI v), (7, .lit w), (28, ints p), (29, AI p.length), (30, AI k)]) (fun k w => [(w, .row 3 1 (rowI (nv :: (p.take k).flatMap fun j => tT g j v ++ tT g v j)))]) (fun k w => k ≤ p.length) (fun k w => p.length - k) 0 v0 (Nat.zero_le _) ?_ (OSub.refl _) ?_
  · exact subQ
  · intro k w hk
    rcases Nat.lt_or_ge k p.length with h | h
    · have hx := List.getElem?_eq_getElem h
      have hj := List.getElem_mem h
      have a1 := sa _ hj
      have a2 := sb _ hj
      have l1 := t1 p[k]
      have l2 := t2 p[k]
      have hs : (p.take (k + 1)).flatMap (fun j => tT g j v ++ tT g v j) = (p.take k).flatMap (fun j => tT g j v ++ tT g v j) ++ (tT g p[k] v ++ tT g v p[k]) := by
        rw [List.take_add_one, hx, List.flatMap_append, show (some p[k]).toList = [p[k]] from rfl, List.flatMap_cons, List.flatMap_nil, List.append_nil]
      generalize p[k] = j at *
      have xj : (rowI p)[(k : Int).toNat]? = some [AI j] := map_get (f := cI) hx
      have hf := hfl k
      rw [List.length_take] at hf
      generalize (p.take k).flatMap (fun j => tT g j v ++ tT g v j) = F at *
      generalize tT g j v = A at *
      generalize tT g v j = B at *
      repeat (first | refine gA pk ?_ | (show AL _ _ _ _ _ _ _; first | refine jX tok xj ?_ | refine jP a1 ?_ | refine jP a2 ?_ | refine s_appendIm tok 0 rfl rfl rfl rfl rfl rfl (by decide) rfl rfl rfl rfl (rowI_cell _) (by simp only [List.length_append, List.length_map, List.length_cons]; omega) (by simp only [List.length_append, List.length_map, List.length_cons]; omega) (fun w' => ?_)))
      refine ⟨k + 1, _, by omega, by omega, by exact subQ, ?_⟩
      rw [hs]
      rw [show nv :: (F ++ (A ++ B)) = (nv :: F ++ A) ++ B by simp, rowI_app, rowI_app]
      exact OSub.refl _
    · obtain rfl : k = p.length := by omega
      have hf := hfl p.length
      rw [List.take_length] at hf ⊢
      generalize p.flatMap (fun j => tT g j v ++ tT g v j) = F at *
      generalize tT g v v = A at *
      repeat (first | refine gA pk ?_ | (show AL _ _ _ _ _ _ _; first | refine jP s3 ?_ | refine s_appendIm tok 0 rfl rfl rfl rfl rfl rfl (by decide) rfl rfl rfl rfl (rowI_cell _) (by simp only [List.length_append, List.length_map, List.length_cons]; omega) (by simp only [List.length_append, List.length_map, List.length_cons]; omega) (fun w' => ?_)))
      rw [← rowI_app]
      refine finF 0 (.inr rfl) rfl rfl (y := ints (nv :: F ++ A)) FZ.here ⟨rfl, rfl⟩
theorem code_spec (g : Gr) (hg : GV g) (hn : g.nodes.length ≤ 8) (o : List Int) (ho : Cpl g.nodes.length o) : Pure Try.prog 44 [tabP g, ints o] (ints (cd (nN g) (tT g) g.nodes.length o)) := by
  have hel := hg.el
  have hol := ho.len
  have lo : (rowI o).length = o.length := by simp
  have hpo := fun k (h : k < o.length) => show Po g.nodes.length (o.take k ++ [atO o k]) from by
    have e := List.take_append_drop (k + 1) o
    rw [Go.Sj.Can.take_snoc o h] at e
    have := ho.po
    rw [← e] at this
    exact this.left
  have sp := fun k (h : k < o.length) => place_spec g hg hn (o.take k) (atO o k) (hpo k h)
  have hcl := fun k (h : k < o.length) => cd_le g (hpo k h).left
  have hcl2 := fun k (h : k < o.length) => cd_le g (hpo k h)
  have hK : cdK g ≤ 200 := by
    unfold cdK
    have := Nat.mul_le_mul hn hn
    omega
  rw [hol] at lo hpo sp hcl hcl2
  generalize hN : g.nodes.length = n at *
  refine a_enter Try.func44 (by kernel_rfl) rfl Try.ntmps44 rfl (by simp) ?_
  repeat (first | refine gA pk ?_)
  rw [lo]
  refine s_build1 tok rfl rfl rfl rfl rfl rfl rfl rfl (fun v0 => ?_)
  repeat (first | refine gN pk ?_)
  rw [lo]
  refine a_loop2 (fun (k : Nat) (w : Value) => [(0, tabP g), (1, ints o), (5, .lit w), (11, AI n), (12, AI k)]) (fun k w => [(w, .row 3 1 (rowI (cd (nN g) (tT g) n (o.take k))))]) (fun k w => k ≤ n) (fun k w => n - k) 0 v0 (Nat.zero_le _) ?_ (OSub.refl _) ?_
  · exact subQ
  · intro k w hk
    rcases Nat.lt_or_ge k n with h | h
    · have s1 := sp k h
      have c1 := hcl k h
      have c2 := hcl2 k h
      have hs : rowI (cd (nN g) (tT g) n (o.take (k + 1))) = rowI (cd (nN g) (tT g) n (o.take k)) ++ rowI (pc (nN g) (tT g) (o.take k) (atO o k)) := by rw [Go.Sj.Can.take_snoc o (by omega), cd_snoc, rowI_app]
      rw [cd_snoc, List.length_append] at c2
      rw [← Go.Sj.Can.take_snoc o (by omega)] at s1
      change Pure _ _ [tabP g, .im 1 (rowI (o.take (k + 1)))] _ at s1
      rw [← part_take] at s1
      generalize cd (nN g) (tT g) n (o.take k) = F at *
      generalize pc (nN g) (tT g) (o.take k) (atO o k) = A at *
      repeat (first | refine gN pk ?_ | (show AL _ _ _ _ _ _ _; first | refine s_slice tok (a := 0) (b := (k + 1)) rfl rfl rfl rfl rfl rfl rfl rfl (by first | exact rfl | exact ⟨_, rfl⟩) (by first | exact rfl | exact ⟨_, rfl⟩) (by omega) (by omega) ?_))
      repeat (first | refine gA pk ?_ | (show AL _ _ _ _ _ _ _; first | refine jP s1 ?_ | refine s_appendIm tok 0 rfl rfl rfl rfl rfl rfl (by decide) rfl rfl rfl rfl (rowI_cell _) (by simp only [List.length_append, List.length_map, List.length_cons]; omega) (by simp only [List.length_append, List.length_map, List.length_cons]; omega) (fun w' => ?_)))
      exact ⟨k + 1, _, by omega, by omega, by exact subQ, by rw [hs]; exact OSub.refl _⟩
    · obtain rfl : k = n := by omega
      rw [List.take_of_length_le (by omega)]
      repeat (first | refine gA pk ?_)
      refine finF 0 (.inr rfl) rfl rfl (y := ints (cd (nN g) (tT g) k o)) FZ.here ⟨rfl, rfl⟩
end Go.Proofs.Ytoaenbfidlgjhaa
