/-
  What a code says of places, and codes: the reference's walks. Conditions: valid graphs of at most 8 nodes; orders of their nodes.
-/
import Derived.Test.YtoaenbfidlgjhaaSjQ8
import Derived.Test.YtoaenbfidlgjhaaW11
namespace Go.Proofs.Ytoaenbfidlgjhaa
open Go.Sj Go.Sj.Typ Go.Sj.Sta Go.Sj.Can
set_option linter.unusedVariables false
set_option linter.unusedSimpArgs false
set_option maxHeartbeats 16000000

theorem rtypes_spec (g : Gr) (hg : GV g) (a b : Int) : Pure Try.prog 83 [grA g, AI a, AI b] (ints (tT g a b)) := by
  have le : (g.edges.map cEd).length = g.edges.length := by simp
  have hel := hg.el
  have hl := bt_le g a b
  have s1 := between_spec g hg a b
  have lb : (rowI (bt g a b)).length = (bt g a b).length := by simp
  have hr : tT g a b = ((bt g a b).length : Int) :: (bt g a b).map (tyI g) := by unfold tT; rw [← bt_len]; rfl
  have hm := fun i (h : i ∈ bt g a b) => bt_rng h
  have het := fun (k : Nat) (h : k < g.edges.length) => hg.edges _ (List.getElem_mem h)
  rw [hr]
  generalize bt g a b = B at *
  refine a_enter Try.func83 (by kernel_rfl) rfl Try.ntmps83 rfl (by simp) ?_; refine a_seq ?_; refine a_reg ?_; (repeat (first | refine gZ pk ?_ | (show AL _ _ _ _ _ _ _; first | refine jB (fun u => ?_)))); refine a_frzBox 0 3 rfl rfl ?_
  repeat (first | refine gA pk ?_ | (show AL _ _ _ _ _ _ _; first | refine jP s1 ?_))
  rw [lb]
  refine s_build1 tok rfl rfl rfl rfl rfl rfl rfl rfl (fun v0 => ?_)
  repeat (first | refine gN pk ?_)
  refine a_loop2 (fun (k : Nat) (v : Value) => [(3, grP g), (7, ints B), (8, .lit v), (9, AI k)]) (fun k v => [(v, .row 3 1 (rowI ((B.length : Int) :: (B.take k).map (tyI g))))]) (fun k v => k ≤ B.length) (fun k v => B.length - k) 0 v0 (Nat.zero_le _) ?_ (OSub.refl _) ?_
  · exact subQ
  · intro k v hk
    rcases Nat.lt_or_ge k B.length with h | h
    · have hx := List.getElem?_eq_getElem h
      obtain ⟨i, hi, hil⟩ := hm _ (List.getElem_mem h)
      rw [hi] at hx
      have hxe := List.getElem?_eq_getElem hil
      have hty := tyI_get hxe
      have he := het i hil
      generalize g.edges[i] = e at hxe hty he
      obtain ⟨e1, e2, e3⟩ := e
      simp only at hty he
      have xk : (rowI B)[(k : Int).toNat]? = some [AI i] := map_get (f := cI) hx
      have ek : (g.edges.map cEd)[(i : Int).toNat]? = some [AI e1, AI e2, AI e3] := map_get (f := cEd) hxe
      have hs : rowI ((B.length : Int) :: (B.take (k + 1)).map (tyI g)) = rowI ((B.length : Int) :: (B.take k).map (tyI g)) ++ [[AI e1]] := by
        rw [List.take_add_one, hx]
        simp [hty, cI]
      have hll : (rowI ((B.length : Int) :: (B.take k).map (tyI g))).length = k + 1 := by simp; omega
      repeat (first | refine gN pk ?_)
      refine a_regG ((List.range 13).map fun i => if inL [10, 11] i = true then .eff else .pure) [] [0, 1, 2, 3, 4, 5, 6, 7, 8, 9, 10, 11, 12] .stop mixed rfl rfl (by decide +kernel) ?_
      repeat' (first | (with_reducible show AG _ _ _ _ _ _ _ _ _ _; first | exact ag_none | refine ag_stop ?_ | refine ag_nd ?_ ?_) | (show AMid _ _ _ _; first | refine amid_f ?_ | refine amid_g (by first | exact OSub.refl _ | exact .drop (OSub.refl _) | exact .drop (.drop (OSub.refl _))) ?_) | refine gY pk ?_ | (show AL _ _ _ _ _ _ _; first | refine jX tok xk ?_ | refine jX tok ek ?_ | refine s_build1 tok rfl rfl rfl rfl rfl rfl rfl rfl (fun u => ?_) | refine s_append1 tok 0 rfl rfl rfl rfl rfl rfl (by decide) rfl rfl rfl rfl (by omega) (by omega) (fun w => ?_)) | fail)
      repeat (first | refine gA pk ?_)
      exact ⟨k + 1, w, by omega, by omega, by exact subQ, by rw [hs]; exact OSub.refl _⟩
    · obtain rfl : k = B.length := by omega
      rw [List.take_length]
      repeat (first | refine gA pk ?_)
      refine finF 0 (.inr rfl) rfl rfl (y := ints ((B.length : Int) :: B.map (tyI g))) FZ.here ⟨rfl, rfl⟩
theorem piece_spec (g : Gr) (hg : GV g) (hn : g.nodes.length ≤ 8) (p : List Int) (v : Int) (hp : Po g.nodes.length (p ++ [v])) : Pure Try.prog 68 [grA g, ints (p ++ [v])] (ints (pc (nN g) (tT g) p v)) := by
  have hv := hp.rng v (by simp)
  have hpl := hp.len
  rw [List.length_append, List.length_singleton] at hpl
  have hel := hg.el
  have ll : (rowI (p ++ [v])).length = p.length + 1 := by simp
  have ln : (rowI g.nodes).length = g.nodes.length := by simp
  have xk : (rowI (p ++ [v]))[(((rowI (p ++ [v])).length : Int) - 1).toNat]? = some [AI v] := by
    rw [ll, show (((p.length + 1 : Nat)) : Int) - 1 = (p.length : Nat) by omega, Int.toNat_natCast]
    exact map_get (f := cI) (by simp)
  have nk : (rowI g.nodes)[v.toNat]? = some [AI (nN g v)] := map_get (f := cI) (nodeAt_get hv.1 hv.2)
  have s3 := rtypes_spec g hg v v
  have t3 := tT_le g v v
  have t1 := fun j => tT_le g j v
  have t2 := fun j => tT_le g v j
  have sa := fun j => rtypes_spec g hg j v
  have sb := fun j => rtypes_spec g hg v j
  have hfl := fun k => flat_le (f := fun j => tT g j v ++ tT g v j) (C := 162) (p := p.take k) (fun j _ => by rw [List.length_append]; have := t1 j; have := t2 j; omega)
  unfold pc
  generalize nN g v = nv at *
  refine a_enter Try.func68 (by kernel_rfl) rfl Try.ntmps68 rfl (by simp) ?_; refine a_seq ?_; refine a_reg ?_; (repeat (first | refine gZ pk ?_ | (show AL _ _ _ _ _ _ _; first | refine jB (fun u => ?_)))); refine a_frzBox 0 2 rfl rfl ?_
  repeat (first | refine gA pk ?_ | (show AL _ _ _ _ _ _ _; first | refine jX tok xk ?_ | refine jX tok nk ?_))
  refine s_build1 tok rfl rfl rfl rfl rfl rfl rfl rfl (fun v0 => ?_)
  repeat (first | refine gN pk ?_)
  refine a_loop2 (fun (k : Nat) (w : Value) => [(1, ints (p ++ [v])), (2, grP g), (5, AI v), (6, .lit w), (7, AI k)]) (fun k w => [(w, .row 3 1 (rowI (nv :: (p.take k).flatMap fun j => tT g j v ++ tT g v j)))]) (fun k w => k ≤ p.length) (fun k w => p.length - k) 0 v0 (Nat.zero_le _) ?_ (OSub.refl _) ?_
  · exact subQ
  · intro k w hk
    rcases Nat.lt_or_ge k p.length with h | h
    · have hx := List.getElem?_eq_getElem h
      have a1 := sa p[k]
      have a2 := sb p[k]
      have l1 := t1 p[k]
      have l2 := t2 p[k]
      have hs : (p.take (k + 1)).flatMap (fun j => tT g j v ++ tT g v j) = (p.take k).flatMap (fun j => tT g j v ++ tT g v j) ++ (tT g p[k] v ++ tT g v p[k]) := by
        rw [List.take_add_one, hx, List.flatMap_append, show (some p[k]).toList = [p[k]] from rfl, List.flatMap_cons, List.flatMap_nil, List.append_nil]
      have hx2 : (p ++ [v])[k]? = some p[k] := by rw [List.getElem?_append_left h, hx]
      generalize p[k] = j at *
      have xj : (rowI (p ++ [v]))[(k : Int).toNat]? = some [AI j] := map_get (f := cI) hx2
      have hf := hfl k
      rw [List.length_take] at hf
      generalize (p.take k).flatMap (fun j => tT g j v ++ tT g v j) = F at *
      generalize tT g j v = A at *
      generalize tT g v j = B at *
      repeat (first | refine gN pk ?_)
      refine a_regG ((List.range 10).map fun i => if inL [7, 8] i = true then .eff else .pure) [] [0, 1, 2, 3, 4, 5, 6, 7, 8, 9] .stop mixed rfl rfl (by decide +kernel) ?_
      repeat' (first | (with_reducible show AG _ _ _ _ _ _ _ _ _ _; first | exact ag_none | refine ag_stop ?_ | refine ag_nd ?_ ?_) | (show AMid _ _ _ _; first | refine amid_f ?_ | refine amid_g (by first | exact OSub.refl _ | exact .drop (OSub.refl _) | exact .drop (.drop (OSub.refl _))) ?_) | refine gY pk ?_ | (show AL _ _ _ _ _ _ _; first | refine jX tok xj ?_ | refine jP a1 ?_ | refine s_appendIm tok 0 rfl rfl rfl rfl rfl rfl (by decide) rfl rfl rfl rfl (rowI_cell _) (by simp only [List.length_append, List.length_map, List.length_cons]; omega) (by simp only [List.length_append, List.length_map, List.length_cons]; omega) (fun w' => ?_)) | fail)
      repeat (first | refine gN pk ?_)
      refine a_regG ((List.range 10).map fun i => if inL [7, 8] i = true then .eff else .pure) [] [0, 1, 2, 3, 4, 5, 6, 7, 8, 9] .stop mixed rfl rfl (by decide +kernel) ?_
      repeat' (first | (with_reducible show AG _ _ _ _ _ _ _ _ _ _; first | exact ag_none | refine ag_stop ?_ | refine ag_nd ?_ ?_) | (show AMid _ _ _ _; first | refine amid_f ?_ | refine amid_g (by first | exact OSub.refl _ | exact .drop (OSub.refl _) | exact .drop (.drop (OSub.refl _))) ?_) | refine gY pk ?_ | (show AL _ _ _ _ _ _ _; first | refine jX tok xj ?_ | refine jP a2 ?_ | refine s_appendIm tok 0 rfl rfl rfl rfl rfl rfl (by decide) rfl rfl rfl rfl (rowI_cell _) (by simp only [List.length_append, List.length_map, List.length_cons]; omega) (by simp only [List.length_append, List.length_map, List.length_cons]; omega) (fun w' => ?_)) | fail)
      repeat (first | refine gA pk ?_)
      refine ⟨k + 1, _, by omega, by omega, by exact subQ, ?_⟩
      rw [hs]
      rw [show nv :: (F ++ (A ++ B)) = (nv :: F ++ A) ++ B by simp, rowI_app, rowI_app]
      exact OSub.refl _
    · obtain rfl : k = p.length := by omega
      have hf := hfl p.length
      rw [List.take_length] at hf ⊢
      generalize p.flatMap (fun j => tT g j v ++ tT g v j) = F at *
      generalize tT g v v = A at *
      repeat (first | refine gA pk ?_ | (show AL _ _ _ _ _ _ _; first | refine jP s3 ?_ | refine s_appendIm tok 0 rfl rfl rfl rfl rfl rfl (by decide) rfl rfl rfl rfl (rowI_cell _) (by simp only [List.length_append, List.length_map, List.length_cons]; omega) (by simp only [List.length_append, List.length_map, List.length_cons]; omega) (fun w' => ?_)))
      rw [← rowI_app]
      refine finF 0 (.inr rfl) rfl rfl (y := ints (nv :: F ++ A)) FZ.here ⟨rfl, rfl⟩
theorem rcodeIn_spec (g : Gr) (hg : GV g) (hn : g.nodes.length ≤ 8) (o : List Int) (ho : Cpl g.nodes.length o) : Pure Try.prog 45 [grA g, ints o] (ints (cd (nN g) (tT g) g.nodes.length o)) := by
  have hel := hg.el
  have hol := ho.len
  have lo : (rowI o).length = o.length := by simp
  have ln : (rowI g.nodes).length = g.nodes.length := by simp
  have hpo := fun k (h : k < o.length) => show Po g.nodes.length (o.take k ++ [atO o k]) from by
    have e := List.take_append_drop (k + 1) o
    rw [Go.Sj.Can.take_snoc o h] at e
    have := ho.po
    rw [← e] at this
    exact this.left
  have sp := fun k (h : k < o.length) => piece_spec g hg hn (o.take k) (atO o k) (hpo k h)
  have hcl := fun k (h : k < o.length) => cd_le g (hpo k h).left
  have hcl2 := fun k (h : k < o.length) => cd_le g (hpo k h)
  have hK : cdK g ≤ 200 := by
    unfold cdK
    have := Nat.mul_le_mul hn hn
    omega
  rw [hol] at lo hpo sp hcl hcl2
  refine a_enter Try.func45 (by kernel_rfl) rfl Try.ntmps45 rfl (by simp) ?_; refine a_seq ?_; refine a_reg ?_; (repeat (first | refine gZ pk ?_ | (show AL _ _ _ _ _ _ _; first | refine jB (fun u => ?_)))); refine a_frzBox 0 2 rfl rfl ?_
  repeat (first | refine gA pk ?_)
  rw [ln]
  refine s_build1 tok rfl rfl rfl rfl rfl rfl rfl rfl (fun v0 => ?_)
  repeat (first | refine gN pk ?_)
  refine a_loop2 (fun (k : Nat) (w : Value) => [(1, ints o), (2, grP g), (5, .lit w), (6, AI (k + 1))]) (fun k w => [(w, .row 3 1 (rowI (cd (nN g) (tT g) g.nodes.length (o.take k))))]) (fun k w => k ≤ g.nodes.length) (fun k w => g.nodes.length - k) 0 v0 (Nat.zero_le _) ?_ (OSub.refl _) ?_
  · exact subQ
  · intro k w hk
    rcases Nat.lt_or_ge k g.nodes.length with h | h
    · have s1 := sp k h
      have c1 := hcl k h
      have c2 := hcl2 k h
      have hs : rowI (cd (nN g) (tT g) g.nodes.length (o.take (k + 1))) = rowI (cd (nN g) (tT g) g.nodes.length (o.take k)) ++ rowI (pc (nN g) (tT g) (o.take k) (atO o k)) := by rw [Go.Sj.Can.take_snoc o (by omega), cd_snoc, rowI_app]
      rw [cd_snoc, List.length_append] at c2
      rw [← Go.Sj.Can.take_snoc o (by omega)] at s1
      change Pure _ _ [grA g, .im 1 (rowI (o.take (k + 1)))] _ at s1
      rw [← part_take] at s1
      have ek : ((k : Int) + 1) = ((k + 1 : Nat) : Int) := by omega
      generalize cd (nN g) (tT g) g.nodes.length (o.take k) = F at *
      generalize pc (nN g) (tT g) (o.take k) (atO o k) = A at *
      rw [ek]
      repeat (first | refine gN pk ?_)
      refine a_regG ((List.range 8).map fun i => if inL [5, 6] i = true then .eff else .pure) [] [0, 1, 2, 3, 4, 5, 6, 7] .stop mixed rfl rfl (by decide +kernel) ?_
      repeat' (first | (with_reducible show AG _ _ _ _ _ _ _ _ _ _; first | exact ag_none | refine ag_stop ?_ | refine ag_nd ?_ ?_) | (show AMid _ _ _ _; first | refine amid_f ?_ | refine amid_g (by first | exact OSub.refl _ | exact .drop (OSub.refl _) | exact .drop (.drop (OSub.refl _))) ?_) | refine gY pk ?_ | (show AL _ _ _ _ _ _ _; first | refine s_slice tok (a := 0) (b := (k + 1)) rfl rfl rfl rfl rfl rfl rfl rfl (by first | exact rfl | exact ⟨_, rfl⟩) (by first | exact rfl | exact ⟨_, rfl⟩) (by omega) (by omega) ?_ | refine jP s1 ?_ | refine s_appendIm tok 0 rfl rfl rfl rfl rfl rfl (by decide) rfl rfl rfl rfl (rowI_cell _) (by simp only [List.length_append, List.length_map, List.length_cons]; omega) (by simp only [List.length_append, List.length_map, List.length_cons]; omega) (fun w' => ?_)) | fail)
      repeat (first | refine gA pk ?_)
      exact ⟨k + 1, _, by omega, by omega, by exact subQ, by rw [hs]; exact OSub.refl _⟩
    · obtain rfl : k = g.nodes.length := by omega
      rw [List.take_of_length_le (by omega)]
      repeat (first | refine gA pk ?_)
      refine finF 0 (.inr rfl) rfl rfl (y := ints (cd (nN g) (tT g) g.nodes.length o)) FZ.here ⟨rfl, rfl⟩
end Go.Proofs.Ytoaenbfidlgjhaa
