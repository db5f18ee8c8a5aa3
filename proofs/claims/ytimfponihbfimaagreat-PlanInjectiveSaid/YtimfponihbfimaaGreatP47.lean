/- Parts of a proof. -/
import Derived.Test.YtimfponihbfimaaGreatP32
import Derived.Test.YtimfponihbfimaaGreatP46
set_option linter.unusedVariables false
set_option linter.unusedSimpArgs false
section
namespace Go.Sj
set_option maxRecDepth 8000
section
variable {P : Program} {N : Nat} {ops : List Oper} {Q : St → Own → Prop} {L : Own} {rest : List (Oper × Kd)} {l : List (Nat × AV)} {k : Kd} {q : Nat}
theorem s_appendImQ {tt : List (TypeId × TD)} (ok : TOK P tt) (i : Nat) {o : Oper} {T : TypeId} {x y : Operand} {E s1 b1 : Nat} {z1 : List Value} {d : TD} {sz : Nat} {v : Value} {es es2 : List (List AV)} (ho : o.op = .call ⟨.builtin .append, #[x, y], #[T, T]⟩) (hdst : o.dst = some q) (hd : Nat.blt q N = true) (hg : guardA ops o (lk l) = some true)
    (hT : lkT tt T = some ⟨.slice E, s1, b1, z1⟩) (hE : lkT tt E = some d) (hpos : 0 < d.size) (hx : ev (lk l) x = .lit v) (hL : L[i]? = some (v, .row E sz es)) (hs : sz = d.size) (hy : ev (lk l) y = .im sz es2)
    (hcell : es2.all (fun e => e.all AV.cell) = true) (hlen : es.length + es2.length ≤ 140737488355328) (hby : (es.length + es2.length) * d.bytes ≤ 140737488355328)
    (nx : ∀ a m j, AL P N ops Q rest (lk ((q, .lit (.slice a m j)) :: l)) (L.set i (.slice a m j, .row E sz (es ++ es2)))) : AL P N ops Q ((o, .eff) :: rest) (lk l) L := by
  obtain ⟨dst, op', ty, pos, after, g⟩ := o
  simp only at ho
  subst ho
  refine s_eff (fun x M => ∃ a m j, x = .lit (.slice a m j) ∧ M = L.set i (.slice a m j, .row E sz (es ++ es2))) hdst hd hg ⟨fun σ F w ρ hR hρ => ?_⟩ (fun x M ⟨a, m, j, e1, e2⟩ => by rw [e1, e2]; exact nx a m j)
  have e1 := hρ x (by simp [Op.operands, Call.operands])
  have e2 := hρ y (by simp [Op.operands, Call.operands])
  rw [hx] at e1
  rw [hy] at e2
  have hu := (ok _ _ hT).slice rfl
  obtain ⟨v', w', hr, hown, h1, h2, h3, h4, h5⟩ := own_append (P := P) (ty := ty) (hR.own1 hL) (SrcA.im hR.agree e2) hu (ok _ _ hE) hs hpos hcell (by simp only [maxLen]; omega) hby
  have hrun : (execOp ρ ⟨dst, .call ⟨.builtin .append, #[x, y], #[T, T]⟩, ty, pos, after, g⟩).run P w = .ok (.value v') w' := by
    simp [execOp, resolve, invoke, builtin, e1.lit_inv, hr]
  rw [hrun]
  obtain ⟨a, cap, hv, _⟩ := own_row_val hown
  subst hv
  exact ⟨σ, _, _, σ.le_refl, hR.writeAt hL h1 h2 h3 h4 h5 hown, .lit _, _, _, _, rfl, rfl⟩
end
end Go.Sj
end
section
namespace Go.Proofs.YtimfponihbfimaaGreat
open Go.Sj Go.Sj.Typ Go.Sj.Sta Go.Sj.Inc Go.Sj.Pln
set_option maxRecDepth 8000
set_option maxHeartbeats 16000000
theorem gfresh_spec (p : Gr) (h1 : p.nodes.length ≤ 1000) (h2 : p.edges.length ≤ 1000) : Pure Tryz.prog 87 [grA p] (knA (kn0 p)) := by
  have ln : (rowI p.nodes).length = p.nodes.length := by simp
  have le : (p.edges.map cEd).length = p.edges.length := by simp
  have z1 : List.replicate (((rowI p.nodes).length : Int)).toNat (List.map AV.lit [Value.bool false]) = (kn0 p).ns.map cB := by unfold kn0; simp [cB]
  have z2 : List.replicate (((p.edges.map cEd).length : Int)).toNat (List.map AV.lit [Value.bool false]) = (kn0 p).es.map cB := by unfold kn0; simp [cB]
  refine a_enterC Tryz.func87 (by kernel_rfl) rfl Tryz.ntmps87 rfl (tok _ _ rfl) (by simp) ?_
  refine a_seq ?_
  refine a_reg ?_
  repeat (first | refine gZ pk ?_ | (show AL _ _ _ _ _ _ _; first | refine jB (fun up => ?_) | refine jL tok (fun U2 => ?_)))
  refine zfb 1 1 rfl rfl ?_
  refine AWp.mono (Q := fun e st L => e = .normal ∧ ∃ va vb, GoTo 12 st L (lk [(2, .pt U2 0 0 0)]) [(U2, OB.box [.lit va, .lit vb]), (va, OB.row 4 1 ((kn0 p).ns.map cB)), (vb, OB.row 4 1 ((kn0 p).es.map cB))]) ?_ (fun e st L h => ?_)
  · refine zrg ((List.range 10).map fun i => if inL [3, 7, 9] i = true then .eff else if inL [1, 2, 5, 6] i = true then .read else .pure) [3, 7] [0, 1, 2, 4, 5, 6] (.nd 3 [] (.nd 7 [8, 9] .stop .stop) (.nd 7 [] (.nd 3 [8, 9] .stop .stop) .stop)) mixed rfl rfl (by decide +kernel) ?_
    repeat' (first | (with_reducible show AG _ _ _ _ _ _ _ _ _ _; first | exact zgn | refine zgs ?_ | refine znd ?_ ?_) | (show AMid _ _ _ _; first | refine zmf ?_ | refine zmg (by first | exact OSub.refl _ | exact .drop (OSub.refl _) | exact .drop (.drop (OSub.refl _))) ?_) | refine gY pk ?_ | (show AL _ _ _ _ _ _ _; first | refine s_makeQ tok rfl rfl rfl rfl rfl rfl rfl rfl z1 (by omega) (by omega) (by simp; omega) (by omega) (fun a m j => ?_) | refine s_makeQ tok rfl rfl rfl rfl rfl rfl rfl rfl z2 (by omega) (by omega) (by simp; omega) (by omega) (fun a m j => ?_) | refine jS tok 2 ?_) | fail)
    all_goals
      first | exact ⟨rfl, _, _, (GoTo.sub (by exact subQ) (OSub.refl _)).trans (GoTo.perm (perm3 _ _ _).2.2.1)⟩ | exact ⟨rfl, _, _, (GoTo.sub (by exact subQ) (OSub.refl _)).trans (GoTo.perm (perm3 _ _ _).1)⟩ | exact ⟨rfl, _, _, (GoTo.sub (by exact subQ) (OSub.refl _)).trans (GoTo.perm (perm3 _ _ _).2.1)⟩ | exact ⟨rfl, _, _, (GoTo.sub (by exact subQ) (OSub.refl _)).trans (GoTo.perm (perm3 _ _ _).2.2.2.1)⟩ | exact ⟨rfl, _, _, (GoTo.sub (by exact subQ) (OSub.refl _)).trans (GoTo.perm (perm3 _ _ _).2.2.2.2.1)⟩
  · obtain ⟨rfl, va, vb, h⟩ := h
    refine zgt h ?_
    refine zgt (GoTo.freeze 1 rfl (FZS.refl _) [(U2, OB.box [boolsA (kn0 p).ns, .lit vb]), (vb, OB.row 4 1 ((kn0 p).es.map cB))] (zfo ⟨FZ.here, FZ.refl _, trivial⟩ (zfw (cB_rows _) trivial))) ?_
    refine zgt (GoTo.freeze 1 rfl (FZS.refl _) [(U2, OB.box [boolsA (kn0 p).ns, boolsA (kn0 p).es])] (zfo ⟨FZ.refl _, FZ.here, trivial⟩ trivial)) ?_
    refine zfb 0 2 rfl rfl ?_
    repeat (first | refine gA pk ?_)
    exact ⟨.inr rfl, _, _, _, _, rfl, rfl, Turn.of (Sub.of_eq rfl) (OSub.none _), rfl, rfl⟩
theorem gcopied_spec (s : Kn) (h1 : s.ns.length ≤ 1000) (h2 : s.es.length ≤ 1000) : ACalls Tryz.prog 141 [knA s] [] (fun y L => ∃ v1 v2, v1.oneCell' = true ∧ v2.oneCell' = true ∧ y = .agg [.lit v1, .lit v2] ∧ L = knO v1 v2 s) := by
  have ln : (s.ns.map cB).length = s.ns.length := by simp
  have le : (s.es.map cB).length = s.es.length := by simp
  refine a_enterC Tryz.func141 (by kernel_rfl) rfl Tryz.ntmps141 rfl (tok _ _ rfl) (by simp) ?_
  refine a_seq ?_
  refine a_reg ?_
  repeat (first | refine gZ pk ?_ | (show AL _ _ _ _ _ _ _; first | refine jB (fun u => ?_) | refine jL tok (fun u2 => ?_)))
  refine zfb 1 1 rfl rfl ?_
  refine AWp.mono (Q := fun e st L => e = .normal ∧ ∃ vn ve, vn.oneCell' = true ∧ ve.oneCell' = true ∧ GoTo 12 st L (lk [(2, .pt u2 0 0 0)]) [(u2, OB.box [.lit vn, .lit ve]), (vn, OB.row 4 1 (s.ns.map cB)), (ve, OB.row 4 1 (s.es.map cB))]) ?_ (fun e st L h => ?_)
  · refine a_regXP [1, 2, 5, 6] (.nd [0] (.nd [3, 4, 7, 8, 9] .stop (.nd [4, 3, 7, 8, 9] .stop .stop)) (.nd [4, 0, 3, 7, 8, 9] .stop .stop)) mixed rfl rfl (by decide +kernel) ?_
    repeat' (first | (with_reducible show AX _ _ _ _ _ _ _ _ _; first | exact ax_none | refine ax_stop ?_ | refine ax_nd ?_ ?_) | refine gY pk ?_ | (show AL _ _ _ _ _ _ _; first | refine s_build tok (parts := []) rfl rfl rfl rfl rfl rfl rfl rfl (by decide) (by decide) (fun v => ?_) | refine s_appendImQ (es2 := s.ns.map cB) tok 0 rfl rfl rfl rfl rfl rfl (by decide) rfl rfl rfl rfl (cB_cell _) (by simp only [ln, le, List.length_nil]; omega) (by simp only [ln, le, List.length_nil]; omega) (fun a m j => ?_) | refine s_appendImQ (es2 := s.es.map cB) tok 0 rfl rfl rfl rfl rfl rfl (by decide) rfl rfl rfl rfl (cB_cell _) (by simp only [ln, le, List.length_nil]; omega) (by simp only [ln, le, List.length_nil]; omega) (fun a m j => ?_) | refine s_appendImQ (es2 := s.ns.map cB) tok 1 rfl rfl rfl rfl rfl rfl (by decide) rfl rfl rfl rfl (cB_cell _) (by simp only [ln, le, List.length_nil]; omega) (by simp only [ln, le, List.length_nil]; omega) (fun a m j => ?_) | refine s_appendImQ (es2 := s.es.map cB) tok 1 rfl rfl rfl rfl rfl rfl (by decide) rfl rfl rfl rfl (cB_cell _) (by simp only [ln, le, List.length_nil]; omega) (by simp only [ln, le, List.length_nil]; omega) (fun a m j => ?_) | refine jS tok 2 ?_) | fail)
    all_goals
      first | exact ⟨rfl, _, _, rfl, rfl, (GoTo.sub (by exact subQ) (OSub.refl _)).trans (GoTo.perm (List.Perm.refl _))⟩ | exact ⟨rfl, _, _, rfl, rfl, (GoTo.sub (by exact subQ) (OSub.refl _)).trans (GoTo.perm (perm3 _ _ _).1)⟩ | exact ⟨rfl, _, _, rfl, rfl, (GoTo.sub (by exact subQ) (OSub.refl _)).trans (GoTo.perm (perm3 _ _ _).2.1)⟩ | exact ⟨rfl, _, _, rfl, rfl, (GoTo.sub (by exact subQ) (OSub.refl _)).trans (GoTo.perm (perm3 _ _ _).2.2.1)⟩ | exact ⟨rfl, _, _, rfl, rfl, (GoTo.sub (by exact subQ) (OSub.refl _)).trans (GoTo.perm (perm3 _ _ _).2.2.2.1)⟩ | exact ⟨rfl, _, _, rfl, rfl, (GoTo.sub (by exact subQ) (OSub.refl _)).trans (GoTo.perm (perm3 _ _ _).2.2.2.2.1)⟩
  · obtain ⟨rfl, vn, ve, hvn, hve, h⟩ := h
    refine zgt h ?_
    refine zfb 0 2 rfl rfl ?_
    repeat (first | refine gA pk ?_)
    exact ⟨.inr rfl, _, _, _, _, rfl, rfl, Turn.of (Sub.of_eq rfl) (OSub.refl _), vn, ve, hvn, hve, rfl, rfl⟩
theorem gafter_spec (p : Gr) (hp : GV p) (s : Kn) (hs : KnOk p s) (o : Opn) (ho : opE p s o = 0) : Pure Tryz.prog 89 [grA p, knA s, .agg (cOp o)] (knA (aftK p s o)) := by
  obtain ⟨kind, el⟩ := o
  have hnl := hp.nl
  have hel := hp.el
  have hns := hs.nl
  have hes := hs.el
  have sc := gcopied_spec s (by omega) (by omega)
  have l1 : (s.ns.map cB).length = p.nodes.length := by rw [List.length_map, hns]
  have l2 : (s.es.map cB).length = p.edges.length := by rw [List.length_map, hes]
  have hed := hp.edges
  change Pure _ _ [_, _, .agg [AI kind, AI el]] _
  rcases opE_zero ho with ⟨h1, h2, h3⟩ | ⟨h1, h2, h3⟩
  · simp only at h1 h2
    subst h1
    have e2 : aftK p s ⟨1, el⟩ = ⟨s.ns.set el.toNat true, s.es⟩ := by unfold aftK; rw [if_pos rfl]
    rw [e2]
    obtain ⟨pn, pe⟩ := p
    simp only at *
    refine a_enterC Tryz.func89 (by kernel_rfl) rfl Tryz.ntmps89 rfl (tok _ _ rfl) (by simp) ?_
    refine a_seq ?_
    refine a_reg ?_
    repeat (first | refine gZ pk ?_ | (show AL _ _ _ _ _ _ _; first | refine jB (fun u => ?_) | refine jL tok (fun U6 => ?_)))
    refine zfb 1 5 rfl rfl ?_
    refine zfb 2 3 rfl rfl ?_
    refine a_reg ?_
    repeat (first | refine gZ pk ?_ | (show AL _ _ _ _ _ _ _; first | refine jO tok 1 ?_ | refine zsc (Lc := []) rfl rfl rfl rfl rfl sc (SubL.of_eq rfl) (List.Perm.refl _) ?_; rintro _ _ ⟨v1, v2, hv1, hv2, rfl, rfl⟩ | refine s_store (a := .agg [.lit v1, .lit v2]) tok 3 rfl rfl rfl rfl rfl rfl (by simp [AV.storable, AV.cell, hv1, hv2]) rfl (by decide) rfl rfl rfl (Nat.le_of_ble_eq_true rfl) ?_))
    refine zfb 3 4 rfl rfl ?_
    refine a_reg ?_
    repeat (first | refine gZ pk ?_)
    refine a_reg ?_
    repeat (first | refine gZ pk ?_ | (show AL _ _ _ _ _ _ _; first | refine zoi tok 0 rfl rfl rfl rfl (by decide) rfl rfl rfl rfl rfl rfl (by omega) (by omega) ?_ | refine s_storeBl tok 0 rfl rfl rfl rfl rfl rfl rfl rfl (by omega) ?_))
    refine a_frzV 0 4 rfl rfl (FZ.ipM (l := [.lit v1, .lit v2]) (m := [boolsA (s.ns.set el.toNat true), .lit v2]) ⟨FZ.here, FZ.refl _, trivial⟩) ?_
    refine a_frzV 0 4 rfl rfl (FZ.ipM (l := [boolsA (s.ns.set el.toNat true), .lit v2]) (m := [boolsA (s.ns.set el.toNat true), boolsA s.es]) ⟨FZ.refl _, FZ.here, trivial⟩) ?_
    repeat (first | refine gV pk ?_ | (show AL _ _ _ _ _ _ _; first | refine jS tok 0 ?_))
    refine zfb 0 6 rfl rfl ?_
    refine a_ret ?_
    exact ⟨.inr rfl, _, _, _, _, rfl, rfl, Turn.of (Sub.of_eq rfl) (OSub.none _), rfl, rfl⟩
  · simp only at h1 h2
    have hx := List.getElem?_eq_getElem (l := p.edges) (i := el.toNat) (by omega)
    have hxe := hed _ (List.getElem_mem (l := p.edges) (n := el.toNat) (by omega))
    generalize p.edges[el.toNat]'(by omega) = x at hx hxe
    have hxp : edP p el = x := by
      unfold edP
      rw [List.getD_eq_getElem?_getD, hx]
      rfl
    have e2 : aftK p s ⟨kind, el⟩ = ⟨(s.ns.set x.fr.toNat true).set x.to.toNat true, s.es.set el.toNat true⟩ := by
      unfold aftK
      rw [if_neg (by show ¬ kind = 1; omega)]
      simp only [hxp]
    rw [e2]
    obtain ⟨xt, xf, xo⟩ := x
    simp only at hxe
    have xk : (p.edges.map cEd)[el.toNat]? = some [AI xt, AI xf, AI xo] := zmp (f := cEd) hx
    have le : (p.edges.map cEd).length = p.edges.length := by simp
    clear e2 hx hxp hed h3 ho
    obtain ⟨pn, pe⟩ := p
    simp only at *
    refine a_enterC Tryz.func89 (by kernel_rfl) rfl Tryz.ntmps89 rfl (tok _ _ rfl) (by simp) ?_
    refine a_seq ?_
    refine a_reg ?_
    repeat (first | refine gZ pk ?_ | (show AL _ _ _ _ _ _ _; first | refine jB (fun u => ?_) | refine jL tok (fun U6 => ?_)))
    refine zfb 1 5 rfl rfl ?_
    refine zfb 2 3 rfl rfl ?_
    refine a_reg ?_
    repeat (first | refine gZ pk ?_ | (show AL _ _ _ _ _ _ _; first | refine jO tok 1 ?_ | refine zsc (Lc := []) rfl rfl rfl rfl rfl sc (SubL.of_eq rfl) (List.Perm.refl _) ?_; rintro _ _ ⟨v1, v2, hv1, hv2, rfl, rfl⟩ | refine s_store (a := .agg [.lit v1, .lit v2]) tok 3 rfl rfl rfl rfl rfl rfl (by simp [AV.storable, AV.cell, hv1, hv2]) rfl (by decide) rfl rfl rfl (Nat.le_of_ble_eq_true rfl) ?_))
    refine zfb 3 4 rfl rfl ?_
    repeat (first | refine gN pk ?_ | (show AL _ _ _ _ _ _ _; first | refine zoi tok 1 rfl rfl rfl rfl (by decide) rfl rfl rfl rfl rfl rfl (by omega) (by omega) ?_ | refine s_storeBl tok 1 rfl rfl rfl rfl rfl rfl rfl rfl (by omega) ?_))
    refine zrg ((List.range 22).map fun i => if inL [19, 21] i = true then .eff else if inL [18, 20] i = true then .read else .pure) [] [0, 1, 2, 3, 4, 5, 6, 7, 8, 9, 10, 11, 12, 13, 14, 15, 16, 17, 18, 19, 20, 21] .stop mixed rfl rfl (by decide +kernel) ?_
    repeat' (first | (with_reducible show AG _ _ _ _ _ _ _ _ _ _; first | exact zgn | refine zgs ?_ | refine znd ?_ ?_) | (show AMid _ _ _ _; first | refine zmf ?_ | refine zmg (by first | exact OSub.refl _ | exact .drop (OSub.refl _) | exact .drop (.drop (OSub.refl _))) ?_) | refine gY pk ?_ | (show AL _ _ _ _ _ _ _; first | refine jX tok xk ?_ | refine zoi tok 0 rfl rfl rfl rfl (by decide) rfl rfl rfl rfl rfl rfl (by omega) (by first | omega | (simp only [List.length_map, List.length_set]; omega)) ?_ | refine s_storeBl tok 0 rfl rfl rfl rfl rfl rfl rfl rfl (by first | omega | (simp only [List.length_set]; omega)) ?_) | fail)
    repeat (first | refine gZ pk ?_)
    refine a_frzV 0 4 rfl rfl (FZ.ipM (l := [.lit v1, .lit v2]) (m := [boolsA ((s.ns.set xf.toNat true).set xo.toNat true), .lit v2]) ⟨FZ.here, FZ.refl _, trivial⟩) ?_
    refine a_frzV 0 4 rfl rfl (FZ.ipM (l := [boolsA ((s.ns.set xf.toNat true).set xo.toNat true), .lit v2]) (m := [boolsA ((s.ns.set xf.toNat true).set xo.toNat true), boolsA (s.es.set el.toNat true)]) ⟨FZ.refl _, FZ.here, trivial⟩) ?_
    repeat (first | refine gV pk ?_ | (show AL _ _ _ _ _ _ _; first | refine jS tok 0 ?_))
    refine zfb 0 6 rfl rfl ?_
    refine a_ret ?_
    exact ⟨.inr rfl, _, _, _, _, rfl, rfl, Turn.of (Sub.of_eq rfl) (OSub.none _), rfl, rfl⟩
end Go.Proofs.YtimfponihbfimaaGreat
end
section
namespace Go.Proofs.YtimfponihbfimaaGreat
open Go.Sj Go.Sj.Typ Go.Sj.Sta Go.Sj.Inc Go.Sj.Pln
set_option maxRecDepth 8000
set_option maxHeartbeats 16000000
theorem gends_spec (p : Gr) (s : Kn) (i xt xf xo : Int) (hi : 0 ≤ i) (hx : p.edges[i.toNat]? = some ⟨xt, xf, xo⟩) (hf : 0 ≤ xf ∧ xf < s.ns.length) (ho : 0 ≤ xo ∧ xo < s.ns.length) : Pure Tryz.prog 140 [grA p, knA s, AI i] (.tup [AB (nodK s xf), AB (nodK s xo)]) := by
  have xk : (p.edges.map cEd)[i.toNat]? = some [AI xt, AI xf, AI xo] := zmp (f := cEd) hx
  have gf := bl_get (l := s.ns) (i := xf) (by omega)
  have gt := bl_get (l := s.ns) (i := xo) (by omega)
  change _ = some [AB (nodK s xf)] at gf
  change _ = some [AB (nodK s xo)] at gt
  generalize nodK s xf = b1 at *
  generalize nodK s xo = b2 at *
  obtain ⟨pn, pe⟩ := p
  obtain ⟨ns, es⟩ := s
  simp only at *
  change Pure _ _ [.agg [ints pn, edsA pe], .agg [boolsA ns, boolsA es], AI i] _
  refine zen Tryz.func140 (by kernel_rfl) rfl Tryz.ntmps140 rfl (by simp) ?_
  refine a_seq ?_
  refine a_reg ?_
  repeat (first | refine gZ pk ?_ | (show AL _ _ _ _ _ _ _; first | refine jB (fun u => ?_)))
  refine zfb 1 3 rfl rfl ?_
  refine zfb 0 4 rfl rfl ?_
  repeat (first | refine gN pk ?_)
  refine zrg ((List.range 22).map fun i => if inL [1, 3, 5, 7, 8, 9, 11, 13, 15, 17, 18, 19] i = true then .read else .pure) [] [0, 1, 2, 3, 4, 5, 6, 7, 8, 9, 10, 11, 12, 13, 14, 15, 16, 17, 18, 19, 20, 21] .stop mixed rfl rfl (by decide +kernel) ?_
  repeat' (first | (with_reducible show AG _ _ _ _ _ _ _ _ _ _; first | exact zgn | refine zgs ?_ | refine znd ?_ ?_) | (show AMid _ _ _ _; first | refine zmf ?_ | refine zmg (by first | exact OSub.refl _ | exact .drop (OSub.refl _) | exact .drop (.drop (OSub.refl _))) ?_) | refine gY pk ?_ | (show AL _ _ _ _ _ _ _; first | refine jX tok xk ?_ | refine jX tok gf ?_ | refine jX tok gt ?_) | fail)
  repeat (first | refine gA pk ?_)
  refine fin (x := .tup [AB b1, AB b2]) (.inr rfl) rfl (Sub.refl _) ⟨rfl, rfl⟩ (OSub.none _)
theorem gpossible_spec (p : Gr) (hp : GV p) (s : Kn) (hs : KnOk p s) (o : Opn) : Pure Tryz.prog 88 [grA p, knA s, .agg (cOp o)] (AI (opE p s o)) := by
  obtain ⟨kind, el⟩ := o
  have hnl := hp.nl
  have hel := hp.el
  have hns := hs.nl
  have hes := hs.el
  have ln : (rowI p.nodes).length = p.nodes.length := by simp
  have le : (p.edges.map cEd).length = p.edges.length := by simp
  have hed := hp.edges
  change Pure _ _ [_, _, .agg [AI kind, AI el]] _
  by_cases h1 : kind = 1
  · subst h1
    by_cases h2 : 0 ≤ el ∧ el < p.nodes.length
    · have gk := bl_get (l := s.ns) (i := el) (by omega)
      obtain ⟨b, hb⟩ : ∃ b, s.ns.getD el.toNat false = b := ⟨_, rfl⟩
      rw [hb] at gk
      have e1 : opE p s ⟨1, el⟩ = if b = true then 8 else 0 := by
        unfold opE nodK
        rw [if_pos rfl, if_pos h2]
        simp only [hb]
      rw [e1]
      clear e1 hb hed hes hns hp hs
      obtain ⟨pn, pe⟩ := p
      obtain ⟨ns, es⟩ := s
      simp only at *
      change Pure _ _ [.agg [ints pn, edsA pe], .agg [boolsA ns, boolsA es], _] _
      cases b
      all_goals
        refine zen Tryz.func88 (by kernel_rfl) rfl Tryz.ntmps88 rfl (by simp) ?_
        refine a_seq ?_
        refine a_reg ?_
        repeat (first | refine gZ pk ?_ | (show AL _ _ _ _ _ _ _; first | refine jB (fun u => ?_)))
        refine zfb 2 3 rfl rfl ?_
        refine zfb 1 4 rfl rfl ?_
        refine zfb 0 5 rfl rfl ?_
        repeat (first | refine gA pk ?_ | (show AL _ _ _ _ _ _ _; first | refine jX tok gk ?_))
        refine finQ ?_
        exact ⟨rfl, rfl⟩
    · have e1 : opE p s ⟨1, el⟩ = 6 := by
        unfold opE
        rw [if_pos rfl, if_neg h2]
      rw [e1]
      have hx : el < 0 ∨ (0 ≤ el ∧ (p.nodes.length : Int) ≤ el) := by omega
      clear e1 hed hes hns hp hs
      obtain ⟨pn, pe⟩ := p
      obtain ⟨ns, es⟩ := s
      simp only at *
      change Pure _ _ [.agg [ints pn, edsA pe], .agg [boolsA ns, boolsA es], _] _
      rcases hx with hx | ⟨hx1, hx2⟩
      all_goals
        refine zen Tryz.func88 (by kernel_rfl) rfl Tryz.ntmps88 rfl (by simp) ?_
        refine a_seq ?_
        refine a_reg ?_
        repeat (first | refine gZ pk ?_ | (show AL _ _ _ _ _ _ _; first | refine jB (fun u => ?_)))
        refine zfb 2 3 rfl rfl ?_
        refine zfb 1 4 rfl rfl ?_
        refine zfb 0 5 rfl rfl ?_
        repeat (first | refine gA pk ?_)
        refine finQ ?_
        exact ⟨rfl, rfl⟩
  · by_cases h3 : kind = 2 ∨ kind = 3
    rotate_left
    · have e1 : opE p s ⟨kind, el⟩ = 6 := by
        unfold opE
        rw [if_neg h1, if_neg h3]
      rw [e1]
      have hx : kind < 1 ∨ (1 ≤ kind ∧ 3 < kind) := by omega
      clear e1 hed hes hns hp hs
      obtain ⟨pn, pe⟩ := p
      obtain ⟨ns, es⟩ := s
      simp only at *
      change Pure _ _ [.agg [ints pn, edsA pe], .agg [boolsA ns, boolsA es], _] _
      rcases hx with hx | ⟨hx1, hx2⟩
      all_goals
        refine zen Tryz.func88 (by kernel_rfl) rfl Tryz.ntmps88 rfl (by simp) ?_
        refine a_seq ?_
        refine a_reg ?_
        repeat (first | refine gZ pk ?_ | (show AL _ _ _ _ _ _ _; first | refine jB (fun u => ?_)))
        refine zfb 2 3 rfl rfl ?_
        refine zfb 1 4 rfl rfl ?_
        refine zfb 0 5 rfl rfl ?_
        repeat (first | refine gA pk ?_)
        refine finQ ?_
        exact ⟨rfl, rfl⟩
    · by_cases h2 : 0 ≤ el ∧ el < p.edges.length
      rotate_left
      · have e1 : opE p s ⟨kind, el⟩ = 6 := by
          unfold opE
          rw [if_neg h1, if_pos h3, if_neg h2]
        rw [e1]
        have hx : el < 0 ∨ (0 ≤ el ∧ (p.edges.length : Int) ≤ el) := by omega
        clear e1 hed hes hns hp hs
        obtain ⟨pn, pe⟩ := p
        obtain ⟨ns, es⟩ := s
        simp only at *
        change Pure _ _ [.agg [ints pn, edsA pe], .agg [boolsA ns, boolsA es], _] _
        rcases h3 with rfl | rfl <;> rcases hx with hx | ⟨hx1, hx2⟩
        all_goals
          refine zen Tryz.func88 (by kernel_rfl) rfl Tryz.ntmps88 rfl (by simp) ?_
          refine a_seq ?_
          refine a_reg ?_
          repeat (first | refine gZ pk ?_ | (show AL _ _ _ _ _ _ _; first | refine jB (fun u => ?_)))
          refine zfb 2 3 rfl rfl ?_
          refine zfb 1 4 rfl rfl ?_
          refine zfb 0 5 rfl rfl ?_
          repeat (first | refine gA pk ?_)
          refine finQ ?_
          exact ⟨rfl, rfl⟩
      · obtain ⟨eb, heb⟩ : ∃ eb, edgP p s ⟨kind, el⟩ = eb := ⟨_, rfl⟩
        have e1 : opE p s ⟨kind, el⟩ = if eb = true then 0 else 8 := by
          unfold opE
          rw [if_neg h1, if_pos h3, if_pos h2]
          simp only [heb]
        have hx := List.getElem?_eq_getElem (l := p.edges) (i := el.toNat) (by omega)
        have hxe := hed _ (List.getElem_mem (l := p.edges) (n := el.toNat) (by omega))
        generalize p.edges[el.toNat]'(by omega) = x at hx hxe
        have hxp : edP p el = x := by
          unfold edP
          rw [List.getD_eq_getElem?_getD, hx]
          rfl
        obtain ⟨xt, xf, xo⟩ := x
        simp only at hxe
        have se := gends_spec p s el xt xf xo h2.1 hx (by rw [hns]; exact hxe.2.1) (by rw [hns]; exact hxe.2.2)
        have ge := bl_get (l := s.es) (i := el) (by omega)
        change _ = some [AB (edgK s el)] at ge
        unfold edgP at heb
        simp only [hxp] at heb
        rw [e1]
        clear e1 hx hxp hed hxe hns hp hs
        generalize nodK s xf = b1 at *
        generalize nodK s xo = b2 at *
        generalize edgK s el = b3 at *
        obtain ⟨pn, pe⟩ := p
        obtain ⟨ns, es⟩ := s
        simp only at *
        change Pure _ _ [.agg [ints pn, edsA pe], .agg [boolsA ns, boolsA es], _] _
        change Pure _ _ [.agg [ints pn, edsA pe], .agg [boolsA ns, boolsA es], _] _ at se
        rcases h3 with rfl | rfl <;> cases b1 <;> cases b2 <;> cases b3 <;> cases eb <;> (try (exfalso; revert heb; decide))
        all_goals
          refine zen Tryz.func88 (by kernel_rfl) rfl Tryz.ntmps88 rfl (by simp) ?_
          refine a_seq ?_
          refine a_reg ?_
          repeat (first | refine gZ pk ?_ | (show AL _ _ _ _ _ _ _; first | refine jB (fun u => ?_)))
          refine zfb 2 3 rfl rfl ?_
          refine zfb 1 4 rfl rfl ?_
          refine zfb 0 5 rfl rfl ?_
          repeat (first | refine gA pk ?_ | (show AL _ _ _ _ _ _ _; first | refine jP se ?_ | refine jX tok ge ?_ | refine s_boolNe tok rfl rfl rfl rfl rfl rfl rfl ?_))
          refine finQ ?_
          exact ⟨rfl, rfl⟩
theorem all_take {l : List Bool} (h : ∀ b ∈ l, b = true) : l.contains false = false := by
  rw [List.contains_eq_mem, decide_eq_false_iff_not]
  intro hm
  cases h _ hm
theorem has_false {l : List Bool} {k : Nat} (h : l[k]? = some false) : l.contains false = true := by
  rw [List.contains_eq_mem, decide_eq_true_eq]
  exact List.mem_of_getElem? h
theorem gknown_spec (s : Kn) (h1 : s.ns.length ≤ 1000) (h2 : s.es.length ≤ 1000) : Pure Tryz.prog 90 [knA s] (AB (knownB s)) := by
  obtain ⟨ns, es⟩ := s
  simp only at h1 h2
  have l1 : (ns.map cB).length = ns.length := by simp
  have l2 : (es.map cB).length = es.length := by simp
  unfold knownB
  simp only
  change Pure _ _ [.agg [boolsA ns, boolsA es]] _
  refine zen Tryz.func90 (by kernel_rfl) rfl Tryz.ntmps90 rfl (by simp) ?_
  refine a_seq ?_
  refine a_reg ?_
  repeat (first | refine gZ pk ?_ | (show AL _ _ _ _ _ _ _; first | refine jB (fun u => ?_)))
  refine zfb 0 1 rfl rfl ?_
  repeat (first | refine gA pk ?_)
  refine zlx (fun k : Nat => [(1, .ip [boolsA ns, boolsA es]), (3, AI k)]) (fun _ => []) (fun k => k ≤ ns.length ∧ ∀ b ∈ ns.take k, b = true) (fun k => ns.length - k) 0 ⟨Nat.zero_le _, by simp⟩ ?_ (OSub.none _) ?_
  · exact subQ
  rintro k ⟨hk, hp⟩
  rcases Nat.lt_or_ge k ns.length with h | h
  · have hx := List.getElem?_eq_getElem h
    generalize ns[k] = b at hx
    have xk : (ns.map cB)[(k : Int).toNat]? = some [AB b] := zmp (f := cB) hx
    cases b
    · rw [has_false hx]
      repeat (first | refine gA pk ?_ | (show AL _ _ _ _ _ _ _; first | refine jX tok xk ?_))
      refine finQ ?_
      exact ⟨rfl, rfl⟩
    · repeat (first | refine gA pk ?_ | (show AL _ _ _ _ _ _ _; first | refine jX tok xk ?_))
      exact ⟨k + 1, ⟨by omega, take_allI hx hp rfl⟩, by omega, by exact subQ, OSub.none _⟩
  · obtain rfl : k = ns.length := by omega
    rw [List.take_length] at hp
    rw [all_take hp]
    clear hp hk h
    repeat (first | refine gA pk ?_)
    refine zlx (fun k : Nat => [(1, .ip [boolsA ns, boolsA es]), (4, AI k)]) (fun _ => []) (fun k => k ≤ es.length ∧ ∀ b ∈ es.take k, b = true) (fun k => es.length - k) 0 ⟨Nat.zero_le _, by simp⟩ ?_ (OSub.none _) ?_
    · exact subQ
    rintro k ⟨hk, hp⟩
    rcases Nat.lt_or_ge k es.length with h | h
    · have hx := List.getElem?_eq_getElem h
      generalize es[k] = b at hx
      have xk : (es.map cB)[(k : Int).toNat]? = some [AB b] := zmp (f := cB) hx
      cases b
      · rw [has_false hx]
        repeat (first | refine gA pk ?_ | (show AL _ _ _ _ _ _ _; first | refine jX tok xk ?_))
        refine finQ ?_
        exact ⟨rfl, rfl⟩
      · repeat (first | refine gA pk ?_ | (show AL _ _ _ _ _ _ _; first | refine jX tok xk ?_))
        exact ⟨k + 1, ⟨by omega, take_allI hx hp rfl⟩, by omega, by exact subQ, OSub.none _⟩
    · obtain rfl : k = es.length := by omega
      rw [List.take_length] at hp
      rw [all_take hp]
      repeat (first | refine gA pk ?_)
      refine finQ ?_
      exact ⟨rfl, rfl⟩
end Go.Proofs.YtimfponihbfimaaGreat
end
