/- Parts of a proof. -/
import Derived.Test.YtddohheabpiljaaGreatU44
set_option linter.unusedVariables false
set_option linter.unusedSimpArgs false
section
namespace Go.Proofs.YtddohheabpiljaaGreat
open Go.Sj Go.Sj.Typ Go.Sj.Sta Go.Sj.Inc
set_option maxRecDepth 8000
set_option maxHeartbeats 16000000
theorem icopiedO_spec (g : Gr) (h1 : g.nodes.length ≤ 1000) (h2 : g.edges.length ≤ 1000) : ACalls Tryz.prog 35 [grA g] [] (fun y L => ∃ vn ve, vn.oneCell' = true ∧ ve.oneCell' = true ∧ y = .agg [.lit vn, .lit ve] ∧ L = [(vn, .row 3 1 (rowI g.nodes)), (ve, .row 85 3 (g.edges.map cEd))]) := by
  have s1 := CloneN_spec g.nodes (by omega)
  have s2 := CloneG_spec g.edges (by omega)
  refine a_enterC Tryz.func35 (by kernel_rfl) rfl Tryz.ntmps35 rfl (tok _ _ rfl) (by simp) ?_
  refine a_seq ?_
  refine a_reg ?_
  repeat (first | refine gZ pk ?_ | (show AL _ _ _ _ _ _ _; first | refine jB (fun ug => ?_) | refine jL tok (fun U2 => ?_)))
  refine zfb 1 1 rfl rfl ?_
  refine AWp.mono (Q := fun e st L => e = .normal ∧ ∃ va vb, va.oneCell' = true ∧ vb.oneCell' = true ∧ GoTo 10 st L (lk [(2, .pt U2 0 0 0)]) [(U2, OB.box [.lit va, .lit vb]), (va, OB.row 3 1 (rowI g.nodes)), (vb, OB.row 85 3 (g.edges.map cEd))]) ?_ (fun e st L h => ?_)
  · refine zrg ((List.range 8).map fun i => if inL [2, 5, 7] i = true then .eff else .pure) [] [0, 1, 3, 4, 2, 5, 6, 7] .stop mixed rfl rfl (by decide +kernel) ?_
    repeat' (first | (with_reducible show AG _ _ _ _ _ _ _ _ _ _; first | exact zgn | refine zgs ?_ | refine znd ?_ ?_) | (show AMid _ _ _ _; first | refine zmf ?_ | refine zmg (by first | exact OSub.refl _ | exact .drop (OSub.refl _) | exact .drop (.drop (OSub.refl _))) ?_) | refine gY pk ?_ | (show AL _ _ _ _ _ _ _; first | refine zsc (Lc := []) rfl rfl rfl rfl rfl (ACalls.slices s1) (SubL.of_eq rfl) (List.Perm.refl _) ?_; rintro _ _ ⟨⟨va, rfl, rfl⟩, hva⟩; obtain ⟨a1, c1, rfl⟩ := hva _ (List.mem_singleton.2 rfl) | refine zsc (Lc := []) rfl rfl rfl rfl rfl (ACalls.slices s2) (SubL.of_eq rfl) (List.Perm.refl _) ?_; rintro _ _ ⟨⟨vb, rfl, rfl⟩, hvb⟩; obtain ⟨a2, c2, rfl⟩ := hvb _ (List.mem_singleton.2 rfl) | refine jS tok 2 ?_) | fail)
    exact ⟨rfl, _, _, rfl, rfl, (GoTo.sub (by exact subQ) (OSub.refl _)).trans (GoTo.perm (perm3 _ _ _).2.2.1)⟩
  · obtain ⟨rfl, va, vb, hva, hvb, h⟩ := h
    refine zgt h ?_
    refine zfb 0 2 rfl rfl ?_
    repeat (first | refine gA pk ?_)
    exact ⟨.inr rfl, _, _, _, _, rfl, rfl, Turn.of (Sub.of_eq rfl) (OSub.refl _), va, vb, hva, hvb, rfl, rfl⟩
theorem ieditedE_spec (g : Gr) (h1 : g.nodes.length ≤ 1000) (h2 : g.edges.length ≤ 1000) (i ty fr to : Int) : Pure Tryz.prog 64 [grA g, .agg [AI 2, AI i, AI ty, AI fr, AI to]] (grA ⟨g.nodes, g.edges ++ [⟨ty, fr, to⟩]⟩) := by
  have s1 := icopiedO_spec g h1 h2
  have le : (g.edges.map cEd).length = g.edges.length := by simp
  have hes : (g.edges ++ [(⟨ty, fr, to⟩ : Ed)]).map cEd = g.edges.map cEd ++ [[AI ty, AI fr, AI to]] := by simp [cEd]
  have hr1 : ∀ (l : List Int), ∀ x ∈ rowI l, x.length = 1 := fun l x hx => by
    obtain ⟨y, _, rfl⟩ := List.mem_map.1 hx
    rfl
  have hr3 : ∀ (l : List Ed), ∀ x ∈ l.map cEd, x.length = 3 := fun l x hx => by
    obtain ⟨y, _, rfl⟩ := List.mem_map.1 hx
    rfl
  refine a_enterC Tryz.func64 (by kernel_rfl) rfl Tryz.ntmps64 rfl (tok _ _ rfl) (by simp) ?_
  refine a_seq ?_
  refine a_reg ?_
  repeat (first | refine gZ pk ?_ | (show AL _ _ _ _ _ _ _; first | refine jB (fun ug => ?_) | refine jL tok (fun U4 => ?_)))
  refine zfb 2 2 rfl rfl ?_
  refine zfb 1 3 rfl rfl ?_
  refine a_reg ?_
  repeat (first | refine gZ pk ?_ | (show AL _ _ _ _ _ _ _; first | refine zsc (Lc := []) rfl rfl rfl rfl rfl s1 (SubL.of_eq rfl) (List.Perm.refl _) ?_; rintro _ _ ⟨vn, ve, hvn, hve, rfl, rfl⟩ | refine jL tok (fun ub => ?_) | refine s_store (a := .agg [.lit vn, .lit ve]) tok 0 rfl rfl rfl rfl rfl rfl (by simp [AV.storable, AV.cell, hvn, hve]) rfl (by decide) rfl rfl rfl (Nat.le_of_ble_eq_true rfl) ?_))
  refine a_reg ?_
  repeat (first | refine gZ pk ?_)
  refine a_reg ?_
  repeat (first | refine gZ pk ?_)
  refine a_reg ?_
  repeat (first | refine gZ pk ?_)
  refine a_reg ?_
  repeat (first | refine gZ pk ?_ | (show AL _ _ _ _ _ _ _; first | refine jO tok 0 ?_ | refine zba tok rfl rfl rfl rfl rfl rfl rfl rfl (by decide) (fun lv => ?_) | refine zak tok 2 rfl rfl rfl rfl rfl rfl (by decide) rfl rfl rfl rfl (by omega) (by omega) (fun w hw => ?_) | refine zsb tok 0 rfl rfl rfl rfl rfl rfl rfl (by assumption) rfl (Nat.le_of_ble_eq_true rfl) rfl ?_))
  rw [← hes]
  refine zgt (GoTo.freeze 1 rfl (FZS.refl _) [(ub, OB.box [ints g.nodes, .lit w]), (w, OB.row 85 3 ((g.edges ++ [(⟨ty, fr, to⟩ : Ed)]).map cEd)), (U4, OB.box [nilS, nilS])] (zfo ⟨FZ.here, FZ.refl _, trivial⟩ (zfw (hr3 _) (zfo (FZL.refl _) trivial)))) ?_
  refine zgt (GoTo.freeze 1 rfl (FZS.refl _) [(ub, OB.box [ints g.nodes, edsA (g.edges ++ [(⟨ty, fr, to⟩ : Ed)])]), (U4, OB.box [nilS, nilS])] (zfo ⟨FZ.refl _, FZ.here, trivial⟩ (zfo (FZL.refl _) trivial))) ?_
  refine zfb 0 5 rfl rfl ?_
  repeat (first | refine gV pk ?_ | (show AL _ _ _ _ _ _ _; first | refine jS tok 0 ?_))
  refine zfb 0 4 rfl rfl ?_
  refine a_ret ?_
  exact ⟨.inr rfl, _, _, _, _, rfl, rfl, Turn.of (Sub.of_eq rfl) (OSub.none _), rfl, rfl⟩
theorem ieditedN_spec (g : Gr) (h1 : g.nodes.length ≤ 1000) (h2 : g.edges.length ≤ 1000) (i ty fr to : Int) : Pure Tryz.prog 64 [grA g, .agg [AI 1, AI i, AI ty, AI fr, AI to]] (grA ⟨g.nodes ++ [ty], g.edges⟩) := by
  have s1 := icopiedO_spec g h1 h2
  have ln : (rowI g.nodes).length = g.nodes.length := by simp
  have hns : rowI (g.nodes ++ [ty]) = rowI g.nodes ++ [[AI ty]] := by simp [cI]
  have hr1 : ∀ (l : List Int), ∀ x ∈ rowI l, x.length = 1 := fun l x hx => by
    obtain ⟨y, _, rfl⟩ := List.mem_map.1 hx
    rfl
  have hr3 : ∀ (l : List Ed), ∀ x ∈ l.map cEd, x.length = 3 := fun l x hx => by
    obtain ⟨y, _, rfl⟩ := List.mem_map.1 hx
    rfl
  refine a_enterC Tryz.func64 (by kernel_rfl) rfl Tryz.ntmps64 rfl (tok _ _ rfl) (by simp) ?_
  refine a_seq ?_
  refine a_reg ?_
  repeat (first | refine gZ pk ?_ | (show AL _ _ _ _ _ _ _; first | refine jB (fun ug => ?_) | refine jL tok (fun U4 => ?_)))
  refine zfb 2 2 rfl rfl ?_
  refine zfb 1 3 rfl rfl ?_
  refine a_reg ?_
  repeat (first | refine gZ pk ?_ | (show AL _ _ _ _ _ _ _; first | refine zsc (Lc := []) rfl rfl rfl rfl rfl s1 (SubL.of_eq rfl) (List.Perm.refl _) ?_; rintro _ _ ⟨vn, ve, hvn, hve, rfl, rfl⟩ | refine jL tok (fun ub => ?_) | refine s_store (a := .agg [.lit vn, .lit ve]) tok 0 rfl rfl rfl rfl rfl rfl (by simp [AV.storable, AV.cell, hvn, hve]) rfl (by decide) rfl rfl rfl (Nat.le_of_ble_eq_true rfl) ?_))
  refine a_reg ?_
  repeat (first | refine gZ pk ?_)
  refine a_reg ?_
  repeat (first | refine gZ pk ?_)
  refine a_reg ?_
  repeat (first | refine gZ pk ?_ | (show AL _ _ _ _ _ _ _; first | refine jO tok 0 ?_ | refine s_build1 tok rfl rfl rfl rfl rfl rfl rfl rfl (fun lv => ?_) | refine zak tok 1 rfl rfl rfl rfl rfl rfl (by decide) rfl rfl rfl rfl (by omega) (by omega) (fun w hw => ?_) | refine zsb tok 0 rfl rfl rfl rfl rfl rfl rfl (by assumption) rfl (Nat.le_of_ble_eq_true rfl) rfl ?_))
  rw [← hns]
  refine zgt (GoTo.freeze 1 rfl (FZS.refl _) [(ub, OB.box [ints (g.nodes ++ [ty]), .lit ve]), (ve, OB.row 85 3 (g.edges.map cEd)), (U4, OB.box [nilS, nilS])] (zfo ⟨FZ.here, FZ.refl _, trivial⟩ (zfw (hr3 _) (zfo (FZL.refl _) trivial)))) ?_
  refine zgt (GoTo.freeze 1 rfl (FZS.refl _) [(ub, OB.box [ints (g.nodes ++ [ty]), edsA g.edges]), (U4, OB.box [nilS, nilS])] (zfo ⟨FZ.refl _, FZ.here, trivial⟩ (zfo (FZL.refl _) trivial))) ?_
  refine zfb 0 5 rfl rfl ?_
  repeat (first | refine gV pk ?_ | (show AL _ _ _ _ _ _ _; first | refine jS tok 0 ?_))
  refine zfb 0 4 rfl rfl ?_
  refine a_ret ?_
  exact ⟨.inr rfl, _, _, _, _, rfl, rfl, Turn.of (Sub.of_eq rfl) (OSub.none _), rfl, rfl⟩
end Go.Proofs.YtddohheabpiljaaGreat
end
section
namespace Go.Proofs.YtddohheabpiljaaGreat
open Go.Sj Go.Sj.Typ Go.Sj.Sta Go.Sj.Inc
set_option maxRecDepth 8000
set_option maxHeartbeats 16000000
section
variable {P : Program} {N : Nat} {ops : List Oper} {Q : St → Own → Prop} {L : Own} {rest : List (Oper × Kd)} {l : List (Nat × AV)} {k : Kd} {q : Nat}
theorem s_loadEf {tt : List (TypeId × TD)} (ok : TOK P tt) (i : Nat) {o : Oper} {T : TypeId} {x : Operand} {d : TD} {v : Value} {E j f : Nat} {xs : List Ed} {e : Ed} {z : Int}
    (ho : o.op = .load T x) (hdst : o.dst = some q) (hd : Nat.blt q N = true) (hg : guardA ops o (lk l) = some true) (hk : k ≠ .pure) (hT : lkT tt T = some d) (ha : d.isAgg = false) (hx : ev (lk l) x = .pt v 3 j f) (hL : L[i]? = some (v, .row E 3 (xs.map cEd))) (hj : xs[j]? = some e) (hf : (cEd e)[f]? = some (AI z))
    (n : AL P N ops Q rest (lk ((q, AI z) :: l)) L) : AL P N ops Q ((o, k) :: rest) (lk l) L := by
  have h1 : (xs.map cEd)[j]? = some (cEd e) := zmp hj
  refine s_ownLoad ok i ho hdst hd hg hk hT hx hL rfl (cells := (cEd e).drop f) (by simp only [obAt, h1]) ?_ ?_ n
  · simp only [partA, ha, cond_false, List.getElem?_drop, Nat.add_zero]
    exact hf
  · intro h
    have := congrArg List.length h
    have h2 := (List.getElem?_eq_some_iff.1 hf).1
    simp only [List.length_drop, List.length_nil] at this
    omega
theorem s_storeEf {tt : List (TypeId × TD)} (ok : TOK P tt) (i : Nat) {o : Oper} {T : TypeId} {x y : Operand} {d : TD} {v : Value} {E j f : Nat} {xs : List Ed} {e e' : Ed} {z : Int}
    (ho : o.op = .store T x y) (hdst : o.dst = none) (hg : guardA ops o (lk l) = some true) (hT : lkT tt T = some d) (hd1 : d.size = 1) (hx : ev (lk l) x = .pt v 3 j f) (hy : ev (lk l) y = AI z) (hL : L[i]? = some (v, .row E 3 (xs.map cEd))) (hj : xs[j]? = some e) (hf : f < 3) (he : (cEd e).set f (AI z) = cEd e')
    (n : AL P N ops Q rest (lk l) (L.set i (v, .row E 3 ((xs.set j e').map cEd)))) : AL P N ops Q ((o, .eff) :: rest) (lk l) L := by
  have h1 : (xs.map cEd)[j]? = some (cEd e) := zmp hj
  have hl3 : (cEd e).length = 3 := rfl
  refine s_store ok i ho hdst hg hT hx hy rfl (by rw [hd1]; rfl) (by rw [hd1]; decide) hL rfl (cells := (cEd e).drop f) (by simp only [obAt, h1]) (by simp only [List.length_drop, hl3, AV.cells, List.length_cons, List.length_nil]; omega) ?_
  have h2 : obSet (.row E 3 (xs.map cEd)) j f (AV.cells (AI z)) = .row E 3 ((xs.set j e').map cEd) := by
    simp only [obSet, List.getD_eq_getElem?_getD, h1, List.map_set, ← he, Option.getD_some]
    obtain ⟨a, b, c⟩ := e
    have hf' : f = 0 ∨ f = 1 ∨ f = 2 := by omega
    rcases hf' with rfl | rfl | rfl <;> rfl
  rw [h2]
  exact n
end
theorem ieditedRE_spec (g : Gr) (h1 : g.nodes.length ≤ 1000) (h2 : g.edges.length ≤ 1000) (k : Nat) (hk : k < g.edges.length) (ty fr to : Int) : Pure Tryz.prog 64 [grA g, .agg [AI 4, AI k, AI ty, AI fr, AI to]] (grA ⟨g.nodes, g.edges.eraseIdx k⟩) := by
  have s2 := fun v => ACalls.slices (DeleteE_spec g.edges k hk (by omega) v)
  have s1 := icopiedO_spec g h1 h2
  have ln : (rowI g.nodes).length = g.nodes.length := by simp
  have le : (g.edges.map cEd).length = g.edges.length := by simp
  have hr1 : ∀ (l : List Int), ∀ x ∈ rowI l, x.length = 1 := fun l x hx => by
    obtain ⟨y, _, rfl⟩ := List.mem_map.1 hx
    rfl
  have hr3 : ∀ (l : List Ed), ∀ x ∈ l.map cEd, x.length = 3 := fun l x hx => by
    obtain ⟨y, _, rfl⟩ := List.mem_map.1 hx
    rfl
  refine a_enterC Tryz.func64 (by kernel_rfl) rfl Tryz.ntmps64 rfl (tok _ _ rfl) (by simp) ?_
  refine a_seq ?_
  refine a_reg ?_
  repeat (first | refine gZ pk ?_ | (show AL _ _ _ _ _ _ _; first | refine jB (fun ug => ?_) | refine jL tok (fun U4 => ?_)))
  refine zfb 2 2 rfl rfl ?_
  refine zfb 1 3 rfl rfl ?_
  refine a_reg ?_
  repeat (first | refine gZ pk ?_ | (show AL _ _ _ _ _ _ _; first | refine zsc (Lc := []) rfl rfl rfl rfl rfl s1 (SubL.of_eq rfl) (List.Perm.refl _) ?_; rintro _ _ ⟨vn, ve, hvn, hve, rfl, rfl⟩ | refine jL tok (fun ub => ?_) | refine s_store (a := .agg [.lit vn, .lit ve]) tok 0 rfl rfl rfl rfl rfl rfl (by simp [AV.storable, AV.cell, hvn, hve]) rfl (by decide) rfl rfl rfl (Nat.le_of_ble_eq_true rfl) ?_))
  refine a_reg ?_
  repeat (first | refine gZ pk ?_)
  refine a_reg ?_
  repeat (first | refine gZ pk ?_)
  refine a_reg ?_
  repeat (first | refine gZ pk ?_)
  refine a_reg ?_
  repeat (first | refine gZ pk ?_)
  refine a_reg ?_
  repeat (first | refine gZ pk ?_)
  refine a_reg ?_
  repeat (first | refine gZ pk ?_ | (show AL _ _ _ _ _ _ _; first | refine jO tok 0 ?_ | refine zsc (Lc := [(ve, .row 85 3 (g.edges.map cEd))]) (Lr := [(ub, OB.box [.lit vn, .lit ve]), (vn, .row 3 1 (rowI g.nodes)), (U4, OB.box [nilS, nilS])]) rfl rfl rfl rfl rfl (s2 ve) (SubL.of_eq rfl) (List.perm_middle (l₁ := [_, _]) (l₂ := [_])) ?_; rintro _ _ ⟨⟨v', rfl, rfl⟩, hv⟩; obtain ⟨a1, c1, rfl⟩ := hv _ (List.mem_singleton.2 rfl) | refine zsb tok 1 rfl rfl rfl rfl rfl rfl rfl rfl rfl (Nat.le_of_ble_eq_true rfl) rfl ?_))
  refine zgt (GoTo.freeze 2 rfl (FZS.refl _) [(.slice a1 (List.map cEd (g.edges.eraseIdx k)).length c1, OB.row 85 3 ((g.edges.eraseIdx k).map cEd)), (ub, OB.box [ints g.nodes, .lit (.slice a1 (List.map cEd (g.edges.eraseIdx k)).length c1)]), (U4, OB.box [nilS, nilS])] (zfw (hr3 _) (zfo ⟨FZ.here, FZ.refl _, trivial⟩ (zfo (FZL.refl _) trivial)))) ?_
  refine zgt (GoTo.freeze 0 rfl (FZS.refl _) [(ub, OB.box [ints g.nodes, edsA (g.edges.eraseIdx k)]), (U4, OB.box [nilS, nilS])] (zfo ⟨FZ.refl _, FZ.here, trivial⟩ (zfo (FZL.refl _) trivial))) ?_
  refine zfb 0 5 rfl rfl ?_
  repeat (first | refine gV pk ?_ | (show AL _ _ _ _ _ _ _; first | refine jS tok 0 ?_))
  refine zfb 0 4 rfl rfl ?_
  refine a_ret ?_
  exact ⟨.inr rfl, _, _, _, _, rfl, rfl, Turn.of (Sub.of_eq rfl) (OSub.none _), rfl, rfl⟩
theorem ieditedRN_spec (g : Gr) (h1 : g.nodes.length ≤ 1000) (h2 : g.edges.length ≤ 1000) (hb : ∀ x ∈ g.edges, (-1000000 ≤ x.fr ∧ x.fr ≤ 1000000) ∧ -1000000 ≤ x.to ∧ x.to ≤ 1000000) (k : Nat) (hk : k < g.nodes.length) (ty fr to : Int) : Pure Tryz.prog 64 [grA g, .agg [AI 3, AI k, AI ty, AI fr, AI to]] (grA ⟨g.nodes.eraseIdx k, g.edges.map (lesE k)⟩) := by
  have s2 := fun v => ACalls.slices (DeleteI_spec g.nodes k hk (by omega) v)
  have s1 := icopiedO_spec g h1 h2
  have ln : (rowI g.nodes).length = g.nodes.length := by simp
  have le : (g.edges.map cEd).length = g.edges.length := by simp
  have hr1 : ∀ (l : List Int), ∀ x ∈ rowI l, x.length = 1 := fun l x hx => by
    obtain ⟨y, _, rfl⟩ := List.mem_map.1 hx
    rfl
  have hr3 : ∀ (l : List Ed), ∀ x ∈ l.map cEd, x.length = 3 := fun l x hx => by
    obtain ⟨y, _, rfl⟩ := List.mem_map.1 hx
    rfl
  refine a_enterC Tryz.func64 (by kernel_rfl) rfl Tryz.ntmps64 rfl (tok _ _ rfl) (by simp) ?_
  refine a_seq ?_
  refine a_reg ?_
  repeat (first | refine gZ pk ?_ | (show AL _ _ _ _ _ _ _; first | refine jB (fun ug => ?_) | refine jL tok (fun U4 => ?_)))
  refine zfb 2 2 rfl rfl ?_
  refine zfb 1 3 rfl rfl ?_
  refine a_reg ?_
  repeat (first | refine gZ pk ?_ | (show AL _ _ _ _ _ _ _; first | refine zsc (Lc := []) rfl rfl rfl rfl rfl s1 (SubL.of_eq rfl) (List.Perm.refl _) ?_; rintro _ _ ⟨vn, ve, hvn, hve, rfl, rfl⟩ | refine jL tok (fun ub => ?_) | refine s_store (a := .agg [.lit vn, .lit ve]) tok 0 rfl rfl rfl rfl rfl rfl (by simp [AV.storable, AV.cell, hvn, hve]) rfl (by decide) rfl rfl rfl (Nat.le_of_ble_eq_true rfl) ?_))
  repeat (first | refine gN pk ?_ | (show AL _ _ _ _ _ _ _; first | refine jO tok 0 ?_ | refine zsc (Lc := [(vn, .row 3 1 (rowI g.nodes))]) (Lr := [(ub, OB.box [.lit vn, .lit ve]), (ve, .row 85 3 (g.edges.map cEd)), (U4, OB.box [nilS, nilS])]) rfl rfl rfl rfl rfl (s2 vn) (SubL.of_eq rfl) (List.perm_middle (l₁ := [_]) (l₂ := [_, _])) ?_; rintro _ _ ⟨⟨v', rfl, rfl⟩, hv⟩; obtain ⟨a1, c1, rfl⟩ := hv _ (List.mem_singleton.2 rfl) | refine zsb tok 1 rfl rfl rfl rfl rfl rfl rfl rfl rfl (Nat.le_of_ble_eq_true rfl) rfl ?_ | refine jO tok 1 ?_ | refine zol tok 2 rfl rfl rfl rfl (by decide) rfl rfl rfl ?_))
  rw [le]
  generalize hv2 : Value.slice a1 (List.map cI (g.nodes.eraseIdx k)).length c1 = v2
  have hv2c : v2.oneCell' = true := by rw [← hv2]; rfl
  refine zlx (fun i : Nat => [(3, .ip [AI 3, AI k, AI ty, AI fr, AI to]), (4, .pt U4 0 0 0), (5, .pt ub 0 0 0), (47, AI g.edges.length), (48, AI i)]) (fun i => [(v2, .row 3 1 (rowI (g.nodes.eraseIdx k))), (ub, .box [.lit v2, .lit ve]), (ve, .row 85 3 (((g.edges.take i).map (lesE k) ++ g.edges.drop i).map cEd)), (U4, .box [nilS, nilS])]) (fun i => i ≤ g.edges.length) (fun i => g.edges.length - i) 0 (Nat.zero_le _) ?_ (OSub.refl _) ?_
  · exact subQ
  intro i hi
  rcases Nat.lt_or_ge i g.edges.length with h | h
  · have hx := List.getElem?_eq_getElem h
    have hbx := hb _ (List.getElem_mem h)
    generalize g.edges[i] = x at hx hbx
    obtain ⟨x1, x2, x3⟩ := x
    simp only at hbx
    have s3 := less_spec x2 k hbx.1
    have s4 := less_spec x3 k hbx.2
    have lt : ((g.edges.take i).map (lesE k)).length = i := by simp; omega
    have gx : ((g.edges.take i).map (lesE k) ++ g.edges.drop i)[i]? = some ⟨x1, x2, x3⟩ := by rw [List.getElem?_append_right (by omega), lt, Nat.sub_self, List.getElem?_drop, Nat.add_zero]; exact hx
    have hlR : ((g.edges.take i).map (lesE k) ++ g.edges.drop i).length = g.edges.length := by simp; omega
    have hset : ∀ y, ((g.edges.take i).map (lesE k) ++ g.edges.drop i).set i y = (g.edges.take i).map (lesE k) ++ y :: g.edges.drop (i + 1) := fun y => by
      have hd : g.edges.drop i = ⟨x1, x2, x3⟩ :: g.edges.drop (i + 1) := by rw [List.drop_eq_getElem_cons h, (List.getElem?_eq_some_iff.1 hx).2]
      rw [List.set_append, if_neg (by omega), lt, Nat.sub_self, hd]
      rfl
    have hfin : (((g.edges.take i).map (lesE k) ++ g.edges.drop i).set i ⟨x1, les k x2, x3⟩).set i ⟨x1, les k x2, les k x3⟩ = (g.edges.take (i + 1)).map (lesE k) ++ g.edges.drop (i + 1) := by
      rw [List.set_set, hset, List.take_add_one, hx, List.map_append, List.append_assoc]
      rfl
    generalize (g.edges.take i).map (lesE k) ++ g.edges.drop i = R at *
    have e1 : ((i : Nat) : Int).toNat = i := by omega
    have gx1 : R[((i : Nat) : Int).toNat]? = some ⟨x1, x2, x3⟩ := by rw [e1]; exact gx
    have gx2 : (R.set ((i : Nat) : Int).toNat ⟨x1, les k x2, x3⟩)[((i : Nat) : Int).toNat]? = some ⟨x1, les k x2, x3⟩ := by rw [e1, List.getElem?_set_self (by omega)]
    repeat (first | refine gN pk ?_ | (show AL _ _ _ _ _ _ _; first | refine jO tok 1 ?_ | refine zol tok 2 rfl rfl rfl rfl (by decide) rfl rfl rfl ?_))
    refine zrg ((List.range 15).map fun i => if inL [11, 14] i = true then .eff else if inL [1, 4, 6, 8, 10, 12] i = true then .read else .pure) [11] [0, 1, 2, 3, 4, 5, 6, 7, 8, 9, 10] (.nd 11 [12, 13, 14] .stop .stop) mixed rfl rfl (by decide +kernel) ?_
    repeat' (first | (with_reducible show AG _ _ _ _ _ _ _ _ _ _; first | exact zgn | refine zgs ?_ | refine znd ?_ ?_) | (show AMid _ _ _ _; first | refine zmf ?_ | refine zmg (by first | exact OSub.refl _ | exact .drop (OSub.refl _) | exact .drop (.drop (OSub.refl _))) ?_) | refine gY pk ?_ | (show AL _ _ _ _ _ _ _; first | refine jO tok 1 ?_ | refine zoi tok 2 rfl rfl rfl rfl (by decide) rfl rfl rfl rfl rfl rfl (by omega) (by simp only [List.length_map]; omega) ?_ | refine s_loadEf tok 2 rfl rfl rfl rfl (by decide) rfl rfl rfl rfl gx1 rfl ?_ | refine jP s3 ?_ | refine s_storeEf (e' := ⟨x1, les k x2, x3⟩) tok 2 rfl rfl rfl rfl rfl rfl rfl rfl gx1 (by decide) rfl ?_) | fail)
    repeat (first | refine gN pk ?_)
    refine zrg ((List.range 15).map fun i => if inL [11, 14] i = true then .eff else if inL [1, 4, 6, 8, 10, 12] i = true then .read else .pure) [11] [0, 1, 2, 3, 4, 5, 6, 7, 8, 9, 10] (.nd 11 [12, 13, 14] .stop .stop) mixed rfl rfl (by decide +kernel) ?_
    repeat' (first | (with_reducible show AG _ _ _ _ _ _ _ _ _ _; first | exact zgn | refine zgs ?_ | refine znd ?_ ?_) | (show AMid _ _ _ _; first | refine zmf ?_ | refine zmg (by first | exact OSub.refl _ | exact .drop (OSub.refl _) | exact .drop (.drop (OSub.refl _))) ?_) | refine gY pk ?_ | (show AL _ _ _ _ _ _ _; first | refine jO tok 1 ?_ | refine zoi tok 2 rfl rfl rfl rfl (by decide) rfl rfl rfl rfl rfl rfl (by omega) (by simp only [List.length_map, List.length_set]; omega) ?_ | refine s_loadEf tok 2 rfl rfl rfl rfl (by decide) rfl rfl rfl rfl gx2 rfl ?_ | refine jP s4 ?_ | refine s_storeEf (e' := ⟨x1, les k x2, les k x3⟩) tok 2 rfl rfl rfl rfl rfl rfl rfl rfl gx2 (by decide) rfl ?_) | fail)
    repeat (first | refine gA pk ?_)
    rw [e1, hfin]
    exact ⟨i + 1, by omega, by omega, by exact subQ, OSub.refl _⟩
  · obtain rfl : i = g.edges.length := by omega
    rw [List.take_length, List.drop_length, List.append_nil]
    refine zgt (GoTo.freeze 0 rfl (FZS.refl _) [(ub, OB.box [ints (g.nodes.eraseIdx k), .lit ve]), (ve, OB.row 85 3 ((g.edges.map (lesE k)).map cEd)), (U4, OB.box [nilS, nilS])] (zfo ⟨FZ.here, FZ.refl _, trivial⟩ (zfw (hr3 _) (zfo (FZL.refl _) trivial)))) ?_
    refine zgt (GoTo.freeze 1 rfl (FZS.refl _) [(ub, OB.box [ints (g.nodes.eraseIdx k), edsA (g.edges.map (lesE k))]), (U4, OB.box [nilS, nilS])] (zfo ⟨FZ.refl _, FZ.here, trivial⟩ (zfo (FZL.refl _) trivial))) ?_
    refine zfb 0 5 rfl rfl ?_
    repeat (first | refine gV pk ?_ | (show AL _ _ _ _ _ _ _; first | refine jS tok 0 ?_))
    refine zfb 0 4 rfl rfl ?_
    refine a_ret ?_
    exact ⟨.inr rfl, _, _, _, _, rfl, rfl, Turn.of (Sub.of_eq rfl) (OSub.none _), rfl, rfl⟩
end Go.Proofs.YtddohheabpiljaaGreat
end
