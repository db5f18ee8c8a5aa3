/-
  The law on graphs with another type: the walk.
-/
import Derived.Test.YtoaenbfidlgjhaaSjQ8
import Derived.Test.YtoaenbfidlgjhaaW25
import Derived.Test.YtoaenbfidlgjhaaW22
import Derived.Test.YtoaenbfidlgjhaaW20
import Derived.Test.YtoaenbfidlgjhaaW26
namespace Go.Proofs.Ytoaenbfidlgjhaa
open Go.Sj Go.Sj.Typ Go.Sj.Sta Go.Sj.Can
set_option linter.unusedVariables false
set_option linter.unusedSimpArgs false
set_option maxHeartbeats 16000000

theorem obSet_ty {E j : Nat} {l : List Ed} {t : Int} (hj : j < l.length) : obSet (.row E 3 (l.map cEd)) j 0 [AI t] = .row E 3 ((l.modify j fun e => ⟨t, e.fr, e.to⟩).map cEd) := by
  have h1 : (l.map cEd).getD j [] = cEd l[j] := by
    rw [List.getD_eq_getElem?_getD, List.getElem?_map, List.getElem?_eq_getElem hj]; rfl
  simp only [obSet, h1]
  congr 1
  refine List.ext_getElem? fun i => ?_
  rw [List.getElem?_map, List.getElem?_modify, List.getElem?_set]
  by_cases hij : j = i
  · subst hij
    rw [if_pos rfl, if_pos (by rw [List.length_map]; exact hj), List.getElem?_eq_getElem hj]
    simp [cEd, setAll]
  · rw [if_neg hij, List.getElem?_map]
    simp [hij]
section
variable {P : Program} {N : Nat} {ops : List Oper} {Q : St → Own → Prop} {L : Own} {rest : List (Oper × Kd)} {l : List (Nat × AV)}
theorem s_storeTy {tt : List (TypeId × TD)} (ok : TOK P tt) (i : Nat) {o : Oper} {T : TypeId} {x y : Operand} {d : TD} {v : Value} {E j : Nat} {es : List Ed} {t : Int}
    (ho : o.op = .store T x y) (hdst : o.dst = none) (hg : guardA ops o (lk l) = some true) (hT : lkT tt T = some d) (hd1 : d.size = 1) (hx : ev (lk l) x = .pt v 3 j 0) (hy : ev (lk l) y = AI t) (hL : L[i]? = some (v, .row E 3 (es.map cEd))) (hj : j < es.length)
    (n : AL P N ops Q rest (lk l) (L.set i (v, .row E 3 ((es.modify j fun e => ⟨t, e.fr, e.to⟩).map cEd)))) : AL P N ops Q ((o, .eff) :: rest) (lk l) L := by
  have hget : (es.map cEd)[j]? = some (cEd es[j]) := map_get (List.getElem?_eq_getElem hj)
  refine s_store ok i ho hdst hg hT hx hy rfl (by rw [hd1]; rfl) (by omega) hL rfl (cells := cEd es[j]) (by simp only [obAt, hget]; rfl) (by simp [cEd, AV.cells]) ?_
  rw [show AV.cells (AI t) = [AI t] from rfl, obSet_ty hj]
  exact n
end
theorem classR_three {g h : Gr} (hg : cvalid g = 0) (hh : cvalid h = 0) (hne : codG g ≠ codG h) : classR [g, h, g] = ([0, 1, 0], 0) := by
  unfold classR
  rw [if_neg (by simp), if_neg (Decidable.not_not.2 (clsE_none fun x hx => by
    simp only [List.mem_cons, List.not_mem_nil, or_false] at hx
    rcases hx with rfl | rfl | rfl <;> assumption))]
  simp [clsI, idxX, List.findIdx?_cons, hne, Ne.symm hne]
theorem CanonDifferent_spec (d : Dr5) (hd : OkD5 d) (at_ : Int) (ha : 0 ≤ at_ ∧ at_ ≤ 255) : Pure Try.prog 9 [dr5A d, A8 at_] (AB true) := by
  have hw := awakeC_spec
  have l1 : (d.nodes.map c8).length = d.nodes.length := by simp
  have l2 : (d.edges.map c83).length = d.edges.length := by simp
  have k1 := hd.nl
  have k2 := hd.gl
  by_cases hl : d.nodes.length ≤ 7 ∧ d.edges.length ≤ 10
  · have s1 := gMade_spec d hd
    obtain ⟨e1, e2⟩ := made5_len d
    have hG := made5_gv d
    have hN := made5_n d
    have hE := made5_e d
    obtain ⟨dn, de⟩ := d
    change Pure _ _ [.agg [bytesA dn, .im 3 (de.map c83)]] _ at s1
    change Pure _ _ [.agg [bytesA dn, .im 3 (de.map c83)], A8 at_] _
    generalize made5 ⟨dn, de⟩ = g at *
    simp only at hl e1 e2 l1 l2 k1 k2
    have hn : g.nodes.length ≤ 7 := by omega
    clear e1
    by_cases h0 : g.nodes.length + g.edges.length = 0
    · obtain ⟨gn, ge⟩ := g
      simp only at *
      have lgn : (rowI gn).length = gn.length := by simp
      have lge : (ge.map cEd).length = ge.length := by simp
      change Pure _ _ _ (.agg [ints gn, .im 3 (ge.map cEd)]) at s1
      refine a_enter Try.func9 (by kernel_rfl) rfl Try.ntmps9 rfl (by simp) ?_
      refine a_seq ?_
      refine a_reg ?_
      repeat (first | refine gZ pk ?_ | (show AL _ _ _ _ _ _ _; first | refine jB (fun u => ?_)))
      refine a_frzBox 0 2 rfl rfl ?_
      repeat (first | refine gA pk ?_ | (show AL _ _ _ _ _ _ _; first | refine jP hw ?_ | refine jP s1 ?_ | refine jL tok (fun u => ?_) | refine jS tok 0 ?_ | refine jO tok 0 ?_ | refine s_ownLen tok 0 rfl rfl rfl rfl (by decide) rfl rfl rfl ?_))
      refine finQ ?_
      exact ⟨rfl, rfl⟩
    · have m1 := Int.emod_nonneg at_ (b := ((g.nodes.length + g.edges.length : Nat) : Int)) (by omega)
      have m2 := Int.emod_lt_of_pos at_ (b := ((g.nodes.length + g.edges.length : Nat) : Int)) (by omega)
      obtain ⟨i, hi⟩ : ∃ i : Nat, at_ % ((g.nodes.length + g.edges.length : Nat) : Int) = i := ⟨_, (Int.toNat_of_nonneg m1).symm⟩
      rw [hi] at m2
      have hil : i < g.nodes.length + g.edges.length := by omega
      have hne := dif5_code hG (fun x hx => by have := hN x hx; omega) (fun e he => by have := hE e he; omega) hil
      have hH := dif5_gv hG i
      obtain ⟨d1, d2⟩ := dif5_len g i
      have v1 : cvalid g = 0 := cvalid_zero.2 ⟨hG, by omega⟩
      have v2 : cvalid (dif5 g i) = 0 := cvalid_zero.2 ⟨hH, by omega⟩
      have s2 := gCopiedO_spec g (by omega) (by omega)
      have s3 := CCompare_spec g (dif5 g i) (gv_ok hG) (gv_ok hH) (fun _ => .inl (by omega)) (fun _ => .inl (by omega))
      have hz : cmpL (codG g) (codG (dif5 g i)) ≠ 0 := fun e => hne (cmpL_eq e)
      rw [cmpR_eq hG hH (by omega) (by omega)] at s3
      generalize cmpL (codG g) (codG (dif5 g i)) = z at *
      have s4 := Classify_spec [g, dif5 g i, g] (Nat.le_of_ble_eq_true rfl) (fun x hx => by
        simp only [List.mem_cons, List.not_mem_nil, or_false] at hx
        rcases hx with rfl | rfl | rfl
        · exact ⟨gv_ok hG, fun _ => .inl (by omega)⟩
        · exact ⟨gv_ok hH, fun _ => .inl (by omega)⟩
        · exact ⟨gv_ok hG, fun _ => .inl (by omega)⟩)
      rw [classR_three v1 v2 hne] at s4
      have s5 := Equal_spec [0, 1, 0] [0, 1, 0] (by decide) (by decide)
      rw [decide_eq_true rfl] at s5
      clear hne hH d1 d2 v1 v2 hG hN hE
      have hr1 : ∀ (l : List Int), ∀ x ∈ rowI l, x.length = 1 := fun l x hx => by
        obtain ⟨y, _, rfl⟩ := List.mem_map.1 hx
        rfl
      have hr3 : ∀ (l : List Ed), ∀ x ∈ l.map cEd, x.length = 3 := fun l x hx => by
        obtain ⟨y, _, rfl⟩ := List.mem_map.1 hx
        rfl
      obtain ⟨gn, ge⟩ := g
      simp only at *
      have lgn : (rowI gn).length = gn.length := by simp
      have lge : (ge.map cEd).length = ge.length := by simp
      change Pure _ _ _ (.agg [ints gn, .im 3 (ge.map cEd)]) at s1
      have hi' : at_ % (((rowI gn).length : Int) + ((ge.map cEd).length : Int)) = i := by rw [lgn, lge, ← hi, Int.natCast_add]
      by_cases hin : i < gn.length
      · have hdif : dif5 ⟨gn, ge⟩ i = ⟨gn.set i 7, ge⟩ := by unfold dif5; rw [if_pos hin]
        rw [hdif] at s3 s4
        refine a_enter Try.func9 (by kernel_rfl) rfl Try.ntmps9 rfl (by simp) ?_
        refine a_seq ?_
        refine a_reg ?_
        repeat (first | refine gZ pk ?_ | (show AL _ _ _ _ _ _ _; first | refine jB (fun u => ?_)))
        refine a_frzBox 0 2 rfl rfl ?_
        refine a_reg ?_
        repeat (first | refine gZ pk ?_ | (show AL _ _ _ _ _ _ _; first | refine jP hw ?_))
        refine a_reg ?_
        repeat (first | refine gZ pk ?_ | (show AL _ _ _ _ _ _ _; first | refine jP s1 ?_ | refine jL tok (fun u => ?_) | refine jS tok 0 ?_))
        refine a_frzBox 0 5 rfl rfl ?_
        refine a_reg ?_
        repeat (first | refine gZ pk ?_)
        refine a_reg ?_
        repeat (first | refine gZ pk ?_)
        refine a_reg ?_
        repeat (first | refine gZ pk ?_ | (show AL _ _ _ _ _ _ _; first | refine jO tok 0 ?_ | refine s_call (Lc := []) (Lr := []) rfl rfl rfl rfl rfl s2 (SubL.of_eq rfl) (List.Perm.refl _) ?_; rintro _ _ ⟨vn, ve, hvn, hve, rfl, rfl⟩ | refine jL tok (fun u7 => ?_) | refine s_store (a := .agg [.lit vn, .lit ve]) tok 0 rfl rfl rfl rfl rfl rfl (by simp [AV.storable, AV.cell, hvn, hve]) rfl (by decide) rfl rfl rfl (Nat.le_of_ble_eq_true rfl) ?_))
        refine a_reg ?_
        repeat (first | refine gZ pk ?_ | (show AL _ _ _ _ _ _ _; first | refine s_conv tok rfl rfl rfl rfl rfl rfl rfl (IntWalk.i64_in _ (by omega)) ?_ | refine s_rem rfl rfl rfl rfl rfl rfl (by omega) (by omega) ?_))
        rw [hi']
        refine a_reg ?_
        repeat (first | refine gZ pk ?_)
        refine a_reg ?_
        repeat (first | refine gZ pk ?_ | (show AL _ _ _ _ _ _ _; first | refine jO tok 0 ?_ | refine s_ownIndex tok 1 rfl rfl rfl rfl (by decide) rfl rfl rfl rfl rfl rfl (by omega) (by omega) ?_ | refine s_storeI tok 1 rfl rfl rfl rfl rfl rfl rfl rfl (by omega) ?_))
        refine a_goto (GoTo.freeze 1 rfl (FZS.refl _) [(u7, OB.box [ints (gn.set i 7), .lit ve]), (ve, OB.row 60 3 (ge.map cEd))] (fzo_box ⟨FZ.here, FZ.refl _, trivial⟩ (fzo_row (hr3 _) trivial))) ?_
        refine a_goto (GoTo.freeze 1 rfl (FZS.refl _) [(u7, OB.box [ints (gn.set i 7), .im 3 (ge.map cEd)])] (fzo_box ⟨FZ.refl _, FZ.here, trivial⟩ trivial)) ?_
        refine a_frzBox 0 7 rfl rfl ?_
        change Pure _ _ [.agg [ints gn, .im 3 (ge.map cEd)], .agg [ints (gn.set i 7), .im 3 (ge.map cEd)]] _ at s3
        change Pure _ _ [.im 2 [[ints gn, .im 3 (ge.map cEd)], [ints (gn.set i 7), .im 3 (ge.map cEd)], [ints gn, .im 3 (ge.map cEd)]]] _ at s4
        repeat (first | refine gA pk ?_ | (show AL _ _ _ _ _ _ _; first | refine jP s3 ?_ | refine s_frzNow 0 rfl rfl rfl (s_build tok rfl rfl rfl rfl rfl rfl rfl rfl (by decide) (by decide) (fun v => AL.nil ⟨v, rfl, rfl, rfl⟩)) ?_ | refine jP s4 ?_ | refine jP s5 ?_))
        refine finQ ?_
        exact ⟨rfl, rfl⟩
      · have hdif : dif5 ⟨gn, ge⟩ i = ⟨gn, ge.modify (i - gn.length) fun e => ⟨7, e.fr, e.to⟩⟩ := by unfold dif5; rw [if_neg hin]
        rw [hdif] at s3 s4
        refine a_enter Try.func9 (by kernel_rfl) rfl Try.ntmps9 rfl (by simp) ?_
        refine a_seq ?_
        refine a_reg ?_
        repeat (first | refine gZ pk ?_ | (show AL _ _ _ _ _ _ _; first | refine jB (fun u => ?_)))
        refine a_frzBox 0 2 rfl rfl ?_
        refine a_reg ?_
        repeat (first | refine gZ pk ?_ | (show AL _ _ _ _ _ _ _; first | refine jP hw ?_))
        refine a_reg ?_
        repeat (first | refine gZ pk ?_ | (show AL _ _ _ _ _ _ _; first | refine jP s1 ?_ | refine jL tok (fun u => ?_) | refine jS tok 0 ?_))
        refine a_frzBox 0 5 rfl rfl ?_
        refine a_reg ?_
        repeat (first | refine gZ pk ?_)
        refine a_reg ?_
        repeat (first | refine gZ pk ?_)
        refine a_reg ?_
        repeat (first | refine gZ pk ?_ | (show AL _ _ _ _ _ _ _; first | refine jO tok 0 ?_ | refine s_call (Lc := []) (Lr := []) rfl rfl rfl rfl rfl s2 (SubL.of_eq rfl) (List.Perm.refl _) ?_; rintro _ _ ⟨vn, ve, hvn, hve, rfl, rfl⟩ | refine jL tok (fun u7 => ?_) | refine s_store (a := .agg [.lit vn, .lit ve]) tok 0 rfl rfl rfl rfl rfl rfl (by simp [AV.storable, AV.cell, hvn, hve]) rfl (by decide) rfl rfl rfl (Nat.le_of_ble_eq_true rfl) ?_))
        refine a_reg ?_
        repeat (first | refine gZ pk ?_ | (show AL _ _ _ _ _ _ _; first | refine s_conv tok rfl rfl rfl rfl rfl rfl rfl (IntWalk.i64_in _ (by omega)) ?_ | refine s_rem rfl rfl rfl rfl rfl rfl (by omega) (by omega) ?_))
        rw [hi']
        refine a_reg ?_
        repeat (first | refine gZ pk ?_)
        refine a_reg ?_
        repeat (first | refine gZ pk ?_ | (show AL _ _ _ _ _ _ _; first | refine jO tok 0 ?_ | refine s_ownIndex tok 2 rfl rfl rfl rfl (by decide) rfl rfl rfl rfl rfl rfl (by omega) (by omega) ?_ | refine s_storeTy tok 2 rfl rfl rfl rfl rfl rfl rfl rfl (by omega) ?_))
        rw [show ((i : Int) - ((rowI gn).length : Int)).toNat = i - gn.length from by rw [lgn]; omega]
        refine a_goto (GoTo.freeze 1 rfl (FZS.refl _) [(u7, OB.box [ints gn, .lit ve]), (ve, OB.row 60 3 ((ge.modify (i - gn.length) fun e => ⟨7, e.fr, e.to⟩).map cEd))] (fzo_box ⟨FZ.here, FZ.refl _, trivial⟩ (fzo_row (hr3 _) trivial))) ?_
        refine a_goto (GoTo.freeze 1 rfl (FZS.refl _) [(u7, OB.box [ints gn, .im 3 ((ge.modify (i - gn.length) fun e => ⟨7, e.fr, e.to⟩).map cEd)])] (fzo_box ⟨FZ.refl _, FZ.here, trivial⟩ trivial)) ?_
        refine a_frzBox 0 7 rfl rfl ?_
        change Pure _ _ [.agg [ints gn, .im 3 (ge.map cEd)], .agg [ints gn, .im 3 ((ge.modify (i - gn.length) fun e => ⟨7, e.fr, e.to⟩).map cEd)]] _ at s3
        change Pure _ _ [.im 2 [[ints gn, .im 3 (ge.map cEd)], [ints gn, .im 3 ((ge.modify (i - gn.length) fun e => ⟨7, e.fr, e.to⟩).map cEd)], [ints gn, .im 3 (ge.map cEd)]]] _ at s4
        repeat (first | refine gA pk ?_ | (show AL _ _ _ _ _ _ _; first | refine jP s3 ?_ | refine s_frzNow 0 rfl rfl rfl (s_build tok rfl rfl rfl rfl rfl rfl rfl rfl (by decide) (by decide) (fun v => AL.nil ⟨v, rfl, rfl, rfl⟩)) ?_ | refine jP s4 ?_ | refine jP s5 ?_))
        refine finQ ?_
        exact ⟨rfl, rfl⟩
  · have hc : (7 < d.nodes.length) ∨ (d.nodes.length ≤ 7 ∧ 10 < d.edges.length) := by omega
    obtain ⟨dn, de⟩ := d
    change Pure _ _ [.agg [bytesA dn, .im 3 (de.map c83)], A8 at_] _
    simp only at hc l1 l2 k1 k2
    rcases hc with hc | hc
    all_goals
      refine a_enter Try.func9 (by kernel_rfl) rfl Try.ntmps9 rfl (by simp) ?_
      refine a_seq ?_
      refine a_reg ?_
      repeat (first | refine gZ pk ?_ | (show AL _ _ _ _ _ _ _; first | refine jB (fun u => ?_)))
      refine a_frzBox 0 2 rfl rfl ?_
      repeat (first | refine gA pk ?_ | (show AL _ _ _ _ _ _ _; first | refine jP hw ?_))
      refine finQ ?_
      exact ⟨rfl, rfl⟩
theorem wf_n8 {a : Int} (h : (Lit.int .u8 a).wf = true) : 0 ≤ a ∧ a ≤ 255 := Go.Sj.Typ.wf_n8 h
end Go.Proofs.Ytoaenbfidlgjhaa
