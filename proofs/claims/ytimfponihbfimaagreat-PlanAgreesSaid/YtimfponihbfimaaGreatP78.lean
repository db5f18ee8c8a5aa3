/- Parts of a proof. -/
import Derived.Handy
import Derived.Lib.AppendZerosOnto
import Derived.Lib.Overlaps
import Derived.Laws.Runes
import Derived.Laws.Externs
import Derived.Laws.Cover3
import Derived.WalkKit
import Derived.WalkSpells
import Derived.WalkLawsBesides
import Derived.Deep.Draws
import Derived.Orders
import Derived.Still
import Derived.Sort.AssemblyPlain
import Derived.Laws.Bits64
import Derived.Laws.Bits64b
import Derived.Test.YtimfponihbfimaaGreatP33
import Derived.Test.YtimfponihbfimaaGreatP34
import Derived.Test.YtimfponihbfimaaGreatP35
import Derived.Test.YtimfponihbfimaaGreatP36
import Derived.Test.YtimfponihbfimaaGreatP37
import Derived.Test.YtimfponihbfimaaGreatP38
import Derived.Test.YtimfponihbfimaaGreatP39
import Derived.Test.YtimfponihbfimaaGreatP40
import Derived.Test.YtimfponihbfimaaGreatP41
import Derived.Test.YtimfponihbfimaaGreatP43
import Derived.Test.YtimfponihbfimaaGreatP44
import Derived.Test.YtimfponihbfimaaGreatP45
import Derived.Test.YtimfponihbfimaaGreatP46
import Derived.Test.YtimfponihbfimaaGreatP77
set_option linter.unusedVariables false
set_option linter.unusedSimpArgs false
section
namespace Go.Proofs.YtimfponihbfimaaGreat
open Go.Sj Go.Sj.Typ Go.Sj.Sta Go.Sj.Inc
set_option maxRecDepth 8000
set_option maxHeartbeats 16000000
theorem take_nextE {A : Type} {a b : List A} {k : Nat} {x : A} (h1 : a[k]? = some x) (h2 : b[k]? = some x) (he : a.take k = b.take k) : a.take (k + 1) = b.take (k + 1) := by
  rw [List.take_add_one, List.take_add_one, h1, h2, he]
theorem gSameAll_spec (a b : List Mo) (ha : ∀ m ∈ a, MoB m) (hb : ∀ m ∈ b, MoB m) (hla : a.length ≤ 1000000) (hlb : b.length ≤ 1000000) : Pure Tryz.prog 16 [mosA a, mosA b] (AB (decide (a = b))) := by
  have la : (a.map cMo).length = a.length := by simp
  have lb : (b.map cMo).length = b.length := by simp
  by_cases hl : a.length = b.length
  · refine zen Tryz.func16 (by kernel_rfl) rfl Tryz.ntmps16 rfl (by simp) ?_
    repeat (first | refine gA pk ?_)
    refine zlx (fun k : Nat => [(0, mosA a), (1, mosA b), (5, AI k)]) (fun _ => []) (fun k => k ≤ a.length ∧ a.take k = b.take k) (fun k => a.length - k) 0 ⟨Nat.zero_le _, rfl⟩ ?_ (OSub.none _) ?_
    · exact subQ
    · rintro k ⟨hk, he⟩
      rcases Nat.lt_or_ge k a.length with h | h
      · have h1 := List.getElem?_eq_getElem h
        have h2 := List.getElem?_eq_getElem (l := b) (i := k) (by omega)
        have b1 := ha _ (List.getElem_mem h)
        have b2 := hb _ (List.getElem_mem (l := b) (n := k) (by omega))
        generalize a[k] = x at h1 b1
        generalize b[k]'(by omega) = y at h2 b2
        have x1 : (a.map cMo)[(k : Int).toNat]? = some (cMo x) := zmp (f := cMo) h1
        have x2 : (b.map cMo)[(k : Int).toNat]? = some (cMo y) := zmp (f := cMo) h2
        have s1 := gSameInts_spec x.1 y.1 b1.1 b2.1
        have s2 := gSameInts_spec x.2 y.2 b1.2 b2.2
        have hne : x ≠ y → decide (a = b) = false := fun hxy => decide_eq_false (fun e => by rw [e, h2] at h1; cases h1; exact hxy rfl)
        obtain ⟨xa, xb⟩ := x
        obtain ⟨ya, yb⟩ := y
        simp only at s1 s2
        by_cases e1 : xa = ya
        · rw [decide_eq_true e1] at s1
          by_cases e2 : xb = yb
          · rw [decide_eq_true e2] at s2
            subst e1; subst e2
            have ht := take_nextE h1 h2 he
            repeat (first | refine gN pk ?_)
            refine zrg ((List.range 26).map fun i => if inL [10, 23] i = true then .eff else if inL [2, 4, 7, 9, 15, 17, 20, 22] i = true then .read else .pure) [] [0, 1, 2, 3, 4, 5, 6, 7, 8, 9, 10, 11, 12, 13, 14, 15, 16, 17, 18, 19, 20, 21, 22, 23, 24, 25] .stop mixed rfl rfl (by decide +kernel) ?_
            repeat' (first | (with_reducible show AG _ _ _ _ _ _ _ _ _ _; first | exact zgn | refine zgs ?_ | refine znd ?_ ?_) | (show AMid _ _ _ _; first | refine zmf ?_ | refine zmg (by first | exact OSub.refl _ | exact .drop (OSub.refl _) | exact .drop (.drop (OSub.refl _))) ?_) | refine gY pk ?_ | (show AL _ _ _ _ _ _ _; first | refine jX tok x1 ?_ | refine jX tok x2 ?_ | refine jP s1 ?_ | refine jP s2 ?_) | fail)
            repeat (first | refine gA pk ?_)
            exact ⟨k + 1, ⟨by omega, ht⟩, by omega, by exact subQ, OSub.none _⟩
          · rw [decide_eq_false e2] at s2
            rw [hne (fun e => e2 (by cases e; rfl))]
            repeat (first | refine gN pk ?_)
            refine zrg ((List.range 26).map fun i => if inL [10, 23] i = true then .eff else if inL [2, 4, 7, 9, 15, 17, 20, 22] i = true then .read else .pure) [] [0, 1, 2, 3, 4, 5, 6, 7, 8, 9, 10, 11, 12, 13, 14, 15, 16, 17, 18, 19, 20, 21, 22, 23, 24, 25] .stop mixed rfl rfl (by decide +kernel) ?_
            repeat' (first | (with_reducible show AG _ _ _ _ _ _ _ _ _ _; first | exact zgn | refine zgs ?_ | refine znd ?_ ?_) | (show AMid _ _ _ _; first | refine zmf ?_ | refine zmg (by first | exact OSub.refl _ | exact .drop (OSub.refl _) | exact .drop (.drop (OSub.refl _))) ?_) | refine gY pk ?_ | (show AL _ _ _ _ _ _ _; first | refine jX tok x1 ?_ | refine jX tok x2 ?_ | refine jP s1 ?_ | refine jP s2 ?_) | fail)
            repeat (first | refine gA pk ?_)
            refine finQ ?_
            exact ⟨rfl, rfl⟩
        · rw [decide_eq_false e1] at s1
          rw [hne (fun e => e1 (by cases e; rfl))]
          repeat (first | refine gN pk ?_)
          refine zrg ((List.range 26).map fun i => if inL [10, 23] i = true then .eff else if inL [2, 4, 7, 9, 15, 17, 20, 22] i = true then .read else .pure) [] [0, 1, 2, 3, 4, 5, 6, 7, 8, 9, 10, 11, 12, 13, 14, 15, 16, 17, 18, 19, 20, 21, 22, 23, 24, 25] .stop mixed rfl rfl (by decide +kernel) ?_
          repeat' (first | (with_reducible show AG _ _ _ _ _ _ _ _ _ _; first | exact zgn | refine zgs ?_ | refine znd ?_ ?_) | (show AMid _ _ _ _; first | refine zmf ?_ | refine zmg (by first | exact OSub.refl _ | exact .drop (OSub.refl _) | exact .drop (.drop (OSub.refl _))) ?_) | refine gY pk ?_ | (show AL _ _ _ _ _ _ _; first | refine jX tok x1 ?_ | refine jX tok x2 ?_ | refine jP s1 ?_) | fail)
          repeat (first | refine gA pk ?_)
          refine finQ ?_
          exact ⟨rfl, rfl⟩
      · have : a = b := by
          have e1 : a.take k = a := List.take_of_length_le (by omega)
          have e2 : b.take k = b := List.take_of_length_le (by omega)
          rw [← e1, ← e2, he]
        rw [decide_eq_true this]
        repeat (first | refine gA pk ?_)
        refine finQ ?_
        exact ⟨rfl, rfl⟩
  · rw [decide_eq_false (fun e => hl (by rw [e]))]
    refine zen Tryz.func16 (by kernel_rfl) rfl Tryz.ntmps16 rfl (by simp) ?_
    repeat (first | refine gA pk ?_)
    refine finQ ?_
    exact ⟨rfl, rfl⟩
end Go.Proofs.YtimfponihbfimaaGreat
end
section
namespace Go.Proofs.YtimfponihbfimaaGreat
open Go.Sj Go.Sj.Typ Go.Sj.Sta Go.Sj.Inc
set_option maxRecDepth 8000
set_option maxHeartbeats 16000000
abbrev LeM (l : List Mo) : Prop := l.Pairwise fun a b => cmpM a b ≤ 0
theorem srtL_le (l : List Mo) : LeM (srtL l) := by
  have h := Sort.sort_sorts ltM swo_ltM l.toArray
  unfold srtL
  rw [LeM, List.pairwise_iff_getElem]
  intro i j hi hj hij
  have hs : (Sort.sort ltM l.toArray).size = l.toArray.size := h.1.1
  have hi' : i < (Sort.sort ltM l.toArray).size := by simpa using hi
  have hj' : j < (Sort.sort ltM l.toArray).size := by simpa using hj
  have := ltM_f.1 (h.2 i j (Nat.zero_le _) hij (by omega))
  rw [get_pos _ hi', get_pos _ hj', cmpM_anti] at this
  simp only [Array.getElem_toList]
  omega
theorem le_srt {l : List Mo} (h : LeM l) (hn : l.Nodup) : SrtM l := by
  have := List.Pairwise.and h hn
  exact this.imp fun {a b} hab => by
    have : cmpM a b ≠ 0 := fun e => hab.2 (cmpM_eq e)
    omega
section
variable {t : Tys} {p g : Gr} {edge inj : Bool}
end
end Go.Proofs.YtimfponihbfimaaGreat
end
section
namespace Go.Sj
set_option maxRecDepth 8000
section
variable {P : Program} {N : Nat} {ops : List Oper} {Q : St → Own → Prop} {L : Own} {rest : List (Oper × Kd)} {l : List (Nat × AV)} {k : Kd} {q : Nat}
theorem s_appendImQ {tt : List (TypeId × TD)} (ok : TOK P tt) (i : Nat) {o : Oper} {T : TypeId} {x y : Operand} {E s1 b1 : Nat} {z1 : List Value} {d : TD} {sz : Nat} {v : Value} {es es2 : List (List AV)} (ho : o.op = .call ⟨.builtin .append, #[x, y], #[T, T]⟩) (hdst : o.dst = some q) (hd : Nat.blt q N = true) (hg : guardA ops o (lk l) = some true)
    (hT : lkT tt T = some ⟨.slice E, s1, b1, z1⟩) (hE : lkT tt E = some d) (hpos : 0 < d.size) (hx : ev (lk l) x = .lit v) (hL : L[i]? = some (v, .row E sz es)) (hs : sz = d.size) (hy : ev (lk l) y = .im sz es2)
    (hcell : es2.all (fun e => e.all AV.cell) = true) (hlen : es.length + es2.length ≤ 140737488355328) (hby : (es.length + es2.length) * d.bytes ≤ 140737488355328)
    (nx : ∀ a m j, AL P N ops Q rest (lk ((q, .lit (.slice a m j)) :: l)) (L.set i (.slice a m j, .row E sz (es ++ es2)))) : AL P N ops Q ((o, .eff) :: rest) (lk l) L := by
  obtain ⟨dst, op', ty, pos, after, g⟩ := o
  simp only at ho
  subst ho
  refine s_eff (fun x M => ∃ a m j, x = .lit (.slice a m j) ∧ M = L.set i (.slice a m j, .row E sz (es ++ es2))) hdst hd hg ⟨fun σ F w ρ hR hρ => ?_⟩ (fun x M ⟨a, m, j, e1, e2⟩ => by rw [e1, e2]; exact nx a m j)
  have e1 := hρ x (by simp [Op.operands, Call.operands])
  have e2 := hρ y (by simp [Op.operands, Call.operands])
  rw [hx] at e1
  rw [hy] at e2
  have hu := (ok _ _ hT).slice rfl
  obtain ⟨v', w', hr, hown, h1, h2, h3, h4, h5⟩ := own_append (P := P) (ty := ty) (hR.own1 hL) (SrcA.im hR.agree e2) hu (ok _ _ hE) hs hpos hcell (by simp only [maxLen]; omega) hby
  have hrun : (execOp ρ ⟨dst, .call ⟨.builtin .append, #[x, y], #[T, T]⟩, ty, pos, after, g⟩).run P w = .ok (.value v') w' := by
    simp [execOp, resolve, invoke, builtin, e1.lit_inv, hr]
  rw [hrun]
  obtain ⟨a, cap, hv, _⟩ := own_row_val hown
  subst hv
  exact ⟨σ, _, _, σ.le_refl, hR.writeAt hL h1 h2 h3 h4 h5 hown, .lit _, _, _, _, rfl, rfl⟩
end
end Go.Sj
end
section
namespace Go.Proofs.YtimfponihbfimaaGreat
open Go.Sj Go.Sj.Typ Go.Sj.Sta Go.Sj.Inc Go.Sj.Pln
set_option maxRecDepth 8000
set_option maxHeartbeats 16000000
theorem gfresh_spec (p : Gr) (h1 : p.nodes.length ≤ 1000) (h2 : p.edges.length ≤ 1000) : Pure Tryz.prog 87 [grA p] (knA (kn0 p)) := by
  have ln : (rowI p.nodes).length = p.nodes.length := by simp
  have le : (p.edges.map cEd).length = p.edges.length := by simp
  have z1 : List.replicate (((rowI p.nodes).length : Int)).toNat (List.map AV.lit [Value.bool false]) = (kn0 p).ns.map cB := by unfold kn0; simp [cB]
  have z2 : List.replicate (((p.edges.map cEd).length : Int)).toNat (List.map AV.lit [Value.bool false]) = (kn0 p).es.map cB := by unfold kn0; simp [cB]
  refine a_enterC Tryz.func87 (by kernel_rfl) rfl Tryz.ntmps87 rfl (tok _ _ rfl) (by simp) ?_
  refine a_seq ?_
  refine a_reg ?_
  repeat (first | refine gZ pk ?_ | (show AL _ _ _ _ _ _ _; first | refine jB (fun up => ?_) | refine jL tok (fun U2 => ?_)))
  refine zfb 1 1 rfl rfl ?_
  refine AWp.mono (Q := fun e st L => e = .normal ∧ ∃ va vb, GoTo 12 st L (lk [(2, .pt U2 0 0 0)]) [(U2, OB.box [.lit va, .lit vb]), (va, OB.row 4 1 ((kn0 p).ns.map cB)), (vb, OB.row 4 1 ((kn0 p).es.map cB))]) ?_ (fun e st L h => ?_)
  · refine zrg ((List.range 10).map fun i => if inL [3, 7, 9] i = true then .eff else if inL [1, 2, 5, 6] i = true then .read else .pure) [3, 7] [0, 1, 2, 4, 5, 6] (.nd 3 [] (.nd 7 [8, 9] .stop .stop) (.nd 7 [] (.nd 3 [8, 9] .stop .stop) .stop)) mixed rfl rfl (by decide +kernel) ?_
    repeat' (first | (with_reducible show AG _ _ _ _ _ _ _ _ _ _; first | exact zgn | refine zgs ?_ | refine znd ?_ ?_) | (show AMid _ _ _ _; first | refine zmf ?_ | refine zmg (by first | exact OSub.refl _ | exact .drop (OSub.refl _) | exact .drop (.drop (OSub.refl _))) ?_) | refine gY pk ?_ | (show AL _ _ _ _ _ _ _; first | refine s_makeQ tok rfl rfl rfl rfl rfl rfl rfl rfl z1 (by omega) (by omega) (by simp; omega) (by omega) (fun a m j => ?_) | refine s_makeQ tok rfl rfl rfl rfl rfl rfl rfl rfl z2 (by omega) (by omega) (by simp; omega) (by omega) (fun a m j => ?_) | refine jS tok 2 ?_) | fail)
    all_goals
      first | exact ⟨rfl, _, _, (GoTo.sub (by exact subQ) (OSub.refl _)).trans (GoTo.perm (perm3 _ _ _).2.2.1)⟩ | exact ⟨rfl, _, _, (GoTo.sub (by exact subQ) (OSub.refl _)).trans (GoTo.perm (perm3 _ _ _).1)⟩ | exact ⟨rfl, _, _, (GoTo.sub (by exact subQ) (OSub.refl _)).trans (GoTo.perm (perm3 _ _ _).2.1)⟩ | exact ⟨rfl, _, _, (GoTo.sub (by exact subQ) (OSub.refl _)).trans (GoTo.perm (perm3 _ _ _).2.2.2.1)⟩ | exact ⟨rfl, _, _, (GoTo.sub (by exact subQ) (OSub.refl _)).trans (GoTo.perm (perm3 _ _ _).2.2.2.2.1)⟩
  · obtain ⟨rfl, va, vb, h⟩ := h
    refine zgt h ?_
    refine zgt (GoTo.freeze 1 rfl (FZS.refl _) [(U2, OB.box [boolsA (kn0 p).ns, .lit vb]), (vb, OB.row 4 1 ((kn0 p).es.map cB))] (zfo ⟨FZ.here, FZ.refl _, trivial⟩ (zfw (cB_rows _) trivial))) ?_
    refine zgt (GoTo.freeze 1 rfl (FZS.refl _) [(U2, OB.box [boolsA (kn0 p).ns, boolsA (kn0 p).es])] (zfo ⟨FZ.refl _, FZ.here, trivial⟩ trivial)) ?_
    refine zfb 0 2 rfl rfl ?_
    repeat (first | refine gA pk ?_)
    exact ⟨.inr rfl, _, _, _, _, rfl, rfl, Turn.of (Sub.of_eq rfl) (OSub.none _), rfl, rfl⟩
theorem gcopied_spec (s : Kn) (h1 : s.ns.length ≤ 1000) (h2 : s.es.length ≤ 1000) : ACalls Tryz.prog 141 [knA s] [] (fun y L => ∃ v1 v2, v1.oneCell' = true ∧ v2.oneCell' = true ∧ y = .agg [.lit v1, .lit v2] ∧ L = knO v1 v2 s) := by
  have ln : (s.ns.map cB).length = s.ns.length := by simp
  have le : (s.es.map cB).length = s.es.length := by simp
  refine a_enterC Tryz.func141 (by kernel_rfl) rfl Tryz.ntmps141 rfl (tok _ _ rfl) (by simp) ?_
  refine a_seq ?_
  refine a_reg ?_
  repeat (first | refine gZ pk ?_ | (show AL _ _ _ _ _ _ _; first | refine jB (fun u => ?_) | refine jL tok (fun u2 => ?_)))
  refine zfb 1 1 rfl rfl ?_
  refine AWp.mono (Q := fun e st L => e = .normal ∧ ∃ vn ve, vn.oneCell' = true ∧ ve.oneCell' = true ∧ GoTo 12 st L (lk [(2, .pt u2 0 0 0)]) [(u2, OB.box [.lit vn, .lit ve]), (vn, OB.row 4 1 (s.ns.map cB)), (ve, OB.row 4 1 (s.es.map cB))]) ?_ (fun e st L h => ?_)
  · refine a_regXP [1, 2, 5, 6] (.nd [0] (.nd [3, 4, 7, 8, 9] .stop (.nd [4, 3, 7, 8, 9] .stop .stop)) (.nd [4, 0, 3, 7, 8, 9] .stop .stop)) mixed rfl rfl (by decide +kernel) ?_
    repeat' (first | (with_reducible show AX _ _ _ _ _ _ _ _ _; first | exact ax_none | refine ax_stop ?_ | refine ax_nd ?_ ?_) | refine gY pk ?_ | (show AL _ _ _ _ _ _ _; first | refine s_build tok (parts := []) rfl rfl rfl rfl rfl rfl rfl rfl (by decide) (by decide) (fun v => ?_) | refine s_appendImQ (es2 := s.ns.map cB) tok 0 rfl rfl rfl rfl rfl rfl (by decide) rfl rfl rfl rfl (cB_cell _) (by simp only [ln, le, List.length_nil]; omega) (by simp only [ln, le, List.length_nil]; omega) (fun a m j => ?_) | refine s_appendImQ (es2 := s.es.map cB) tok 0 rfl rfl rfl rfl rfl rfl (by decide) rfl rfl rfl rfl (cB_cell _) (by simp only [ln, le, List.length_nil]; omega) (by simp only [ln, le, List.length_nil]; omega) (fun a m j => ?_) | refine s_appendImQ (es2 := s.ns.map cB) tok 1 rfl rfl rfl rfl rfl rfl (by decide) rfl rfl rfl rfl (cB_cell _) (by simp only [ln, le, List.length_nil]; omega) (by simp only [ln, le, List.length_nil]; omega) (fun a m j => ?_) | refine s_appendImQ (es2 := s.es.map cB) tok 1 rfl rfl rfl rfl rfl rfl (by decide) rfl rfl rfl rfl (cB_cell _) (by simp only [ln, le, List.length_nil]; omega) (by simp only [ln, le, List.length_nil]; omega) (fun a m j => ?_) | refine jS tok 2 ?_) | fail)
    all_goals
      first | exact ⟨rfl, _, _, rfl, rfl, (GoTo.sub (by exact subQ) (OSub.refl _)).trans (GoTo.perm (List.Perm.refl _))⟩ | exact ⟨rfl, _, _, rfl, rfl, (GoTo.sub (by exact subQ) (OSub.refl _)).trans (GoTo.perm (perm3 _ _ _).1)⟩ | exact ⟨rfl, _, _, rfl, rfl, (GoTo.sub (by exact subQ) (OSub.refl _)).trans (GoTo.perm (perm3 _ _ _).2.1)⟩ | exact ⟨rfl, _, _, rfl, rfl, (GoTo.sub (by exact subQ) (OSub.refl _)).trans (GoTo.perm (perm3 _ _ _).2.2.1)⟩ | exact ⟨rfl, _, _, rfl, rfl, (GoTo.sub (by exact subQ) (OSub.refl _)).trans (GoTo.perm (perm3 _ _ _).2.2.2.1)⟩ | exact ⟨rfl, _, _, rfl, rfl, (GoTo.sub (by exact subQ) (OSub.refl _)).trans (GoTo.perm (perm3 _ _ _).2.2.2.2.1)⟩
  · obtain ⟨rfl, vn, ve, hvn, hve, h⟩ := h
    refine zgt h ?_
    refine zfb 0 2 rfl rfl ?_
    repeat (first | refine gA pk ?_)
    exact ⟨.inr rfl, _, _, _, _, rfl, rfl, Turn.of (Sub.of_eq rfl) (OSub.refl _), vn, ve, hvn, hve, rfl, rfl⟩
theorem gafter_spec (p : Gr) (hp : GV p) (s : Kn) (hs : KnOk p s) (o : Opn) (ho : opE p s o = 0) : Pure Tryz.prog 89 [grA p, knA s, .agg (cOp o)] (knA (aftK p s o)) := by
  obtain ⟨kind, el⟩ := o
  have hnl := hp.nl
  have hel := hp.el
  have hns := hs.nl
  have hes := hs.el
  have sc := gcopied_spec s (by omega) (by omega)
  have l1 : (s.ns.map cB).length = p.nodes.length := by rw [List.length_map, hns]
  have l2 : (s.es.map cB).length = p.edges.length := by rw [List.length_map, hes]
  have hed := hp.edges
  change Pure _ _ [_, _, .agg [AI kind, AI el]] _
  rcases opE_zero ho with ⟨h1, h2, h3⟩ | ⟨h1, h2, h3⟩
  · simp only at h1 h2
    subst h1
    have e2 : aftK p s ⟨1, el⟩ = ⟨s.ns.set el.toNat true, s.es⟩ := by unfold aftK; rw [if_pos rfl]
    rw [e2]
    obtain ⟨pn, pe⟩ := p
    simp only at *
    refine a_enterC Tryz.func89 (by kernel_rfl) rfl Tryz.ntmps89 rfl (tok _ _ rfl) (by simp) ?_
    refine a_seq ?_
    refine a_reg ?_
    repeat (first | refine gZ pk ?_ | (show AL _ _ _ _ _ _ _; first | refine jB (fun u => ?_) | refine jL tok (fun U6 => ?_)))
    refine zfb 1 5 rfl rfl ?_
    refine zfb 2 3 rfl rfl ?_
    refine a_reg ?_
    repeat (first | refine gZ pk ?_ | (show AL _ _ _ _ _ _ _; first | refine jO tok 1 ?_ | refine zsc (Lc := []) rfl rfl rfl rfl rfl sc (SubL.of_eq rfl) (List.Perm.refl _) ?_; rintro _ _ ⟨v1, v2, hv1, hv2, rfl, rfl⟩ | refine s_store (a := .agg [.lit v1, .lit v2]) tok 3 rfl rfl rfl rfl rfl rfl (by simp [AV.storable, AV.cell, hv1, hv2]) rfl (by decide) rfl rfl rfl (Nat.le_of_ble_eq_true rfl) ?_))
    refine zfb 3 4 rfl rfl ?_
    refine a_reg ?_
    repeat (first | refine gZ pk ?_)
    refine a_reg ?_
    repeat (first | refine gZ pk ?_ | (show AL _ _ _ _ _ _ _; first | refine zoi tok 0 rfl rfl rfl rfl (by decide) rfl rfl rfl rfl rfl rfl (by omega) (by omega) ?_ | refine s_storeBl tok 0 rfl rfl rfl rfl rfl rfl rfl rfl (by omega) ?_))
    refine a_frzV 0 4 rfl rfl (FZ.ipM (l := [.lit v1, .lit v2]) (m := [boolsA (s.ns.set el.toNat true), .lit v2]) ⟨FZ.here, FZ.refl _, trivial⟩) ?_
    refine a_frzV 0 4 rfl rfl (FZ.ipM (l := [boolsA (s.ns.set el.toNat true), .lit v2]) (m := [boolsA (s.ns.set el.toNat true), boolsA s.es]) ⟨FZ.refl _, FZ.here, trivial⟩) ?_
    repeat (first | refine gV pk ?_ | (show AL _ _ _ _ _ _ _; first | refine jS tok 0 ?_))
    refine zfb 0 6 rfl rfl ?_
    refine a_ret ?_
    exact ⟨.inr rfl, _, _, _, _, rfl, rfl, Turn.of (Sub.of_eq rfl) (OSub.none _), rfl, rfl⟩
  · simp only at h1 h2
    have hx := List.getElem?_eq_getElem (l := p.edges) (i := el.toNat) (by omega)
    have hxe := hed _ (List.getElem_mem (l := p.edges) (n := el.toNat) (by omega))
    generalize p.edges[el.toNat]'(by omega) = x at hx hxe
    have hxp : edP p el = x := by
      unfold edP
      rw [List.getD_eq_getElem?_getD, hx]
      rfl
    have e2 : aftK p s ⟨kind, el⟩ = ⟨(s.ns.set x.fr.toNat true).set x.to.toNat true, s.es.set el.toNat true⟩ := by
      unfold aftK
      rw [if_neg (by show ¬ kind = 1; omega)]
      simp only [hxp]
    rw [e2]
    obtain ⟨xt, xf, xo⟩ := x
    simp only at hxe
    have xk : (p.edges.map cEd)[el.toNat]? = some [AI xt, AI xf, AI xo] := zmp (f := cEd) hx
    have le : (p.edges.map cEd).length = p.edges.length := by simp
    clear e2 hx hxp hed h3 ho
    obtain ⟨pn, pe⟩ := p
    simp only at *
    refine a_enterC Tryz.func89 (by kernel_rfl) rfl Tryz.ntmps89 rfl (tok _ _ rfl) (by simp) ?_
    refine a_seq ?_
    refine a_reg ?_
    repeat (first | refine gZ pk ?_ | (show AL _ _ _ _ _ _ _; first | refine jB (fun u => ?_) | refine jL tok (fun U6 => ?_)))
    refine zfb 1 5 rfl rfl ?_
    refine zfb 2 3 rfl rfl ?_
    refine a_reg ?_
    repeat (first | refine gZ pk ?_ | (show AL _ _ _ _ _ _ _; first | refine jO tok 1 ?_ | refine zsc (Lc := []) rfl rfl rfl rfl rfl sc (SubL.of_eq rfl) (List.Perm.refl _) ?_; rintro _ _ ⟨v1, v2, hv1, hv2, rfl, rfl⟩ | refine s_store (a := .agg [.lit v1, .lit v2]) tok 3 rfl rfl rfl rfl rfl rfl (by simp [AV.storable, AV.cell, hv1, hv2]) rfl (by decide) rfl rfl rfl (Nat.le_of_ble_eq_true rfl) ?_))
    refine zfb 3 4 rfl rfl ?_
    repeat (first | refine gN pk ?_ | (show AL _ _ _ _ _ _ _; first | refine zoi tok 1 rfl rfl rfl rfl (by decide) rfl rfl rfl rfl rfl rfl (by omega) (by omega) ?_ | refine s_storeBl tok 1 rfl rfl rfl rfl rfl rfl rfl rfl (by omega) ?_))
    refine zrg ((List.range 22).map fun i => if inL [19, 21] i = true then .eff else if inL [18, 20] i = true then .read else .pure) [] [0, 1, 2, 3, 4, 5, 6, 7, 8, 9, 10, 11, 12, 13, 14, 15, 16, 17, 18, 19, 20, 21] .stop mixed rfl rfl (by decide +kernel) ?_
    repeat' (first | (with_reducible show AG _ _ _ _ _ _ _ _ _ _; first | exact zgn | refine zgs ?_ | refine znd ?_ ?_) | (show AMid _ _ _ _; first | refine zmf ?_ | refine zmg (by first | exact OSub.refl _ | exact .drop (OSub.refl _) | exact .drop (.drop (OSub.refl _))) ?_) | refine gY pk ?_ | (show AL _ _ _ _ _ _ _; first | refine jX tok xk ?_ | refine zoi tok 0 rfl rfl rfl rfl (by decide) rfl rfl rfl rfl rfl rfl (by omega) (by first | omega | (simp only [List.length_map, List.length_set]; omega)) ?_ | refine s_storeBl tok 0 rfl rfl rfl rfl rfl rfl rfl rfl (by first | omega | (simp only [List.length_set]; omega)) ?_) | fail)
    repeat (first | refine gZ pk ?_)
    refine a_frzV 0 4 rfl rfl (FZ.ipM (l := [.lit v1, .lit v2]) (m := [boolsA ((s.ns.set xf.toNat true).set xo.toNat true), .lit v2]) ⟨FZ.here, FZ.refl _, trivial⟩) ?_
    refine a_frzV 0 4 rfl rfl (FZ.ipM (l := [boolsA ((s.ns.set xf.toNat true).set xo.toNat true), .lit v2]) (m := [boolsA ((s.ns.set xf.toNat true).set xo.toNat true), boolsA (s.es.set el.toNat true)]) ⟨FZ.refl _, FZ.here, trivial⟩) ?_
    repeat (first | refine gV pk ?_ | (show AL _ _ _ _ _ _ _; first | refine jS tok 0 ?_))
    refine zfb 0 6 rfl rfl ?_
    refine a_ret ?_
    exact ⟨.inr rfl, _, _, _, _, rfl, rfl, Turn.of (Sub.of_eq rfl) (OSub.none _), rfl, rfl⟩
end Go.Proofs.YtimfponihbfimaaGreat
end
section
namespace Go.Proofs.YtimfponihbfimaaGreat
open Go.Sj Go.Sj.Typ Go.Sj.Sta Go.Sj.Inc Go.Sj.Pln
set_option maxRecDepth 8000
set_option maxHeartbeats 16000000
theorem gends_spec (p : Gr) (s : Kn) (i xt xf xo : Int) (hi : 0 ≤ i) (hx : p.edges[i.toNat]? = some ⟨xt, xf, xo⟩) (hf : 0 ≤ xf ∧ xf < s.ns.length) (ho : 0 ≤ xo ∧ xo < s.ns.length) : Pure Tryz.prog 140 [grA p, knA s, AI i] (.tup [AB (nodK s xf), AB (nodK s xo)]) := by
  have xk : (p.edges.map cEd)[i.toNat]? = some [AI xt, AI xf, AI xo] := zmp (f := cEd) hx
  have gf := bl_get (l := s.ns) (i := xf) (by omega)
  have gt := bl_get (l := s.ns) (i := xo) (by omega)
  change _ = some [AB (nodK s xf)] at gf
  change _ = some [AB (nodK s xo)] at gt
  generalize nodK s xf = b1 at *
  generalize nodK s xo = b2 at *
  obtain ⟨pn, pe⟩ := p
  obtain ⟨ns, es⟩ := s
  simp only at *
  change Pure _ _ [.agg [ints pn, edsA pe], .agg [boolsA ns, boolsA es], AI i] _
  refine zen Tryz.func140 (by kernel_rfl) rfl Tryz.ntmps140 rfl (by simp) ?_
  refine a_seq ?_
  refine a_reg ?_
  repeat (first | refine gZ pk ?_ | (show AL _ _ _ _ _ _ _; first | refine jB (fun u => ?_)))
  refine zfb 1 3 rfl rfl ?_
  refine zfb 0 4 rfl rfl ?_
  repeat (first | refine gN pk ?_)
  refine zrg ((List.range 22).map fun i => if inL [1, 3, 5, 7, 8, 9, 11, 13, 15, 17, 18, 19] i = true then .read else .pure) [] [0, 1, 2, 3, 4, 5, 6, 7, 8, 9, 10, 11, 12, 13, 14, 15, 16, 17, 18, 19, 20, 21] .stop mixed rfl rfl (by decide +kernel) ?_
  repeat' (first | (with_reducible show AG _ _ _ _ _ _ _ _ _ _; first | exact zgn | refine zgs ?_ | refine znd ?_ ?_) | (show AMid _ _ _ _; first | refine zmf ?_ | refine zmg (by first | exact OSub.refl _ | exact .drop (OSub.refl _) | exact .drop (.drop (OSub.refl _))) ?_) | refine gY pk ?_ | (show AL _ _ _ _ _ _ _; first | refine jX tok xk ?_ | refine jX tok gf ?_ | refine jX tok gt ?_) | fail)
  repeat (first | refine gA pk ?_)
  refine fin (x := .tup [AB b1, AB b2]) (.inr rfl) rfl (Sub.refl _) ⟨rfl, rfl⟩ (OSub.none _)
theorem gpossible_spec (p : Gr) (hp : GV p) (s : Kn) (hs : KnOk p s) (o : Opn) : Pure Tryz.prog 88 [grA p, knA s, .agg (cOp o)] (AI (opE p s o)) := by
  obtain ⟨kind, el⟩ := o
  have hnl := hp.nl
  have hel := hp.el
  have hns := hs.nl
  have hes := hs.el
  have ln : (rowI p.nodes).length = p.nodes.length := by simp
  have le : (p.edges.map cEd).length = p.edges.length := by simp
  have hed := hp.edges
  change Pure _ _ [_, _, .agg [AI kind, AI el]] _
  by_cases h1 : kind = 1
  · subst h1
    by_cases h2 : 0 ≤ el ∧ el < p.nodes.length
    · have gk := bl_get (l := s.ns) (i := el) (by omega)
      obtain ⟨b, hb⟩ : ∃ b, s.ns.getD el.toNat false = b := ⟨_, rfl⟩
      rw [hb] at gk
      have e1 : opE p s ⟨1, el⟩ = if b = true then 8 else 0 := by
        unfold opE nodK
        rw [if_pos rfl, if_pos h2]
        simp only [hb]
      rw [e1]
      clear e1 hb hed hes hns hp hs
      obtain ⟨pn, pe⟩ := p
      obtain ⟨ns, es⟩ := s
      simp only at *
      change Pure _ _ [.agg [ints pn, edsA pe], .agg [boolsA ns, boolsA es], _] _
      cases b
      all_goals
        refine zen Tryz.func88 (by kernel_rfl) rfl Tryz.ntmps88 rfl (by simp) ?_
        refine a_seq ?_
        refine a_reg ?_
        repeat (first | refine gZ pk ?_ | (show AL _ _ _ _ _ _ _; first | refine jB (fun u => ?_)))
        refine zfb 2 3 rfl rfl ?_
        refine zfb 1 4 rfl rfl ?_
        refine zfb 0 5 rfl rfl ?_
        repeat (first | refine gA pk ?_ | (show AL _ _ _ _ _ _ _; first | refine jX tok gk ?_))
        refine finQ ?_
        exact ⟨rfl, rfl⟩
    · have e1 : opE p s ⟨1, el⟩ = 6 := by
        unfold opE
        rw [if_pos rfl, if_neg h2]
      rw [e1]
      have hx : el < 0 ∨ (0 ≤ el ∧ (p.nodes.length : Int) ≤ el) := by omega
      clear e1 hed hes hns hp hs
      obtain ⟨pn, pe⟩ := p
      obtain ⟨ns, es⟩ := s
      simp only at *
      change Pure _ _ [.agg [ints pn, edsA pe], .agg [boolsA ns, boolsA es], _] _
      rcases hx with hx | ⟨hx1, hx2⟩
      all_goals
        refine zen Tryz.func88 (by kernel_rfl) rfl Tryz.ntmps88 rfl (by simp) ?_
        refine a_seq ?_
        refine a_reg ?_
        repeat (first | refine gZ pk ?_ | (show AL _ _ _ _ _ _ _; first | refine jB (fun u => ?_)))
        refine zfb 2 3 rfl rfl ?_
        refine zfb 1 4 rfl rfl ?_
        refine zfb 0 5 rfl rfl ?_
        repeat (first | refine gA pk ?_)
        refine finQ ?_
        exact ⟨rfl, rfl⟩
  · by_cases h3 : kind = 2 ∨ kind = 3
    rotate_left
    · have e1 : opE p s ⟨kind, el⟩ = 6 := by
        unfold opE
        rw [if_neg h1, if_neg h3]
      rw [e1]
      have hx : kind < 1 ∨ (1 ≤ kind ∧ 3 < kind) := by omega
      clear e1 hed hes hns hp hs
      obtain ⟨pn, pe⟩ := p
      obtain ⟨ns, es⟩ := s
      simp only at *
      change Pure _ _ [.agg [ints pn, edsA pe], .agg [boolsA ns, boolsA es], _] _
      rcases hx with hx | ⟨hx1, hx2⟩
      all_goals
        refine zen Tryz.func88 (by kernel_rfl) rfl Tryz.ntmps88 rfl (by simp) ?_
        refine a_seq ?_
        refine a_reg ?_
        repeat (first | refine gZ pk ?_ | (show AL _ _ _ _ _ _ _; first | refine jB (fun u => ?_)))
        refine zfb 2 3 rfl rfl ?_
        refine zfb 1 4 rfl rfl ?_
        refine zfb 0 5 rfl rfl ?_
        repeat (first | refine gA pk ?_)
        refine finQ ?_
        exact ⟨rfl, rfl⟩
    · by_cases h2 : 0 ≤ el ∧ el < p.edges.length
      rotate_left
      · have e1 : opE p s ⟨kind, el⟩ = 6 := by
          unfold opE
          rw [if_neg h1, if_pos h3, if_neg h2]
        rw [e1]
        have hx : el < 0 ∨ (0 ≤ el ∧ (p.edges.length : Int) ≤ el) := by omega
        clear e1 hed hes hns hp hs
        obtain ⟨pn, pe⟩ := p
        obtain ⟨ns, es⟩ := s
        simp only at *
        change Pure _ _ [.agg [ints pn, edsA pe], .agg [boolsA ns, boolsA es], _] _
        rcases h3 with rfl | rfl <;> rcases hx with hx | ⟨hx1, hx2⟩
        all_goals
          refine zen Tryz.func88 (by kernel_rfl) rfl Tryz.ntmps88 rfl (by simp) ?_
          refine a_seq ?_
          refine a_reg ?_
          repeat (first | refine gZ pk ?_ | (show AL _ _ _ _ _ _ _; first | refine jB (fun u => ?_)))
          refine zfb 2 3 rfl rfl ?_
          refine zfb 1 4 rfl rfl ?_
          refine zfb 0 5 rfl rfl ?_
          repeat (first | refine gA pk ?_)
          refine finQ ?_
          exact ⟨rfl, rfl⟩
      · obtain ⟨eb, heb⟩ : ∃ eb, edgP p s ⟨kind, el⟩ = eb := ⟨_, rfl⟩
        have e1 : opE p s ⟨kind, el⟩ = if eb = true then 0 else 8 := by
          unfold opE
          rw [if_neg h1, if_pos h3, if_pos h2]
          simp only [heb]
        have hx := List.getElem?_eq_getElem (l := p.edges) (i := el.toNat) (by omega)
        have hxe := hed _ (List.getElem_mem (l := p.edges) (n := el.toNat) (by omega))
        generalize p.edges[el.toNat]'(by omega) = x at hx hxe
        have hxp : edP p el = x := by
          unfold edP
          rw [List.getD_eq_getElem?_getD, hx]
          rfl
        obtain ⟨xt, xf, xo⟩ := x
        simp only at hxe
        have se := gends_spec p s el xt xf xo h2.1 hx (by rw [hns]; exact hxe.2.1) (by rw [hns]; exact hxe.2.2)
        have ge := bl_get (l := s.es) (i := el) (by omega)
        change _ = some [AB (edgK s el)] at ge
        unfold edgP at heb
        simp only [hxp] at heb
        rw [e1]
        clear e1 hx hxp hed hxe hns hp hs
        generalize nodK s xf = b1 at *
        generalize nodK s xo = b2 at *
        generalize edgK s el = b3 at *
        obtain ⟨pn, pe⟩ := p
        obtain ⟨ns, es⟩ := s
        simp only at *
        change Pure _ _ [.agg [ints pn, edsA pe], .agg [boolsA ns, boolsA es], _] _
        change Pure _ _ [.agg [ints pn, edsA pe], .agg [boolsA ns, boolsA es], _] _ at se
        rcases h3 with rfl | rfl <;> cases b1 <;> cases b2 <;> cases b3 <;> cases eb <;> (try (exfalso; revert heb; decide))
        all_goals
          refine zen Tryz.func88 (by kernel_rfl) rfl Tryz.ntmps88 rfl (by simp) ?_
          refine a_seq ?_
          refine a_reg ?_
          repeat (first | refine gZ pk ?_ | (show AL _ _ _ _ _ _ _; first | refine jB (fun u => ?_)))
          refine zfb 2 3 rfl rfl ?_
          refine zfb 1 4 rfl rfl ?_
          refine zfb 0 5 rfl rfl ?_
          repeat (first | refine gA pk ?_ | (show AL _ _ _ _ _ _ _; first | refine jP se ?_ | refine jX tok ge ?_ | refine s_boolNe tok rfl rfl rfl rfl rfl rfl rfl ?_))
          refine finQ ?_
          exact ⟨rfl, rfl⟩
end Go.Proofs.YtimfponihbfimaaGreat
end
section
namespace Go.Proofs.YtimfponihbfimaaGreat
open Go.Sj Go.Sj.Typ Go.Sj.Sta Go.Sj.Inc Go.Sj.Pln
set_option maxRecDepth 8000
set_option maxHeartbeats 16000000
theorem se_op : SE Tryz.prog 41 2 := se_of Tryz.underlying41 (by kernel_rfl) (by kernel_rfl) rfl (by kernel_rfl)
abbrev toIO (o : Opn) : List Int := [o.kind, o.el]
theorem toIO_eq {a b : Opn} : toIO a = toIO b ↔ a = b := by
  obtain ⟨a1, a2⟩ := a
  obtain ⟨b1, b2⟩ := b
  simp [toIO]
theorem gSameOps_spec (a b : List Opn) (ha : a.length ≤ 1000000) (hb : b.length ≤ 1000000) : Pure Tryz.prog 29 [opsA a, opsA b] (AB (decide (a = b))) := by
  have la : (a.map cOp).length = a.length := by simp
  have lb : (b.map cOp).length = b.length := by simp
  by_cases hl : a.length = b.length
  · refine zen Tryz.func29 (by kernel_rfl) rfl Tryz.ntmps29 rfl (by simp) ?_
    repeat (first | refine gA pk ?_)
    refine zlx (fun k : Nat => [(0, opsA a), (1, opsA b), (5, AI k)]) (fun _ => []) (fun k => k ≤ a.length ∧ a.take k = b.take k) (fun k => a.length - k) 0 ⟨Nat.zero_le _, rfl⟩ ?_ (OSub.refl _) ?_
    · exact subQ
    · rintro k ⟨hk, he⟩
      rcases Nat.lt_or_ge k a.length with h | h
      · have h1 := List.getElem?_eq_getElem h
        have h2 := List.getElem?_eq_getElem (l := b) (i := k) (by omega)
        generalize a[k] = x at h1
        generalize b[k]'(by omega) = y at h2
        have x1 : (a.map cOp)[(k : Int).toNat]? = some (cOp x) := zmp (f := cOp) h1
        have x2 : (b.map cOp)[(k : Int).toNat]? = some (cOp y) := zmp (f := cOp) h2
        by_cases hab : x = y
        · have ht : a.take (k + 1) = b.take (k + 1) := by rw [List.take_add_one, List.take_add_one, h1, h2, he, hab]
          repeat (first | refine gN pk ?_)
          refine zrg ((List.range 9).map fun i => if inL [2, 3, 6, 7] i = true then .read else .pure) [] [0, 1, 2, 3, 4, 5, 6, 7, 8] .stop mixed rfl rfl (by decide +kernel) ?_
          repeat' (first | (with_reducible show AG _ _ _ _ _ _ _ _ _ _; first | exact zgn | refine zgs ?_ | refine znd ?_ ?_) | (show AMid _ _ _ _; first | refine zmf ?_ | refine zmg (by first | exact OSub.refl _ | exact .drop (OSub.refl _) | exact .drop (.drop (OSub.refl _))) ?_) | refine gY pk ?_ | (show AL _ _ _ _ _ _ _; first | refine jX tok x1 ?_ | refine jX tok x2 ?_ | refine s_sne (b := false) (xs := toIO x) (ys := toIO y) se_op rfl rfl rfl rfl rfl rfl rfl rfl (by rw [decide_eq_true (toIO_eq.2 hab)]; rfl) ?_) | fail)
          repeat (first | refine gA pk ?_)
          exact ⟨k + 1, ⟨by omega, ht⟩, by omega, by exact subQ, OSub.refl _⟩
        · have hne : a ≠ b := fun e => by rw [e, h2] at h1; cases h1; exact hab rfl
          rw [decide_eq_false hne]
          repeat (first | refine gN pk ?_)
          refine zrg ((List.range 9).map fun i => if inL [2, 3, 6, 7] i = true then .read else .pure) [] [0, 1, 2, 3, 4, 5, 6, 7, 8] .stop mixed rfl rfl (by decide +kernel) ?_
          repeat' (first | (with_reducible show AG _ _ _ _ _ _ _ _ _ _; first | exact zgn | refine zgs ?_ | refine znd ?_ ?_) | (show AMid _ _ _ _; first | refine zmf ?_ | refine zmg (by first | exact OSub.refl _ | exact .drop (OSub.refl _) | exact .drop (.drop (OSub.refl _))) ?_) | refine gY pk ?_ | (show AL _ _ _ _ _ _ _; first | refine jX tok x1 ?_ | refine jX tok x2 ?_ | refine s_sne (b := true) (xs := toIO x) (ys := toIO y) se_op rfl rfl rfl rfl rfl rfl rfl rfl (by rw [decide_eq_false (fun q => hab (toIO_eq.1 q))]; rfl) ?_) | fail)
          repeat (first | refine gA pk ?_)
          refine finQ ?_
          exact ⟨rfl, rfl⟩
      · have : a = b := by
          have e1 : a.take k = a := List.take_of_length_le (by omega)
          have e2 : b.take k = b := List.take_of_length_le (by omega)
          rw [← e1, ← e2, he]
        rw [decide_eq_true this]
        repeat (first | refine gA pk ?_)
        refine finQ ?_
        exact ⟨rfl, rfl⟩
  · rw [decide_eq_false (fun e => hl (by rw [e]))]
    refine zen Tryz.func29 (by kernel_rfl) rfl Tryz.ntmps29 rfl (by simp) ?_
    repeat (first | refine gA pk ?_)
    refine finQ ?_
    exact ⟨rfl, rfl⟩
end Go.Proofs.YtimfponihbfimaaGreat
end
section
namespace Go.Proofs.YtimfponihbfimaaGreat
open Go.Sj Go.Sj.Typ Go.Sj.Sta
set_option maxRecDepth 8000
set_option maxHeartbeats 8000000
theorem tyE_at {t : Tys} {g : Gr} {k : Nat} {e : Ed} (h : g.edges[k]? = some e) : tyE t g k = tyEd t g e := by simp only [tyE, h]
theorem refTyped_spec (t : Tys) (ht : Small t) (g : Gr) (hg : OkG g) : Pure Tryz.prog 70 [tysA t, grA g] (AI (typedE t g)) := by
  have ln : (rowI g.nodes).length = g.nodes.length := by simp
  have le : (g.edges.map cEd).length = g.edges.length := by simp
  have lt : (t.nodes.map cNod).length = t.nodes.length := by simp
  have lte : (t.edges.map cEdg).length = t.edges.length := by simp
  have htn := ht.nodes
  have hte := ht.edges
  have s1 := refValid_spec t ht
  have s2 := refgvalid_spec g hg
  obtain ⟨r, hr⟩ : ∃ r, typedE t g = r := ⟨_, rfl⟩
  rw [hr]
  unfold typedE at hr
  by_cases hv : (validR t).2 = 0
  · rw [if_neg (Decidable.not_not.2 hv)] at hr
    generalize (validR t).1 = nm at s1
    rw [hv] at s1
    by_cases hgv : gvalid g = 0
    · have hG := gvalid_zero.1 hgv
      have hg1 := hG.nl
      have hg2 := hG.el
      rw [if_neg (Decidable.not_not.2 hgv)] at hr
      rw [hgv] at s2
      refine zen Tryz.func70 (by kernel_rfl) rfl Tryz.ntmps70 rfl (by simp) ?_
      refine a_seq ?_
      refine a_reg ?_
      repeat (first | refine gZ pk ?_ | (show AL _ _ _ _ _ _ _; first | refine jB (fun u => ?_)))
      refine zfb 0 3 rfl rfl ?_
      refine zfb 0 2 rfl rfl ?_
      repeat (first | refine gA pk ?_ | (show AL _ _ _ _ _ _ _; first | refine jP s1 ?_ | refine jP s2 ?_))
      refine zlx (fun k : Nat => [(2, tysP t), (3, grP g), (8, AI k)]) (fun _ => []) (fun k => k ≤ g.nodes.length ∧ ∀ x ∈ g.nodes.take k, decide ((t.nodes.length : Int) ≤ x) = false) (fun k => g.nodes.length - k) 0 ⟨Nat.zero_le _, by simp⟩ ?_ (OSub.none _) ?_
      · exact subQ
      · rintro k ⟨hk, hno⟩
        rcases Nat.lt_or_ge k g.nodes.length with h | h
        · have hx := List.getElem?_eq_getElem h
          generalize g.nodes[k] = y at hx
          have xk : (rowI g.nodes)[(k : Int).toNat]? = some [AI y] := zmp (f := cI) hx
          by_cases hy : (t.nodes.length : Int) ≤ y
          · rw [any_take_some (p := fun n => decide ((t.nodes.length : Int) ≤ n)) hx (decide_eq_true hy), if_pos rfl] at hr
            subst hr
            repeat (first | refine gA pk ?_ | (show AL _ _ _ _ _ _ _; first | refine jX tok xk ?_))
            refine finQ ?_
            exact ⟨rfl, rfl⟩
          · have hn := none_takeP (p := fun n => decide ((t.nodes.length : Int) ≤ n)) hno hx (decide_eq_false hy)
            repeat (first | refine gA pk ?_ | (show AL _ _ _ _ _ _ _; first | refine jX tok xk ?_))
            exact ⟨k + 1, ⟨by omega, hn⟩, by omega, by exact subQ, OSub.none _⟩
        · obtain rfl : k = g.nodes.length := by omega
          rw [List.take_length] at hno
          rw [any_take_none (p := fun n => decide ((t.nodes.length : Int) ≤ n)) hno, if_neg (by decide)] at hr
          repeat (first | refine gA pk ?_)
          refine zlx (fun k : Nat => [(2, tysP t), (3, grP g), (9, AI k)]) (fun _ => []) (fun k => k ≤ g.edges.length ∧ ∀ j, j < k → tyE t g j = 0) (fun k => g.edges.length - k) 0 ⟨Nat.zero_le _, fun j hj => (by omega)⟩ ?_ (OSub.none _) ?_
          · exact subQ
          · rintro k ⟨hk, hno⟩
            rcases Nat.lt_or_ge k g.edges.length with h | h
            · have hx := List.getElem?_eq_getElem h
              have hed := hG.edges _ (List.getElem_mem h)
              have hE := tyE_at (t := t) hx
              generalize g.edges[k] = y at hx hed hE
              obtain ⟨c1, c2, c3⟩ := y
              simp only at hed
              have xk : (g.edges.map cEd)[(k : Int).toNat]? = some [AI c1, AI c2, AI c3] := zmp (f := cEd) hx
              have xa : (rowI g.nodes)[c2.toNat]? = some [AI (nodeAt g c2)] := zmp (f := cI) (nodeAt_get hed.2.1.1 hed.2.1.2)
              have xb : (rowI g.nodes)[c3.toNat]? = some [AI (nodeAt g c3)] := zmp (f := cI) (nodeAt_get hed.2.2.1 hed.2.2.2)
              have s3 := refFits_spec t ht c1 (nodeAt g c2) (nodeAt g c3)
              unfold tyEd at hE
              simp only at hE
              generalize nodeAt g c2 = na at *
              generalize nodeAt g c3 = nb at *
              by_cases h1 : (t.edges.length : Int) ≤ c1
              · rw [if_pos h1] at hE
                rw [firstN_at hno h (by rw [hE]; decide), hE] at hr
                subst hr
                repeat (first | refine gA pk ?_ | (show AL _ _ _ _ _ _ _; first | refine jX tok xk ?_ | refine jL tok (fun u => ?_) | refine jS tok 0 ?_ | refine jO tok 0 ?_))
                refine finQ ?_
                exact ⟨rfl, rfl⟩
              · rw [if_neg h1] at hE
                cases hf : fitsR t c1 na nb with
                | false =>
                  rw [hf] at s3
                  rw [hf, if_pos rfl] at hE
                  rw [firstN_at hno h (by rw [hE]; decide), hE] at hr
                  subst hr
                  repeat (first | refine gN pk ?_ | (show AL _ _ _ _ _ _ _; first | refine jX tok xk ?_ | refine jL tok (fun u => ?_) | refine jS tok 0 ?_ | refine jO tok 0 ?_))
                  refine zfb 0 10 rfl rfl ?_
                  repeat (first | refine gA pk ?_ | (show AL _ _ _ _ _ _ _; first | refine jX tok xa ?_ | refine jX tok xb ?_ | refine jP s3 ?_))
                  refine finQ ?_
                  exact ⟨rfl, rfl⟩
                | true =>
                  rw [hf] at s3
                  rw [hf, if_neg (by decide)] at hE
                  repeat (first | refine gN pk ?_ | (show AL _ _ _ _ _ _ _; first | refine jX tok xk ?_ | refine jL tok (fun u => ?_) | refine jS tok 0 ?_ | refine jO tok 0 ?_))
                  refine zfb 0 10 rfl rfl ?_
                  repeat (first | refine gA pk ?_ | (show AL _ _ _ _ _ _ _; first | refine jX tok xa ?_ | refine jX tok xb ?_ | refine jP s3 ?_))
                  exact ⟨k + 1, ⟨by omega, fun j hj => by rcases Nat.lt_or_ge j k with hj' | hj'; exact hno j hj'; obtain rfl : j = k := by omega
                                                          exact hE⟩, by omega, by exact subQ, OSub.none _⟩
            · obtain rfl : k = g.edges.length := by omega
              rw [firstN_none hno] at hr
              subst hr
              repeat (first | refine gA pk ?_)
              refine finQ ?_
              exact ⟨rfl, rfl⟩
    · rw [if_pos hgv] at hr
      rw [hr] at s2 hgv
      refine zen Tryz.func70 (by kernel_rfl) rfl Tryz.ntmps70 rfl (by simp) ?_
      refine a_seq ?_
      refine a_reg ?_
      repeat (first | refine gZ pk ?_ | (show AL _ _ _ _ _ _ _; first | refine jB (fun u => ?_)))
      refine zfb 0 3 rfl rfl ?_
      refine zfb 0 2 rfl rfl ?_
      repeat (first | refine gA pk ?_ | (show AL _ _ _ _ _ _ _; first | refine jP s1 ?_ | refine jP s2 ?_))
      refine finQ ?_
      exact ⟨rfl, rfl⟩
  · rw [if_pos hv] at hr
    generalize (validR t).1 = nm at s1
    rw [hr] at s1 hv
    refine zen Tryz.func70 (by kernel_rfl) rfl Tryz.ntmps70 rfl (by simp) ?_
    refine a_seq ?_
    refine a_reg ?_
    repeat (first | refine gZ pk ?_ | (show AL _ _ _ _ _ _ _; first | refine jB (fun u => ?_)))
    refine zfb 0 3 rfl rfl ?_
    refine zfb 0 2 rfl rfl ?_
    repeat (first | refine gA pk ?_ | (show AL _ _ _ _ _ _ _; first | refine jP s1 ?_))
    refine finQ ?_
    exact ⟨rfl, rfl⟩
end Go.Proofs.YtimfponihbfimaaGreat
end
