/- Parts of a proof. -/
import Derived.Test.YtimfponihbfimaaGreatP40
set_option linter.unusedVariables false
set_option linter.unusedSimpArgs false
section
namespace Go.Proofs.YtimfponihbfimaaGreat
open Go.Sj Go.Sj.Typ Go.Sj.Sta Go.Sj.Inc
set_option maxRecDepth 8000
set_option maxHeartbeats 16000000
theorem sortF_spec (d : Array Mo) (hd : AllB d) (v : Value) :
    ACalls Tryz.prog 43 [.lit v, cmpF] [(v, rowM d)] (fun y M => y = .tup [] ∧ M = [(v, rowM (Sort.sort ltM d))]) := by
  have hn := hd.n
  have s1 := lenE_spec d.size hn
  have s2 := pdqS_spec d.size d hd 0 d.size (Sort.bitsLen d.size) (by omega) (Nat.zero_le _) (Nat.le_refl _) (by have := bitsLen_20 hn; omega) v
  have ll : (d.toList.map cMo).length = d.size := by simp
  change ACalls _ _ [.lit v, AI 0, AI d.size, AI (Sort.bitsLen d.size : Nat), cmpF] _ _ at s2
  have e : Sort.sort ltM d = Sort.pdq ltM d 0 d.size (Sort.bitsLen d.size) true true := rfl
  rw [e]
  generalize Sort.pdq ltM d 0 d.size (Sort.bitsLen d.size) true true = R at *
  generalize Sort.bitsLen d.size = z at *
  rw [← ll] at s1 s2
  refine zen Tryz.func43 (by kernel_rfl) rfl Tryz.ntmps43 rfl (by simp) ?_
  repeat (first | refine gA pk ?_ | (show AL _ _ _ _ _ _ _; first | refine zol tok 0 rfl rfl rfl rfl (by decide) rfl rfl rfl ?_ | refine s_pe (x := cmpF) tok rfl rfl rfl rfl ?_ | refine zcv tok rfl rfl rfl rfl rfl rfl rfl (IntWalk.u64_in _ (by omega)) ?_ | refine jP s1 ?_ | refine zsc (Lc := [(v, rowM d)]) (Lr := []) rfl rfl rfl rfl rfl s2 (SubL.of_eq rfl) (List.Perm.refl _) ?_; rintro _ _ ⟨rfl, ⟨w1, w2⟩, rfl⟩))
  exact fin (x := .tup []) (.inl rfl) rfl (Sub.refl _) ⟨rfl, rfl⟩ (OSub.refl _)
end Go.Proofs.YtimfponihbfimaaGreat
end
section
namespace Go.Proofs.YtimfponihbfimaaGreat
open Go.Sj Go.Sj.Typ Go.Sj.Sta Go.Sj.Inc
set_option maxRecDepth 8000
set_option maxHeartbeats 16000000
def srtL (l : List Mo) : List Mo := (Sort.sort ltM l.toArray).toList
theorem allB_of {l : List Mo} (hl : l.length ≤ 1000000) (hb : ∀ x ∈ l, MoB x) : AllB l.toArray := ⟨by simpa using hl, fun i => by
  by_cases h : i < l.toArray.size
  · rw [get_pos _ h]
    exact hb _ (by simp)
  · rw [get_neg _ h]
    exact ⟨Nat.zero_le _, Nat.zero_le _⟩⟩
theorem srtL_perm (l : List Mo) : (srtL l).Perm l := by
  have h := (Sort.sort_sorts ltM swo_ltM l.toArray).1
  have h3 := h.2.2
  have e1 : ∀ a : Array Mo, a.size = l.toArray.size → (a.extract 0 l.toArray.size).toList = a.toList := fun a ha => by rw [← ha]; simp
  rw [e1 _ h.1, e1 _ rfl] at h3
  exact h3
theorem sortL_spec (l : List Mo) (hl : l.length ≤ 1000000) (hb : ∀ x ∈ l, MoB x) (v : Value) :
    ACalls Tryz.prog 43 [.lit v, .fn (.func 44) [] []] [(v, .row 88 2 (l.map cMo))] (fun y M => y = .tup [] ∧ M = [(v, .row 88 2 ((srtL l).map cMo))]) :=
  sortF_spec l.toArray (allB_of hl hb) v
def hasB (edge : Bool) (i : Int) (x : Mo) : Bool := if edge = true then hasE i x else hasN i x
section
variable {t : Tys} {p g : Gr} {edge inj : Bool}
end
end Go.Proofs.YtimfponihbfimaaGreat
end
section
namespace Go.Proofs.YtimfponihbfimaaGreat
open Go.Sj Go.Sj.Typ Go.Sj.Sta Go.Sj.Inc Go.Sj.Pln
set_option maxRecDepth 8000
set_option maxHeartbeats 16000000
theorem fm_succ {A : Type} (f : Nat → Option A) (n : Nat) : (List.range (n + 1)).filterMap f = (List.range n).filterMap f ++ (f n).toList := by
  rw [List.range_succ, List.filterMap_append]
  congr 1
theorem fm_len {A : Type} (f : Nat → Option A) : ∀ n, ((List.range n).filterMap f).length ≤ n
  | 0 => by simp
  | n + 1 => by
    rw [fm_succ, List.length_append]
    have := fm_len f n
    cases f n <;> simp <;> omega
theorem mo_cell (l : List Mo) : (l.map cMo).all (fun e => e.all AV.cell) = true := List.all_eq_true.2 fun x hx => by
  obtain ⟨a, _, rfl⟩ := List.mem_map.1 hx; rfl
theorem extend_spec (t : Tys) (ht : Small t) (p g : Gr) (hc : CaseOk t p g) (inj : Bool) (m : Mo) (hm : MoL p m) (o : Opn) (ho : (o.kind = 1 ∧ 0 ≤ o.el ∧ o.el < p.nodes.length) ∨ (o.kind ≠ 1 ∧ 0 ≤ o.el ∧ o.el < p.edges.length)) :
    Pure Tryz.prog 42 [rnA t p g inj, maA m, .agg (cOp o)] (mosA (extM (seaA t p g inj) m o)) := by
  have hpn := hc.gp.nl
  have hpe := hc.gp.el
  have hgn := hc.gg.nl
  have hge := hc.gg.el
  obtain ⟨hm1, hm2⟩ := hm
  have sN := fun i n hi hn => rnode_spec t ht p g hc inj m (by omega) i n hi hn
  have sW := fun (m' : Mo) edge i n h1 h2 h3 h4 => with_spec m' edge i n h1 h2 h3 h4
  have sE := fun (m' : Mo) h1 h2 i n h3 h4 => rend_spec t ht p g hc inj m' h1 h2 i n h3 h4
  have lgn : (rowI g.nodes).length = g.nodes.length := by simp
  have lge : (g.edges.map cEd).length = g.edges.length := by simp
  have lpe : (p.edges.map cEd).length = p.edges.length := by simp
  obtain ⟨kind, el⟩ := o
  simp only at ho
  unfold extM
  simp only
  rcases ho with ⟨rfl, h2⟩ | ⟨h1, h2⟩
  · rw [if_pos rfl]
    have e1 : (seaA t p g inj).g.nodes.length = g.nodes.length := rfl
    rw [e1]
    have hf : ∀ n : Nat, nodM (seaA t p g inj) m el n = if nodB (seaA t p g inj) m el n = true then some (m.1.set el.toNat n, m.2) else none := fun n => rfl
    generalize nodM (seaA t p g inj) m el = f at *
    have hfl := fun n => fm_len f n
    obtain ⟨tn, te⟩ := t
    obtain ⟨pn, pe⟩ := p
    obtain ⟨gn, ge⟩ := g
    obtain ⟨m1, m2⟩ := m
    simp only at *
    change Pure _ _ [.agg [nodsA tn, edgsA te, ints pn, edsA pe, ints gn, edsA ge, AB inj], .agg [ints m1, ints m2], .agg [AI 1, AI el]] _
    refine zen Tryz.func42 (by kernel_rfl) rfl Tryz.ntmps42 rfl (by simp) ?_
    refine a_seq ?_
    refine a_reg ?_
    repeat (first | refine gZ pk ?_ | (show AL _ _ _ _ _ _ _; first | refine jB (fun u => ?_)))
    refine zfb 2 3 rfl rfl ?_
    refine zfb 1 4 rfl rfl ?_
    refine zfb 0 5 rfl rfl ?_
    repeat (first | refine gA pk ?_)
    rw [lgn]
    refine a_loopG3 (fun (i : Nat) (out : List Mo) (v : Value) => [(3, .ip [nodsA tn, edgsA te, ints pn, edsA pe, ints gn, edsA ge, AB inj]), (4, .ip [ints m1, ints m2]), (5, .ip [AI 1, AI el]), (7, .lit v), (20, AI gn.length), (21, AI i)]) (fun i out v => [(v, .row 88 2 (out.map cMo))]) (fun i out _ => i ≤ gn.length ∧ out = (List.range i).filterMap f) (fun i _ _ => gn.length - i) 0 [] (.slice none 0 0) ⟨Nat.zero_le _, rfl⟩ (.sub (by exact subQ) (.free (OSub.none _))) ?_
    rintro i out v ⟨hi, hout⟩
    have lo : (out.map cMo).length = out.length := by simp
    have hol : out.length ≤ i := by rw [hout]; exact hfl i
    rcases Nat.lt_or_ge i gn.length with h | h
    · have s1 := sN el i h2 ⟨by omega, by omega⟩
      have s2 := sW (m1, m2) false el i (by simp only; omega) (by simp only; omega) h2.1 (by simp only [Bool.false_eq_true, if_false]; omega)
      simp only [Bool.false_eq_true, if_false] at s2
      have hnext := fm_succ f i
      rw [hf, ← hout] at hnext
      generalize nodB _ _ _ _ = b at *
      cases b
      · simp only [Bool.false_eq_true, if_false, Option.toList, List.append_nil] at hnext
        repeat (first | refine gA pk ?_ | (show AL _ _ _ _ _ _ _; first | refine jP s1 ?_))
        exact ⟨i + 1, out, v, ⟨by omega, hnext.symm⟩, by omega, .sub (by exact subQ) (OSub.refl _)⟩
      · simp only [if_true, Option.toList] at hnext
        have hrow : (out ++ [(m1.set el.toNat (i : Int), m2)]).map cMo = out.map cMo ++ [[ints (m1.set el.toNat (i : Int)), ints m2]] := by rw [List.map_append]; rfl
        repeat (first | refine gA pk ?_ | (show AL _ _ _ _ _ _ _; first | refine jP s1 ?_ | refine jP s2 ?_))
        (first | refine s_build1 tok rfl rfl rfl rfl rfl rfl rfl rfl (fun u => ?_) | refine s_build1M tok rfl rfl rfl rfl rfl rfl rfl (fun u => ?_) | refine zba tok rfl rfl rfl rfl rfl rfl rfl rfl (by decide) (fun u => ?_)); refine s_append1 tok 0 rfl rfl rfl rfl rfl rfl (by decide) rfl rfl rfl rfl (by omega) (by omega) (fun w => ?_)
        repeat (first | refine gA pk ?_)
        exact ⟨i + 1, _, w, ⟨by omega, hnext.symm⟩, by omega, .sub (by exact subQ) (by rw [hrow]; exact OSub.refl _)⟩
    · obtain rfl : i = gn.length := by omega
      subst hout
      refine a_frz 0 7 rfl rfl ?_
      repeat (first | refine gA pk ?_)
      refine finQ ?_
      exact ⟨rfl, rfl⟩
  · rw [if_neg h1]
    have e1 : (seaA t p g inj).g.edges.length = g.edges.length := rfl
    rw [e1]
    have hx := List.getElem?_eq_getElem (l := p.edges) (i := el.toNat) (by omega)
    have hxe := (edP_in hc.gp h2)
    have hxp : edP p el = p.edges[el.toNat]'(by omega) := by
      unfold edP
      rw [List.getD_eq_getElem?_getD, hx]
      rfl
    generalize p.edges[el.toNat]'(by omega) = x at hx hxp
    rw [hxp] at hxe
    have hye : ∀ n : Nat, n < g.edges.length → (0 ≤ (edP g n).fr ∧ (edP g n).fr < g.nodes.length) ∧ (0 ≤ (edP g n).to ∧ (edP g n).to < g.nodes.length) := fun n hn => edP_in hc.gg ⟨by omega, by omega⟩
    have hyg : ∀ n : Nat, n < g.edges.length → g.edges[n]? = some (edP g n) := fun n hn => by rw [edP_get hn, List.getElem?_eq_getElem hn]
    have hf : ∀ n : Nat, edgM (seaA t p g inj) m el n = if (edP g n).ty ≠ x.ty ∨ (inj = true ∧ (n : Int) ∈ m.2) then none
      else (if (endV (seaA t p g inj) m x.fr (edP g n).fr).2 = true then (if (endV (seaA t p g inj) (endV (seaA t p g inj) m x.fr (edP g n).fr).1 x.to (edP g n).to).2 = true then some ((endV (seaA t p g inj) (endV (seaA t p g inj) m x.fr (edP g n).fr).1 x.to (edP g n).to).1.1, (endV (seaA t p g inj) (endV (seaA t p g inj) m x.fr (edP g n).fr).1 x.to (edP g n).to).1.2.set el.toNat (n : Int)) else none) else none) := fun n => by
      show (if (edP g n).ty ≠ (edP p el).ty ∨ (inj = true ∧ (n : Int) ∈ m.2) then none else (endM (seaA t p g inj) m (edP p el).fr (edP g n).fr).bind fun m1 => (endM (seaA t p g inj) m1 (edP p el).to (edP g n).to).map fun m2 => (m2.1, m2.2.set el.toNat (n : Int))) = _
      rw [hxp]
      split
      · rfl
      · rw [endM_V]
        split
        · rw [Option.bind_some, endM_V]
          split
          · rfl
          · rfl
        · rfl
    have hel := fun (m' : Mo) i n => endV_len (seaA t p g inj) m' i n
    have sC := fun (n : Nat) => ContainsV_spec m.2 (by omega) (n : Int)
    generalize edgM (seaA t p g inj) m el = f at *
    generalize endV (seaA t p g inj) = ev' at *
    have hfl := fun n => fm_len f n
    obtain ⟨xt, xf, xo⟩ := x
    have xk : (p.edges.map cEd)[el.toNat]? = some [AI xt, AI xf, AI xo] := zmp (f := cEd) hx
    obtain ⟨tn, te⟩ := t
    obtain ⟨pn, pe⟩ := p
    obtain ⟨gn, ge⟩ := g
    obtain ⟨m1, m2⟩ := m
    simp only at *
    clear hxp hx hc sN
    change Pure _ _ [.agg [nodsA tn, edgsA te, ints pn, edsA pe, ints gn, edsA ge, AB inj], .agg [ints m1, ints m2], .agg [AI kind, AI el]] _
    refine zen Tryz.func42 (by kernel_rfl) rfl Tryz.ntmps42 rfl (by simp) ?_
    refine a_seq ?_
    refine a_reg ?_
    repeat (first | refine gZ pk ?_ | (show AL _ _ _ _ _ _ _; first | refine jB (fun u => ?_)))
    refine zfb 2 3 rfl rfl ?_
    refine zfb 1 4 rfl rfl ?_
    refine zfb 0 5 rfl rfl ?_
    repeat (first | refine gA pk ?_ | (show AL _ _ _ _ _ _ _; first | refine jX tok xk ?_ | refine jL tok (fun ux => ?_) | refine jS tok 0 ?_))
    rw [lge]
    refine zfb 0 9 rfl rfl ?_
    refine a_loopG3 (fun (i : Nat) (out : List Mo) (v : Value) => [(3, .ip [nodsA tn, edgsA te, ints pn, edsA pe, ints gn, edsA ge, AB inj]), (4, .ip [ints m1, ints m2]), (5, .ip [AI kind, AI el]), (7, .lit v), (9, .ip [AI xt, AI xf, AI xo]), (49, edsA ge), (50, AI ge.length), (51, AI i)]) (fun i out v => [(v, .row 88 2 (out.map cMo))]) (fun i out _ => i ≤ ge.length ∧ out = (List.range i).filterMap f) (fun i _ _ => ge.length - i) 0 [] (.slice none 0 0) ⟨Nat.zero_le _, rfl⟩ (.sub (by exact subQ) (.free (OSub.none _))) ?_
    rintro i out v ⟨hi, hout⟩
    have lo : (out.map cMo).length = out.length := by simp
    have hol : out.length ≤ i := by rw [hout]; exact hfl i
    rcases Nat.lt_or_ge i ge.length with h | h
    · have hy := hye i h
      have hyk := hyg i h
      have hnext := fm_succ f i
      rw [hf, ← hout] at hnext
      generalize edP ⟨gn, ge⟩ (i : Int) = y at *
      obtain ⟨yt, yf, yo⟩ := y
      simp only at hy hnext
      have yk : (ge.map cEd)[(i : Int).toNat]? = some [AI yt, AI yf, AI yo] := zmp (f := cEd) hyk
      have s3 := sC i
      by_cases ht1 : yt = xt
      rotate_left
      · rw [if_pos (.inl ht1)] at hnext
        simp only [Option.toList, List.append_nil] at hnext
        repeat (first | refine gA pk ?_ | (show AL _ _ _ _ _ _ _; first | refine jX tok yk ?_ | refine jL tok (fun uy => ?_) | refine jS tok 0 ?_ | refine jO tok 0 ?_))
        exact ⟨i + 1, out, v, ⟨by omega, hnext.symm⟩, by omega, .sub (by exact subQ) (.drop (OSub.refl _))⟩
      subst ht1
      by_cases hmem : inj = true ∧ (i : Int) ∈ m2
      · obtain ⟨rfl, hmem⟩ := hmem
        rw [if_pos (.inr ⟨rfl, hmem⟩)] at hnext
        simp only [Option.toList, List.append_nil] at hnext
        rw [decide_eq_true hmem] at s3
        repeat (first | refine gA pk ?_ | (show AL _ _ _ _ _ _ _; first | refine jX tok yk ?_ | refine jL tok (fun uy => ?_) | refine jS tok 0 ?_ | refine jO tok 0 ?_ | refine jP s3 ?_))
        exact ⟨i + 1, out, v, ⟨by omega, hnext.symm⟩, by omega, .sub (by exact subQ) (.drop (OSub.refl _))⟩
      rw [if_neg (fun hh => hh.elim (fun h => h rfl) hmem)] at hnext
      have s4 := sE (m1, m2) hm1 (by simp only; omega) xf yf hxe.1 hy.1
      have hl4 := hel (m1, m2) xf yf
      generalize ev' (m1, m2) xf yf = r1 at *
      obtain ⟨⟨q1, q2⟩, b1⟩ := r1
      simp only at hl4 hnext s4
      have s5 := sE (q1, q2) (by simp only; omega) (by show q2.length ≤ 1000; rw [hl4.2]; omega) xo yo hxe.2 hy.2
      have hl5 := hel (q1, q2) xo yo
      generalize ev' (q1, q2) xo yo = r2 at *
      obtain ⟨⟨w1, w2⟩, b2⟩ := r2
      simp only at hl5 hnext s5
      have s6 := sW (w1, w2) true el i (by simp only; omega) (by simp only; rw [hl5.2, hl4.2]; omega) h2.1 (by simp only [if_true]; rw [hl5.2, hl4.2]; omega)
      simp only [if_true] at s6
      have hij : inj = false ∨ (inj = true ∧ (i : Int) ∉ m2) := by
        cases inj
        · exact .inl rfl
        · exact .inr ⟨rfl, fun h => hmem ⟨rfl, h⟩⟩
      have hrow : (out ++ [(w1, w2.set el.toNat (i : Int))]).map cMo = out.map cMo ++ [[ints w1, ints (w2.set el.toNat (i : Int))]] := by rw [List.map_append]; rfl
      rcases hij with rfl | ⟨rfl, hnm⟩
      rotate_left
      · rw [decide_eq_false hnm] at s3
        cases b1
        · simp only [Bool.false_eq_true, if_false, Option.toList, List.append_nil] at hnext
          repeat (first | refine gA pk ?_ | (show AL _ _ _ _ _ _ _; first | refine jX tok yk ?_ | refine jL tok (fun uy => ?_) | refine jS tok 0 ?_ | refine jO tok 0 ?_ | refine jP s3 ?_ | refine jP s4 ?_))
          exact ⟨i + 1, out, v, ⟨by omega, hnext.symm⟩, by omega, .sub (by exact subQ) (.drop (.drop (OSub.refl _)))⟩
        · cases b2
          · simp only [Bool.false_eq_true, if_false, if_true, Option.toList, List.append_nil] at hnext
            repeat (first | refine gA pk ?_ | (show AL _ _ _ _ _ _ _; first | refine jX tok yk ?_ | refine jL tok (fun uy => ?_) | refine jS tok 0 ?_ | refine jO tok 0 ?_ | refine jO tok 1 ?_ | refine jP s3 ?_ | refine jP s4 ?_ | refine jP s5 ?_))
            exact ⟨i + 1, out, v, ⟨by omega, hnext.symm⟩, by omega, .sub (by exact subQ) (.drop (.drop (OSub.refl _)))⟩
          · simp only [if_true, Option.toList] at hnext
            repeat (first | refine gA pk ?_ | (show AL _ _ _ _ _ _ _; first | refine jX tok yk ?_ | refine jL tok (fun uy => ?_) | refine jS tok 0 ?_ | refine jO tok 0 ?_ | refine jO tok 1 ?_ | refine jP s3 ?_ | refine jP s4 ?_ | refine jP s5 ?_ | refine jP s6 ?_))
            (first | refine s_build1 tok rfl rfl rfl rfl rfl rfl rfl rfl (fun u => ?_) | refine s_build1M tok rfl rfl rfl rfl rfl rfl rfl (fun u => ?_) | refine zba tok rfl rfl rfl rfl rfl rfl rfl rfl (by decide) (fun u => ?_)); refine s_append1 tok 2 rfl rfl rfl rfl rfl rfl (by decide) rfl rfl rfl rfl (by omega) (by omega) (fun w => ?_)
            repeat (first | refine gA pk ?_)
            exact ⟨i + 1, _, w, ⟨by omega, hnext.symm⟩, by omega, .sub (by exact subQ) (by rw [hrow]; exact .drop (.drop (OSub.refl _)))⟩
      · clear s3
        cases b1
        · simp only [Bool.false_eq_true, if_false, Option.toList, List.append_nil] at hnext
          repeat (first | refine gA pk ?_ | (show AL _ _ _ _ _ _ _; first | refine jX tok yk ?_ | refine jL tok (fun uy => ?_) | refine jS tok 0 ?_ | refine jO tok 0 ?_ | refine jP s4 ?_))
          exact ⟨i + 1, out, v, ⟨by omega, hnext.symm⟩, by omega, .sub (by exact subQ) (.drop (.drop (OSub.refl _)))⟩
        · cases b2
          · simp only [Bool.false_eq_true, if_false, if_true, Option.toList, List.append_nil] at hnext
            repeat (first | refine gA pk ?_ | (show AL _ _ _ _ _ _ _; first | refine jX tok yk ?_ | refine jL tok (fun uy => ?_) | refine jS tok 0 ?_ | refine jO tok 0 ?_ | refine jO tok 1 ?_ | refine jP s4 ?_ | refine jP s5 ?_))
            exact ⟨i + 1, out, v, ⟨by omega, hnext.symm⟩, by omega, .sub (by exact subQ) (.drop (.drop (OSub.refl _)))⟩
          · simp only [if_true, Option.toList] at hnext
            repeat (first | refine gA pk ?_ | (show AL _ _ _ _ _ _ _; first | refine jX tok yk ?_ | refine jL tok (fun uy => ?_) | refine jS tok 0 ?_ | refine jO tok 0 ?_ | refine jO tok 1 ?_ | refine jP s4 ?_ | refine jP s5 ?_ | refine jP s6 ?_))
            (first | refine s_build1 tok rfl rfl rfl rfl rfl rfl rfl rfl (fun u => ?_) | refine s_build1M tok rfl rfl rfl rfl rfl rfl rfl (fun u => ?_) | refine zba tok rfl rfl rfl rfl rfl rfl rfl rfl (by decide) (fun u => ?_)); refine s_append1 tok 2 rfl rfl rfl rfl rfl rfl (by decide) rfl rfl rfl rfl (by omega) (by omega) (fun w => ?_)
            repeat (first | refine gA pk ?_)
            exact ⟨i + 1, _, w, ⟨by omega, hnext.symm⟩, by omega, .sub (by exact subQ) (by rw [hrow]; exact .drop (.drop (OSub.refl _)))⟩
    · obtain rfl : i = ge.length := by omega
      subst hout
      refine a_frz 0 7 rfl rfl ?_
      repeat (first | refine gA pk ?_)
      refine finQ ?_
      exact ⟨rfl, rfl⟩
end Go.Proofs.YtimfponihbfimaaGreat
end
