/- Parts of a proof. -/
import Derived.Test.YtimfponihbfimaaGreatP41
set_option linter.unusedVariables false
set_option linter.unusedSimpArgs false
section
namespace Go.Proofs.YtimfponihbfimaaGreat
open Go.Sj Go.Sj.Typ Go.Sj.Sta Go.Sj.Inc Go.Sj.Pln
set_option maxRecDepth 8000
set_option maxHeartbeats 16000000
def firstR (t : Tys) (p g : Gr) (inj : Bool) : Mo × Int := if validS t p g ≠ 0 then (([], []), validS t p g) else match matL (seaA t p g inj) with
  | [] => (([], []), 10)
  | m :: _ => (m, 0)
theorem first_spec (t : Tys) (ht : Small t) (p g : Gr) (hp : OkG p) (hg : OkG g) (inj : Bool) :
    Pure Tryz.prog 39 [tysA t, grA p, grA g, AB inj] (.tup [maA (firstR t p g inj).1, AI (firstR t p g inj).2]) := by
  have s1 := svalid_spec t ht p g hp hg
  unfold firstR
  have hz : SubL [nilS, nilS] [ints ([] : List Int), ints ([] : List Int)] := ⟨Sub.nil 1, Sub.nil 1, trivial⟩
  by_cases h : validS t p g = 0
  rotate_left
  · rw [if_pos h]
    generalize validS t p g = e at *
    obtain ⟨tn, te⟩ := t
    obtain ⟨pn, pe⟩ := p
    obtain ⟨gn, ge⟩ := g
    refine a_enterM (rs := [.cell 8 88, .tmp 9]) tok Tryz.func39 (by kernel_rfl) rfl Tryz.ntmps39 rfl (by decide) (by simp) ?_
    refine a_seq ?_
    refine a_reg ?_
    repeat (first | refine gZ pk ?_ | (show AL _ _ _ _ _ _ _; first | refine jB (fun u => ?_) | refine jL tok (fun U8 => ?_)))
    refine zfb 3 4 rfl rfl ?_
    refine zfb 2 5 rfl rfl ?_
    refine zfb 1 6 rfl rfl ?_
    repeat (first | refine gV pk ?_ | (show AL _ _ _ _ _ _ _; first | refine jP s1 ?_ | refine jS tok 0 ?_))
    refine zfb 0 8 rfl rfl ?_
    refine a_ret ?_
    exact ⟨.inr rfl, _, _, [], rfl, Turn.of (Sub.tup (l := [.agg [nilS, nilS], AI e]) (m := [maA ([], []), AI e]) ⟨Sub.agg hz, Sub.refl _, trivial⟩) (OSub.none _), rfl, rfl⟩
  rw [if_neg (Decidable.not_not.2 h)]
  rw [h] at s1
  have s2 := found_spec t ht (zvz h).1 (seaA t p g inj) (seaA_ok inj h) 1 (by omega)
  change Pure _ _ [tysA t, grA p, grA g, .agg [nilS, nilS], AB inj, AI 1] _ at s2
  generalize matL (seaA t p g inj) = l at *
  obtain ⟨tn, te⟩ := t
  obtain ⟨pn, pe⟩ := p
  obtain ⟨gn, ge⟩ := g
  cases l with
  | nil =>
    change Pure _ _ _ (mosA []) at s2
    refine a_enterM (rs := [.cell 8 88, .tmp 9]) tok Tryz.func39 (by kernel_rfl) rfl Tryz.ntmps39 rfl (by decide) (by simp) ?_
    refine a_seq ?_
    refine a_reg ?_
    repeat (first | refine gZ pk ?_ | (show AL _ _ _ _ _ _ _; first | refine jB (fun u => ?_) | refine jL tok (fun U8 => ?_)))
    refine zfb 3 4 rfl rfl ?_
    refine zfb 2 5 rfl rfl ?_
    refine zfb 1 6 rfl rfl ?_
    repeat (first | refine gV pk ?_ | (show AL _ _ _ _ _ _ _; first | refine jP s1 ?_ | refine jP s2 ?_ | refine jS tok 0 ?_))
    refine zfb 0 8 rfl rfl ?_
    refine a_ret ?_
    exact ⟨.inr rfl, _, _, [], rfl, Turn.of (Sub.tup (l := [.agg [nilS, nilS], AI 10]) (m := [maA ([], []), AI 10]) ⟨Sub.agg hz, Sub.refl _, trivial⟩) (OSub.none _), rfl, rfl⟩
  | cons m l =>
    have e : (m :: l).take 1 = [m] := by simp
    rw [e] at s2
    have xk : ([m].map cMo)[(0 : Int).toNat]? = some [ints m.1, ints m.2] := rfl
    have lk1 : ([m].map cMo).length = 1 := rfl
    refine a_enterM (rs := [.cell 8 88, .tmp 9]) tok Tryz.func39 (by kernel_rfl) rfl Tryz.ntmps39 rfl (by decide) (by simp) ?_
    refine a_seq ?_
    refine a_reg ?_
    repeat (first | refine gZ pk ?_ | (show AL _ _ _ _ _ _ _; first | refine jB (fun u => ?_) | refine jL tok (fun U8 => ?_)))
    refine zfb 3 4 rfl rfl ?_
    refine zfb 2 5 rfl rfl ?_
    refine zfb 1 6 rfl rfl ?_
    repeat (first | refine gV pk ?_ | (show AL _ _ _ _ _ _ _; first | refine jP s1 ?_ | refine jP s2 ?_ | refine jX tok xk ?_ | refine jS tok 0 ?_))
    refine zfb 0 8 rfl rfl ?_
    refine a_ret ?_
    exact ⟨.inr rfl, _, _, [], rfl, Turn.of (Sub.refl _) (OSub.none _), rfl, rfl⟩
def resR : Option (List Mo × List Int) → List Mo × List Int × Int
  | none => ([], [], 3)
  | some r => (srtL r.1, r.2, 0)
def runR (t : Tys) (p g : Gr) (l : List Opn) (inj : Bool) : List Mo × List Int × Int :=
  if validS t p g ≠ 0 then ([], [], validS t p g) else if planE p (kn0 p) l ≠ 0 then ([], [], planE p (kn0 p) l) else resR (runM (extM (seaA t p g inj)) [noMo p] l)
theorem first_err (t : Tys) (p g : Gr) (inj : Bool) : (firstR t p g inj).2 = validS t p g ∨ (validS t p g = 0 ∧ ((firstR t p g inj).2 = 0 ∨ (firstR t p g inj).2 = 10)) := by
  unfold firstR
  split
  · exact .inl rfl
  · rename_i h
    have h := Decidable.not_not.1 h
    split
    · exact .inr ⟨h, .inr rfl⟩
    · exact .inr ⟨h, .inl rfl⟩
theorem firstN_ne {f : Nat → Int} {n : Nat} (h : ∀ i, f i ≠ 10) : firstN f n ≠ 10 := by
  unfold firstN
  split
  · exact h _
  · decide
theorem attAt_ne (l : List Att) (k : Nat) : attAt l k ≠ 10 := by
  unfold attAt
  split
  · unfold attrE
    split
    · decide
    · split
      · decide
      · unfold bodyE
        split
        · unfold namesE
          split
          · decide
          · refine firstN_ne fun i => ?_
            unfold nameAt
            split
            · repeat' split
              all_goals decide
            · decide
        · unfold rangeE
          repeat' split
          all_goals decide
  · decide
theorem nodeE_ne (ns : List Nod) (i : Nat) : nodeE ns i ≠ 10 := by
  unfold nodeE
  split
  · split
    · decide
    · split
      · decide
      · split
        · decide
        · split
          · decide
          · split
            · decide
            · exact firstN_ne fun j => attAt_ne _ _
  · decide
theorem edgeE_ne (t : Tys) (i : Nat) : edgeE t i ≠ 10 := by
  unfold edgeE
  split
  · repeat' split
    all_goals decide
  · decide
theorem validR_ne (t : Tys) : (validR t).2 ≠ 10 := by
  unfold validR
  split
  · exact fun h => absurd h (by decide)
  · split
    · exact fun h => absurd h (by decide)
    · split
      · exact nodeE_ne _ _
      · split
        · exact edgeE_ne _ _
        · exact fun h => absurd h (by decide)
theorem gvalid_ne (g : Gr) : gvalid g ≠ 10 := by
  unfold gvalid
  repeat' split
  all_goals decide
theorem validS_ne (t : Tys) (p g : Gr) : validS t p g ≠ 10 := by
  unfold validS
  split
  · exact validR_ne t
  · split
    · exact gvalid_ne p
    · split
      · exact gvalid_ne g
      · split <;> decide
theorem flat_take_len {A B : Type} (f : A → List B) (l : List A) (j : Nat) : ((l.take j).flatMap f).length ≤ (l.flatMap f).length := by
  conv => rhs; rw [← List.take_append_drop j l, List.flatMap_append, List.length_append]
  omega
theorem flat_succ {A B : Type} (f : A → List B) {l : List A} {j : Nat} {x : A} (h : l[j]? = some x) : (l.take (j + 1)).flatMap f = (l.take j).flatMap f ++ f x := by
  rw [List.take_add_one, h, List.flatMap_append]
  simp
theorem parL {S : Sea} {k : Kn} {m : Mo} (h : Par S k m) : MoL S.p m := ⟨h.n.nl, h.e.el⟩
theorem nil3 {e : Int} : Sub (.tup [nilS, nilS, AI e]) (.tup [mosA [], ints [], AI e]) := Sub.tup (m := [mosA [], ints [], AI e]) ⟨Sub.nil 2, Sub.nil 1, Sub.refl _, trivial⟩
theorem runM_cons (ext : Mo → Opn → List Mo) (now : List Mo) (o : Opn) (l : List Opn) : runM ext now (o :: l) = if 5000 < (now.flatMap fun m => ext m o).length then none else (runM ext (now.flatMap fun m => ext m o) l).map fun r => (r.1, ((now.flatMap fun m => ext m o).length : Int) :: r.2) := rfl
theorem prun_spec (t : Tys) (ht : Small t) (p g : Gr) (hp : OkG p) (hg : OkG g) (l : List Opn) (hl : l.length ≤ 1000) (inj : Bool) :
    Pure Tryz.prog 13 [tysA t, grA p, grA g, opsA l, AB inj] (.tup [mosA (runR t p g l inj).1, ints (runR t p g l inj).2.1, AI (runR t p g l inj).2.2]) := by
  have s1 := first_spec t ht p g hp hg inj
  have he1 := first_err t p g inj
  generalize firstR t p g inj = fr at *
  obtain ⟨⟨f1, f2⟩, fe⟩ := fr
  simp only at he1 s1
  unfold runR
  by_cases hv : validS t p g = 0
  rotate_left
  · rw [if_pos hv]
    have hfe : fe = validS t p g := by
      rcases he1 with h | ⟨h, _⟩
      · exact h
      · exact absurd h hv
    have hne := validS_ne t p g
    rw [← hfe] at hv hne ⊢
    clear hfe he1
    obtain ⟨tn, te⟩ := t
    obtain ⟨pn, pe⟩ := p
    obtain ⟨gn, ge⟩ := g
    refine zen Tryz.func13 (by kernel_rfl) rfl Tryz.ntmps13 rfl (by simp) ?_
    refine a_seq ?_
    refine a_reg ?_
    repeat (first | refine gZ pk ?_ | (show AL _ _ _ _ _ _ _; first | refine jB (fun u => ?_)))
    refine zfb 2 5 rfl rfl ?_
    refine zfb 1 6 rfl rfl ?_
    refine zfb 0 7 rfl rfl ?_
    repeat (first | refine gA pk ?_ | (show AL _ _ _ _ _ _ _; first | refine jP s1 ?_ | refine jL tok (fun uq => ?_) | refine jS tok 0 ?_))
    exact fin (x := .tup [nilS, nilS, AI fe]) (.inr rfl) rfl nil3 ⟨rfl, rfl⟩ (OSub.none _)
  rw [if_neg (Decidable.not_not.2 hv)]
  have hfe : fe = 0 ∨ fe = 10 := by
    rcases he1 with h | ⟨_, h⟩
    · exact .inl (h.trans hv)
    · exact h
  clear he1
  have hc := caseOk hv
  have hpn := hc.gp.nl
  have hpe := hc.gp.el
  have s2 := planned_spec p hc.gp l hl
  by_cases h2 : planE p (kn0 p) l = 0
  rotate_left
  · rw [if_pos h2]
    generalize planE p (kn0 p) l = c at *
    obtain ⟨tn, te⟩ := t
    obtain ⟨pn, pe⟩ := p
    obtain ⟨gn, ge⟩ := g
    rcases hfe with rfl | rfl
    all_goals
      refine zen Tryz.func13 (by kernel_rfl) rfl Tryz.ntmps13 rfl (by simp) ?_
      refine a_seq ?_
      refine a_reg ?_
      repeat (first | refine gZ pk ?_ | (show AL _ _ _ _ _ _ _; first | refine jB (fun u => ?_)))
      refine zfb 2 5 rfl rfl ?_
      refine zfb 1 6 rfl rfl ?_
      refine zfb 0 7 rfl rfl ?_
      repeat (first | refine gA pk ?_ | (show AL _ _ _ _ _ _ _; first | refine jP s1 ?_ | refine jL tok (fun uq => ?_) | refine jS tok 0 ?_ | refine jP s2 ?_))
      exact fin (x := .tup [nilS, nilS, AI c]) (.inr rfl) rfl nil3 ⟨rfl, rfl⟩ (OSub.none _)
  rw [if_neg (Decidable.not_not.2 h2)]
  rw [h2] at s2
  have sx := fun m hm o ho => extend_spec t ht p g hc inj m hm o ho
  have hgn := hc.gg.nl
  have hge := hc.gg.el
  have hxl : ∀ m o, (extM (seaA t p g inj) m o).length ≤ 80 := fun m o => by
    unfold extM
    split
    · exact Nat.le_trans (fm_len _ _) (by show g.nodes.length ≤ 80; omega)
    · exact Nat.le_trans (fm_len _ _) (by show g.edges.length ≤ 80; omega)
  have hpar := fun k hk m hm o ho m' hm' => ext_par (S := seaA t p g inj) hc.gp hc.gg (k := k) hk (m := m) hm (o := o) ho (m' := m') hm'
  have hp0 := par_0 (seaA t p g inj)
  have hpl : ∀ {k m}, Par (seaA t p g inj) k m → MoL p m := fun h => parL h
  have ll : (l.map cOp).length = l.length := by simp
  have lpn : (rowI p.nodes).length = p.nodes.length := by simp
  have lpe : (p.edges.map cEd).length = p.edges.length := by simp
  have r1 : Pure Tryz.prog 41 [ints [-1], AI (rowI p.nodes).length] (ints (noneL p.nodes.length)) := by rw [lpn]; exact (Repeat_spec (-1) p.nodes.length (by omega)).pure
  have r2 : Pure Tryz.prog 41 [ints [-1], AI (p.edges.map cEd).length] (ints (noneL p.edges.length)) := by rw [lpe]; exact (Repeat_spec (-1) p.edges.length (by omega)).pure
  obtain ⟨R, hR⟩ : ∃ R, runM (extM (seaA t p g inj)) [noMo p] l = R := ⟨_, rfl⟩
  rw [hR]
  have hS : (seaA t p g inj).p = p := rfl
  generalize extM (seaA t p g inj) = ext at *
  generalize hSS : seaA t p g inj = S at *
  obtain ⟨tn, te⟩ := t
  obtain ⟨pn, pe⟩ := p
  obtain ⟨gn, ge⟩ := g
  simp only at *
  clear hc hv hSS hgn hge
  change Pure _ _ [.agg [nodsA tn, edgsA te], .agg [ints pn, edsA pe], .agg [ints gn, edsA ge], opsA l, AB inj] _
  rcases hfe with rfl | rfl
  all_goals
    refine zen Tryz.func13 (by kernel_rfl) rfl Tryz.ntmps13 rfl (by simp) ?_
    refine a_seq ?_
    refine a_reg ?_
    repeat (first | refine gZ pk ?_ | (show AL _ _ _ _ _ _ _; first | refine jB (fun u => ?_)))
    refine zfb 2 5 rfl rfl ?_
    refine zfb 1 6 rfl rfl ?_
    refine zfb 0 7 rfl rfl ?_
    repeat (first | refine gN pk ?_ | (show AL _ _ _ _ _ _ _; first | refine jP s1 ?_ | refine jL tok (fun uq => ?_) | refine jS tok 0 ?_ | refine jP s2 ?_))
    refine zfb 0 16 rfl rfl ?_
    refine AWp.mono (Q := fun e st L => e = .normal ∧ ∃ vf, GoTo 95 st L (lk [(3, opsA l), (16, .ip [nodsA tn, edgsA te, ints pn, edsA pe, ints gn, edsA ge, AB inj]), (17, .lit vf)]) [(vf, OB.row 88 2 ([noMo ⟨pn, pe⟩].map cMo))]) ?_ (fun e st L h => ?_)
    · refine zrg ((List.range 13).map fun i => if inL [0, 4, 5, 9, 11] i = true then .eff else if inL [2, 3, 7, 8] i = true then .read else .pure) [0, 4, 5] [1, 2, 3, 6, 7, 8] (.nd 0 [] (.nd 4 [] (.nd 5 [9, 10, 11, 12] .stop .stop) (.nd 5 [] (.nd 4 [9, 10, 11, 12] .stop .stop) .stop)) (.nd 5 [] (.nd 0 [] (.nd 4 [9, 10, 11, 12] .stop .stop) .stop) .stop)) mixed rfl rfl (by decide +kernel) ?_
      repeat' (first | (with_reducible show AG _ _ _ _ _ _ _ _ _ _; first | exact zgn | refine zgs ?_ | refine znd ?_ ?_) | (show AMid _ _ _ _; first | refine zmf ?_ | refine zmg (by first | exact OSub.refl _ | exact .drop (OSub.refl _) | exact .drop (.drop (OSub.refl _))) ?_) | refine gY pk ?_ | (show AL _ _ _ _ _ _ _; first | refine jP r1 ?_ | refine jP r2 ?_ | refine zba tok rfl rfl rfl rfl rfl rfl rfl rfl (by decide) (fun lv => ?_) | refine s_frzNow 0 rfl rfl rfl (s_build tok rfl rfl rfl rfl rfl rfl rfl rfl (by decide) (by decide) (fun v => AL.nil ⟨v, rfl, rfl, rfl⟩)) ?_) | fail)
      all_goals exact ⟨rfl, _, .sub (by exact subQ) (.keep (OSub.none _))⟩
    obtain ⟨rfl, vf, h⟩ := h
    refine zgt h ?_
    clear h
    repeat (first | refine gA pk ?_)
    rw [ll]
    refine a_loopG3 (fun (i : Nat) (z : List Mo × List Int) (vv : Value × Value) => [(16, .ip [nodsA tn, edgsA te, ints pn, edsA pe, ints gn, edsA ge, AB inj]), (17, .lit vv.1), (18, .lit vv.2), (62, opsA l), (63, AI l.length), (64, AI i)]) (fun i z vv => [(vv.1, OB.row 88 2 (z.1.map cMo)), (vv.2, OB.row 3 1 (rowI z.2))]) (fun i z _ => i ≤ l.length ∧ z.1.length ≤ 5000 ∧ z.2.length = i ∧ R = (runM ext z.1 (l.drop i)).map (fun r => (r.1, z.2 ++ r.2)) ∧ ∃ k, KnOk ⟨pn, pe⟩ k ∧ (∀ m ∈ z.1, Par S k m) ∧ planE ⟨pn, pe⟩ k (l.drop i) = 0) (fun i _ _ => l.length - i) 0 ([noMo ⟨pn, pe⟩], []) (vf, .slice none 0 0) ⟨Nat.zero_le _, by simp, rfl, by
        rw [← hR, List.drop_zero]
        show _ = (runM ext [noMo ⟨pn, pe⟩] l).map fun r => (r.1, [] ++ r.2)
        simp, kn0 ⟨pn, pe⟩, kn0_ok _, fun m hm => by
        rw [List.mem_singleton] at hm
        subst hm
        have := hp0
        rw [hS] at this
        exact this, h2⟩ (.sub (by exact subQ) (.keep (.free .nil))) ?_
    rintro i ⟨now, cs⟩ ⟨v1, v2⟩ ⟨hi, hnl, hcl, he, k, hk, hpr, hplan⟩
    simp only at hnl hcl he hpr
    have lnow : (now.map cMo).length = now.length := by simp
    have lcs : (rowI cs).length = i := by rw [List.length_map]; exact hcl
    rcases Nat.lt_or_ge i l.length with h | h
    · have hx := List.getElem?_eq_getElem h
      rw [List.drop_eq_getElem_cons h] at he hplan
      generalize l[i] = o at *
      have xk : (l.map cOp)[(i : Int).toNat]? = some [AI o.kind, AI o.el] := zmp (f := cOp) hx
      rw [show planE ⟨pn, pe⟩ k (o :: l.drop (i + 1)) = if opE ⟨pn, pe⟩ k o ≠ 0 then opE ⟨pn, pe⟩ k o else planE ⟨pn, pe⟩ (aftK ⟨pn, pe⟩ k o) (l.drop (i + 1)) from rfl] at hplan
      have hop : opE ⟨pn, pe⟩ k o = 0 := by
        by_cases hh : opE ⟨pn, pe⟩ k o = 0
        · exact hh
        · rw [if_pos hh] at hplan; exact absurd hplan hh
      rw [if_neg (Decidable.not_not.2 hop)] at hplan
      rw [runM_cons] at he
      have hoo : (o.kind = 1 ∧ 0 ≤ o.el ∧ o.el < pn.length) ∨ (o.kind ≠ 1 ∧ 0 ≤ o.el ∧ o.el < pe.length) := by
        rcases opE_zero hop with ⟨a, b, _⟩ | ⟨a, b, _⟩
        · exact .inl ⟨a, b⟩
        · exact .inr ⟨by omega, b⟩
      have sx2 := fun m hm => sx m hm o hoo
      have hnx := fun m hm m' hm' => hpar k (by rw [hS]; exact hk) m hm o (by rw [hS]; exact hop) m' hm'
      rw [hS] at hnx
      obtain ⟨ok', oe'⟩ := o
      simp only at xk
      repeat (first | refine gA pk ?_ | (show AL _ _ _ _ _ _ _; first | refine jX tok xk ?_ | refine jL tok (fun uo => ?_) | refine jS tok 0 ?_ | refine zol tok 1 rfl rfl rfl rfl (by decide) rfl rfl rfl ?_))
      refine zfb 0 20 rfl rfl ?_
      refine a_frz 0 68 rfl rfl ?_
      rw [lnow]
      refine a_loopG3 (fun (j : Nat) (nx : List Mo) (v : Value) => [(16, .ip [nodsA tn, edgsA te, ints pn, edsA pe, ints gn, edsA ge, AB inj]), (18, .lit v2), (20, .ip [AI ok', AI oe']), (21, .lit v), (62, opsA l), (63, AI l.length), (64, AI i), (68, mosA now), (69, AI now.length), (70, AI j)]) (fun j nx v => [(v, OB.row 88 2 (nx.map cMo)), (v2, OB.row 3 1 (rowI cs))]) (fun j nx _ => j ≤ now.length ∧ nx = ((now.take j).flatMap fun m => ext m ⟨ok', oe'⟩) ∧ nx.length ≤ 5000) (fun j _ _ => now.length - j) 0 [] (.slice none 0 0) ⟨Nat.zero_le _, by simp, by simp⟩ (.sub (by exact subQ) (.free (.keep .nil))) ?_
      rintro j nx v ⟨hj, hnx2, hnxl⟩
      have lnx : (nx.map cMo).length = nx.length := by simp
      rcases Nat.lt_or_ge j now.length with h3 | h3
      · have hm := List.getElem?_eq_getElem h3
        have hmm := hpr _ (List.getElem_mem h3)
        generalize now[j] = m at hm hmm
        have hml := hpl hmm
        have s3 := sx2 m hml
        have hfs := flat_succ (fun m => ext m ⟨ok', oe'⟩) hm
        try simp only at hfs
        rw [← hnx2] at hfs
        have hle := flat_take_len (fun m => ext m ⟨ok', oe'⟩) now (j + 1)
        rw [hfs] at hle
        have hX := hxl m ⟨ok', oe'⟩
        generalize ext m ⟨ok', oe'⟩ = X at *
        obtain ⟨m1, m2⟩ := m
        have mk : (now.map cMo)[(j : Int).toNat]? = some [ints m1, ints m2] := zmp (f := cMo) hm
        have lX : (X.map cMo).length = X.length := by simp
        have happ : (nx ++ X).map cMo = nx.map cMo ++ X.map cMo := List.map_append
        have lapp : ((nx ++ X).map cMo).length = nx.length + X.length := by simp
        by_cases hbig : 5000 < nx.length + X.length
        · rw [if_pos (by rw [List.length_append] at hle; omega)] at he
          simp only [Option.map_none] at he
          rw [he]
          repeat (first | refine gA pk ?_ | (show AL _ _ _ _ _ _ _; first | refine jX tok mk ?_ | refine jL tok (fun um => ?_) | refine jS tok 0 ?_ | refine jO tok 0 ?_ | refine jP s3 ?_ | refine s_appendIm tok 1 rfl rfl rfl rfl rfl rfl (by decide) rfl rfl rfl rfl (mo_cell _) (by simp only [List.length_map]; omega) (by simp only [List.length_map]; omega) (fun w => ?_) | (rw [← happ]; refine zol tok 1 rfl rfl rfl rfl (by decide) rfl rfl rfl ?_)))
          exact fin (x := .tup [nilS, nilS, AI 3]) (.inr rfl) rfl nil3 ⟨rfl, rfl⟩ (OSub.none _)
        · repeat (first | refine gA pk ?_ | (show AL _ _ _ _ _ _ _; first | refine jX tok mk ?_ | refine jL tok (fun um => ?_) | refine jS tok 0 ?_ | refine jO tok 0 ?_ | refine jP s3 ?_ | refine s_appendIm tok 1 rfl rfl rfl rfl rfl rfl (by decide) rfl rfl rfl rfl (mo_cell _) (by simp only [List.length_map]; omega) (by simp only [List.length_map]; omega) (fun w => ?_) | (rw [← happ]; refine zol tok 1 rfl rfl rfl rfl (by decide) rfl rfl rfl ?_)))
          exact ⟨j + 1, nx ++ X, _, ⟨by omega, hfs.symm, by rw [List.length_append]; omega⟩, by omega, .sub (by exact subQ) (.drop (OSub.refl _))⟩
      · obtain rfl : j = now.length := by omega
        rw [List.take_length] at hnx2
        rw [← hnx2, if_neg (by omega)] at he
        have hrow : rowI (cs ++ [(nx.length : Int)]) = rowI cs ++ [[AI nx.length]] := by simp [cI]
        repeat (first | refine gN pk ?_ | (show AL _ _ _ _ _ _ _; first | refine zol tok 0 rfl rfl rfl rfl (by decide) rfl rfl rfl ?_))
        rw [lnx]
        (first | refine s_build1 tok rfl rfl rfl rfl rfl rfl rfl rfl (fun u => ?_) | refine s_build1M tok rfl rfl rfl rfl rfl rfl rfl (fun u => ?_) | refine zba tok rfl rfl rfl rfl rfl rfl rfl rfl (by decide) (fun u => ?_)); refine s_append1 tok 1 rfl rfl rfl rfl rfl rfl (by decide) rfl rfl rfl rfl (by omega) (by omega) (fun w => ?_)
        repeat (first | refine gA pk ?_)
        refine ⟨i + 1, (nx, cs ++ [(nx.length : Int)]), (v, w), ⟨by omega, hnxl, by simp only [List.length_append, List.length_cons, List.length_nil]; omega, ?_, aftK ⟨pn, pe⟩ k ⟨ok', oe'⟩, aftK_ok hk _, fun m' hm' => ?_, hplan⟩, by omega, .sub (by exact subQ) (by rw [hrow]; exact OSub.refl _)⟩
        · rw [he, Option.map_map]
          congr 1
          funext r
          simp
        · simp only at hm'
          rw [hnx2] at hm'
          obtain ⟨m, a, b⟩ := List.mem_flatMap.1 hm'
          exact hnx m (hpr m a) m' b
    · obtain rfl : i = l.length := by omega
      rw [List.drop_length] at he
      have he2 : R = some (now, cs) := by
        rw [he]
        show some (now, cs ++ []) = _
        rw [List.append_nil]
      rw [he2]
      have ss := sortL_spec now (by omega) (fun m hm => by have := hpl (hpr m hm); exact ⟨by rw [this.1]; show pn.length ≤ _; omega, by rw [this.2]; show pe.length ≤ _; omega⟩) v1
      show AWp _ _ _ _ _ _
      repeat (first | refine gZ pk ?_)
      refine a_reg ?_
      repeat (first | refine gZ pk ?_)
      refine a_reg ?_
      repeat (first | refine gZ pk ?_ | (show AL _ _ _ _ _ _ _; first | refine zsc (Lc := [(v1, OB.row 88 2 (now.map cMo))]) (Lr := [(v2, OB.row 3 1 (rowI cs))]) rfl rfl rfl rfl rfl ss (SubL.of_eq rfl) (List.Perm.refl _) ?_; rintro _ _ ⟨rfl, rfl⟩))
      refine a_frz 0 17 rfl rfl ?_
      refine a_frz 0 18 rfl rfl ?_
      repeat (first | refine gA pk ?_)
      refine fin (x := .tup [mosA (srtL now), ints cs, AI 0]) (.inr rfl) rfl (Sub.refl _) ⟨rfl, rfl⟩ (OSub.none _)
end Go.Proofs.YtimfponihbfimaaGreat
end
