/- Parts of a proof. -/
import Derived.Test.YtimfponihbfimaaGreatP27
import Derived.Test.YtimfponihbfimaaGreatP29
set_option linter.unusedVariables false
set_option linter.unusedSimpArgs false
section
namespace Go.Proofs.YtimfponihbfimaaGreat
open Go.Sj Go.Sj.Typ Go.Sj.Sta Go.Sj.Inc Go.Sj.Pln
set_option maxRecDepth 8000
set_option maxHeartbeats 16000000
abbrev knA (s : Kn) : AV := .agg [boolsA s.ns, boolsA s.es]
abbrev knO (v1 v2 : Value) (s : Kn) : Own := [(v1, .row 4 1 (s.ns.map cB)), (v2, .row 4 1 (s.es.map cB))]
theorem cB_cell (l : List Bool) : (l.map cB).all (fun e => e.all AV.cell) = true := by simp [cB, AV.cell, Value.oneCell']
def idxBl (l : List Bool) (v : Bool) : Int := match l.findIdx? (fun x => decide (v = x)) with | some i => i | none => -1
theorem idxBl_pos (l : List Bool) (v : Bool) : (v ∈ l ∧ 0 ≤ idxBl l v) ∨ (v ∉ l ∧ idxBl l v = -1) := by
  unfold idxBl
  by_cases h : v ∈ l
  · left
    refine ⟨h, ?_⟩
    cases hf : l.findIdx? (fun x => decide (v = x)) with
    | none =>
      rw [List.findIdx?_eq_none_iff] at hf
      have := hf v h
      simp at this
    | some i => simp only; omega
  · right
    refine ⟨h, ?_⟩
    rw [show l.findIdx? (fun x => decide (v = x)) = none from by
      rw [List.findIdx?_eq_none_iff]
      intro x hx
      simp only [decide_eq_false_iff_not]
      rintro rfl
      exact h hx]
theorem idxBl_at {l : List Bool} {v : Bool} {k : Nat} (h : ∀ x ∈ l.take k, v ≠ x) (hk : l[k]? = some v) : idxBl l v = k := by
  have : l.findIdx? (fun x => decide (v = x)) = some k := by
    rw [List.findIdx?_eq_some_iff_getElem]
    obtain ⟨hlt, he⟩ := List.getElem?_eq_some_iff.1 hk
    refine ⟨hlt, by simp [he], fun j hj => ?_⟩
    have := h l[j] (by rw [List.mem_take_iff_getElem]; exact ⟨j, by omega, rfl⟩)
    simpa using this
  unfold idxBl
  rw [this]
theorem IndexBl_spec (l : List Bool) (hl : l.length ≤ 1000000) (v : Bool) : Pure Tryz.prog 169 [boolsA l, AB v] (AI (idxBl l v)) := by
  have ll : (l.map cB).length = l.length := by simp
  refine zen Tryz.func169 (by kernel_rfl) rfl Tryz.ntmps169 rfl (by simp) ?_
  repeat (first | refine gA pk ?_)
  rw [ll]
  refine zlx (fun k : Nat => [(0, boolsA l), (1, AB v), (7, AI l.length), (8, AI k)]) (fun _ => []) (fun k => k ≤ l.length ∧ ∀ x ∈ l.take k, v ≠ x) (fun k => l.length - k) 0 ⟨Nat.zero_le _, by simp⟩ ?_ (OSub.refl _) ?_
  · exact subQ
  · rintro k ⟨hk, hp⟩
    rcases Nat.lt_or_ge k l.length with h | h
    · have hx := List.getElem?_eq_getElem h
      generalize l[k] = y at hx
      have xk : (l.map cB)[(k : Int).toNat]? = some [AB y] := zmp (f := cB) hx
      by_cases he : v = y
      · subst he
        rw [idxBl_at hp hx]
        cases v
        all_goals
          repeat (first | refine gA pk ?_ | (show AL _ _ _ _ _ _ _; first | refine jX tok xk ?_ | refine s_boolEq tok rfl rfl rfl rfl rfl rfl rfl ?_))
          refine finQ ?_
          exact ⟨rfl, rfl⟩
      · cases v <;> cases y
        · exact absurd rfl he
        · repeat (first | refine gA pk ?_ | (show AL _ _ _ _ _ _ _; first | refine jX tok xk ?_ | refine s_boolEq tok rfl rfl rfl rfl rfl rfl rfl ?_))
          exact ⟨k + 1, ⟨by omega, take_allI hx hp he⟩, by omega, by exact subQ, OSub.none _⟩
        · repeat (first | refine gA pk ?_ | (show AL _ _ _ _ _ _ _; first | refine jX tok xk ?_ | refine s_boolEq tok rfl rfl rfl rfl rfl rfl rfl ?_))
          exact ⟨k + 1, ⟨by omega, take_allI hx hp he⟩, by omega, by exact subQ, OSub.none _⟩
        · exact absurd rfl he
    · obtain rfl : k = l.length := by omega
      rw [List.take_length] at hp
      repeat (first | refine gA pk ?_)
      rw [show (-1 : Int) = idxBl l v from by
        rcases idxBl_pos l v with ⟨h1, _⟩ | ⟨_, h2⟩
        · exact absurd rfl (hp v h1)
        · exact h2.symm]
      refine finQ ?_
      exact ⟨rfl, rfl⟩
theorem ContainsBl_spec (l : List Bool) (hl : l.length ≤ 1000000) (v : Bool) : Pure Tryz.prog 118 [boolsA l, AB v] (AB (l.contains v)) := by
  have h := IndexBl_spec l hl v
  have hc := idxBl_pos l v
  generalize idxBl l v = i at *
  rcases hc with ⟨h1, h2⟩ | ⟨h1, h2⟩
  · rw [List.contains_eq_mem, decide_eq_true h1]
    refine zen Tryz.func118 (by kernel_rfl) rfl Tryz.ntmps118 rfl (by simp) ?_
    repeat (first | refine gA pk ?_ | (show AL _ _ _ _ _ _ _; first | refine jP h ?_))
    refine finQ ?_
    exact ⟨rfl, rfl⟩
  · rw [List.contains_eq_mem, decide_eq_false h1]
    refine zen Tryz.func118 (by kernel_rfl) rfl Tryz.ntmps118 rfl (by simp) ?_
    repeat (first | refine gA pk ?_ | (show AL _ _ _ _ _ _ _; first | refine jP h ?_))
    refine finQ ?_
    exact ⟨rfl, rfl⟩
theorem all_spec (s : Kn) (h1 : s.ns.length ≤ 1000) (h2 : s.es.length ≤ 1000) : Pure Tryz.prog 74 [knA s] (AB (knownB s)) := by
  have s1 := ContainsBl_spec s.ns (by omega) false
  have s2 := ContainsBl_spec s.es (by omega) false
  unfold knownB
  generalize s.ns.contains false = x at *
  generalize s.es.contains false = y at *
  cases x <;> cases y
  all_goals
    refine zen Tryz.func74 (by kernel_rfl) rfl Tryz.ntmps74 rfl (by simp) ?_; refine a_seq ?_; refine a_reg ?_; (repeat (first | refine gZ pk ?_ | (show AL _ _ _ _ _ _ _; first | refine jB (fun u => ?_)))); refine zfb 0 1 rfl rfl ?_
    repeat (first | refine gA pk ?_ | (show AL _ _ _ _ _ _ _; first | refine jP s1 ?_ | refine jP s2 ?_))
    refine finQ ?_
    exact ⟨rfl, rfl⟩
theorem unknown_spec (p : Gr) (h1 : p.nodes.length ≤ 1000) (h2 : p.edges.length ≤ 1000) : ACalls Tryz.prog 63 [grA p] [] (fun y L => ∃ v1 v2, v1.oneCell' = true ∧ v2.oneCell' = true ∧ y = .agg [.lit v1, .lit v2] ∧ L = knO v1 v2 (kn0 p)) := by
  have ln : (rowI p.nodes).length = p.nodes.length := by simp
  have le : (p.edges.map cEd).length = p.edges.length := by simp
  have z1 : List.replicate (((rowI p.nodes).length : Int)).toNat (List.map AV.lit [Value.bool false]) = (kn0 p).ns.map cB := by unfold kn0; simp [cB]
  have z2 : List.replicate (((p.edges.map cEd).length : Int)).toNat (List.map AV.lit [Value.bool false]) = (kn0 p).es.map cB := by unfold kn0; simp [cB]
  refine a_enterC Tryz.func63 (by kernel_rfl) rfl Tryz.ntmps63 rfl (tok _ _ rfl) (by simp) ?_
  refine a_seq ?_
  refine a_reg ?_
  repeat (first | refine gZ pk ?_ | (show AL _ _ _ _ _ _ _; first | refine jB (fun up => ?_) | refine jL tok (fun U2 => ?_)))
  refine zfb 1 1 rfl rfl ?_
  refine AWp.mono (Q := fun e st L => e = .normal ∧ ∃ va vb, va.oneCell' = true ∧ vb.oneCell' = true ∧ GoTo 12 st L (lk [(2, .pt U2 0 0 0)]) [(U2, OB.box [.lit va, .lit vb]), (va, OB.row 4 1 ((kn0 p).ns.map cB)), (vb, OB.row 4 1 ((kn0 p).es.map cB))]) ?_ (fun e st L h => ?_)
  · refine zrg ((List.range 10).map fun i => if inL [3, 7, 9] i = true then .eff else if inL [1, 2, 5, 6] i = true then .read else .pure) [3, 7] [0, 1, 2, 4, 5, 6] (.nd 3 [] (.nd 7 [8, 9] .stop .stop) (.nd 7 [] (.nd 3 [8, 9] .stop .stop) .stop)) mixed rfl rfl (by decide +kernel) ?_
    repeat' (first | (with_reducible show AG _ _ _ _ _ _ _ _ _ _; first | exact zgn | refine zgs ?_ | refine znd ?_ ?_) | (show AMid _ _ _ _; first | refine zmf ?_ | refine zmg (by first | exact OSub.refl _ | exact .drop (OSub.refl _) | exact .drop (.drop (OSub.refl _))) ?_) | refine gY pk ?_ | (show AL _ _ _ _ _ _ _; first | refine s_makeQ tok rfl rfl rfl rfl rfl rfl rfl rfl z1 (by omega) (by omega) (by simp; omega) (by omega) (fun a m j => ?_) | refine s_makeQ tok rfl rfl rfl rfl rfl rfl rfl rfl z2 (by omega) (by omega) (by simp; omega) (by omega) (fun a m j => ?_) | refine jS tok 2 ?_) | fail)
    all_goals
      first | exact ⟨rfl, _, _, rfl, rfl, (GoTo.sub (by exact subQ) (OSub.refl _)).trans (GoTo.perm (perm3 _ _ _).2.2.1)⟩ | exact ⟨rfl, _, _, rfl, rfl, (GoTo.sub (by exact subQ) (OSub.refl _)).trans (GoTo.perm (perm3 _ _ _).1)⟩ | exact ⟨rfl, _, _, rfl, rfl, (GoTo.sub (by exact subQ) (OSub.refl _)).trans (GoTo.perm (perm3 _ _ _).2.1)⟩ | exact ⟨rfl, _, _, rfl, rfl, (GoTo.sub (by exact subQ) (OSub.refl _)).trans (GoTo.perm (perm3 _ _ _).2.2.2.1)⟩ | exact ⟨rfl, _, _, rfl, rfl, (GoTo.sub (by exact subQ) (OSub.refl _)).trans (GoTo.perm (perm3 _ _ _).2.2.2.2.1)⟩
  · obtain ⟨rfl, va, vb, hva, hvb, h⟩ := h
    refine zgt h ?_
    refine zfb 0 2 rfl rfl ?_
    repeat (first | refine gA pk ?_)
    exact ⟨.inr rfl, _, _, _, _, rfl, rfl, Turn.of (Sub.of_eq rfl) (OSub.refl _), va, vb, hva, hvb, rfl, rfl⟩
end Go.Proofs.YtimfponihbfimaaGreat
end
section
namespace Go.Proofs.YtimfponihbfimaaGreat
open Go.Sj Go.Sj.Typ Go.Sj.Sta Go.Sj.Inc
set_option maxRecDepth 8000
set_option maxHeartbeats 16000000
theorem found_spec (t : Tys) (ht : Small t) (hv : (validR t).2 = 0) (S : Sea) (hS : SeaT t S) (most : Nat) (hmost : most ≤ 10000) :
    Pure Tryz.prog 73 [tysA t, grA S.p, grA S.g, .agg [optA S.pn, optA S.pe], AB S.inj, AI most] (mosA ((matL S).take most)) := by
  have s1 := sbelow_spec t ht hv
  have s2 := fun u => find_rec t ht S hS most hmost (S.p.nodes.length + S.p.edges.length) [] [] (by simp [remS]) (Nat.zero_le _) (Nat.zero_le _) (fun _ => rfl) u (.slice none 0 0) (.slice none 0 0) (.slice none 0 0) [] (Nat.zero_le _)
  simp only [List.nil_append] at s2
  refine zen Tryz.func73 (by kernel_rfl) rfl Tryz.ntmps73 rfl (by simp) ?_
  refine a_seq ?_
  refine a_reg ?_
  repeat (first | refine gZ pk ?_ | (show AL _ _ _ _ _ _ _; first | refine jB (fun u => ?_)))
  refine zfb 3 6 rfl rfl ?_
  refine zfb 2 7 rfl rfl ?_
  refine zfb 1 8 rfl rfl ?_
  refine zfb 0 9 rfl rfl ?_
  refine a_regO [0, 1, 2, 4, 5, 6, 3, 7, 8, 9] mixed rfl rfl (by decide +kernel) ?_
  repeat (first | refine gZ pk ?_ | (show AL _ _ _ _ _ _ _; first | refine jP s1 ?_ | refine jB (fun ur => ?_)))
  rename_i ur
  refine zgt (GoTo.sub (st' := _) (fun i => Sub.refl _) (L' := foL 3 88 S (tabA (tabT t)) most ur (.slice none 0 0) (.slice none 0 0) (.slice none 0 0) [] [] []) (.keep (.free (.free (.free (OSub.none _)))))) ?_
  refine a_reg ?_
  repeat (first | refine gZ pk ?_ | (show AL _ _ _ _ _ _ _; first | refine zsc (Lc := foL 3 88 S (tabA (tabT t)) most ur (.slice none 0 0) (.slice none 0 0) (.slice none 0 0) [] [] []) (Lr := []) rfl rfl rfl rfl rfl (s2 ur) (SubL.of_eq rfl) (List.Perm.refl _) ?_; rintro _ _ ⟨vn, ve, vo, rfl, rfl⟩))
  refine zgt (GoTo.freeze 3 rfl (FZS.refl _) [(ur, OB.box (fdA S (tabA (tabT t)) (.lit vn) (.lit ve) (mosA ((findL S (S.p.nodes.length + S.p.edges.length) [] []).take most)) most)), (vn, OB.row 3 1 (rowI [])), (ve, OB.row 3 1 (rowI []))] (zfo ⟨FZ.refl _, FZ.refl _, FZ.refl _, FZ.refl _, FZ.refl _, FZ.refl _, FZ.refl _, FZ.refl _, FZ.refl _, FZ.refl _, FZ.refl _, FZ.here, trivial⟩ (zfw (fun x hx => (by cases hx)) (zfw (fun x hx => (by cases hx)) trivial)))) ?_
  repeat (first | refine gA pk ?_ | (show AL _ _ _ _ _ _ _; first | refine jO tok 0 ?_))
  refine finQ ?_
  exact ⟨rfl, rfl⟩
theorem typT_of {t : Tys} {g : Gr} (hg : GV g) (h : typT t g = true) : ∀ x ∈ g.nodes, 0 ≤ x ∧ x < t.nodes.length := fun x hx => by
  unfold typT at h
  simp only [Bool.and_eq_true, Bool.not_eq_true'] at h
  have h1 := List.any_eq_false.1 h.1 x hx
  have h2 := hg.nodes x hx
  simp only [decide_eq_true_eq] at h1
  omega
theorem seaA_ok {t : Tys} {p g : Gr} (inj : Bool) (h : validS t p g = 0) : SeaT t (seaA t p g inj) := by
  obtain ⟨h1, h2, h3, h4, h5⟩ := zvz h
  exact ⟨⟨h2, h3, fun l hl => (by cases hl), fun l hl => (by cases hl)⟩, rfl, typT_of h2 h4, typT_of h3 h5⟩
end Go.Proofs.YtimfponihbfimaaGreat
end
section
namespace Go.Sj.Inc
open Go.Sj Go.Sj.Sta Go.Sj.Typ
set_option maxRecDepth 8000
def les (d n : Int) : Int := if d < n then n - 1 else n
section
variable {t : Tys} {p g : Gr} {inj : Bool}
end
end Go.Sj.Inc
end
section
namespace Go.Sj.Inc
open Go.Sj Go.Sj.Sta Go.Sj.Typ
set_option maxRecDepth 8000
def hasN (i : Int) (x : Mo) : Bool := decide (i ∈ x.1)
def hasE (i : Int) (x : Mo) : Bool := decide (i ∈ x.2)
theorem typT_iff {t : Tys} {g : Gr} : typT t g = true ↔ (∀ n ∈ g.nodes, n < t.nodes.length) ∧ ∀ x ∈ g.edges, x.ty < t.edges.length := by
  unfold typT
  simp only [Bool.and_eq_true, Bool.not_eq_true', List.any_eq_false, decide_eq_true_eq]
  constructor
  · rintro ⟨h1, h2⟩
    exact ⟨fun n hn => by have := h1 n hn; omega, fun x hx => by have := h2 x hx; omega⟩
  · rintro ⟨h1, h2⟩
    exact ⟨fun n hn => by have := h1 n hn; omega, fun x hx => by have := h2 x hx; omega⟩
end Go.Sj.Inc
end
section
namespace Go.Sj
set_option maxRecDepth 8000
def rowsSl (M : Own) : Prop := ∀ p ∈ M, match p.2 with | .row _ _ es => ∃ a c, p.1 = .slice a es.length c | _ => True
theorem ACalls.slices {P : Program} {f : FuncId} {args : List AV} {L : Own} {R : AV → Own → Prop} (h : ACalls P f args L R) : ACalls P f args L fun x M => R x M ∧ rowsSl M :=
  ⟨h.ok, fun σ F w vs a b => (h.out σ F w vs a b).mono fun e w' ⟨v, hv, τ, x, M, h1, h2, h3, h4⟩ => ⟨v, hv, τ, x, M, h1, h2, h3, h4, fun p hp => by
    have := h2.own p hp
    obtain ⟨u, ob⟩ := p
    cases ob with
    | row E sz es =>
      obtain ⟨a, c, hv, _⟩ := own_row_val this
      exact ⟨a, c, hv⟩
    | _ => trivial⟩⟩
end Go.Sj
end
section
namespace Go.Proofs.YtimfponihbfimaaGreat
open Go.Sj Go.Sj.Typ Go.Sj.Sta Go.Sj.Inc Go.Sj.Pln
set_option maxRecDepth 8000
set_option maxHeartbeats 16000000
abbrev rnA (t : Tys) (p g : Gr) (inj : Bool) : AV := .agg [nodsA t.nodes, edgsA t.edges, ints p.nodes, edsA p.edges, ints g.nodes, edsA g.edges, AB inj]
abbrev maA (m : Mo) : AV := .agg [ints m.1, ints m.2]
theorem with_spec (m : Mo) (edge : Bool) (i n : Int) (h1 : m.1.length ≤ 1000) (h2 : m.2.length ≤ 1000) (hi : 0 ≤ i) (hl : if edge = true then i < m.2.length else i < m.1.length) :
    Pure Tryz.prog 77 [maA m, AB edge, AI i, AI n] (maA (if edge = true then (m.1, m.2.set i.toNat n) else (m.1.set i.toNat n, m.2))) := by
  have s1 := CloneN_spec m.1 (by omega)
  have s2 := CloneN_spec m.2 (by omega)
  have hr1 : ∀ (l : List Int), ∀ x ∈ rowI l, x.length = 1 := fun l x hx => by
    obtain ⟨y, _, rfl⟩ := List.mem_map.1 hx
    rfl
  obtain ⟨m1, m2⟩ := m
  simp only at h1 h2 hl s1 s2 ⊢
  have l1 : (rowI m1).length = m1.length := by simp
  have l2 : (rowI m2).length = m2.length := by simp
  refine a_enterC Tryz.func77 (by kernel_rfl) rfl Tryz.ntmps77 rfl (tok _ _ rfl) (by simp) ?_
  refine a_seq ?_
  refine a_reg ?_
  repeat (first | refine gZ pk ?_ | (show AL _ _ _ _ _ _ _; first | refine jB (fun um => ?_) | refine jL tok (fun U8 => ?_)))
  refine AWp.mono (Q := fun e st L => e = .normal ∧ ∃ va vb, va.oneCell' = true ∧ vb.oneCell' = true ∧ GoTo 28 st L (lk [(1, AB edge), (2, AI i), (3, AI n), (4, .pt um 0 0 0), (8, .pt U8 0 0 0)]) [(vb, OB.row 3 1 (rowI m2)), (va, OB.row 3 1 (rowI m1)), (U8, OB.box [nilS, nilS]), (um, OB.box [.lit va, .lit vb])]) ?_ (fun e st L h => ?_)
  · refine zrg ((List.range 8).map fun i => if inL [2, 5, 7] i = true then .eff else if inL [1, 4] i = true then .read else .pure) [2] [0, 1, 3, 4] (.nd 2 [5, 6, 7] .stop .stop) mixed rfl rfl (by decide +kernel) ?_
    repeat' (first | (with_reducible show AG _ _ _ _ _ _ _ _ _ _; first | exact zgn | refine zgs ?_ | refine znd ?_ ?_) | (show AMid _ _ _ _; first | refine zmf ?_ | refine zmg (by first | exact OSub.refl _ | exact .drop (OSub.refl _) | exact .drop (.drop (OSub.refl _))) ?_) | refine gY pk ?_ | (show AL _ _ _ _ _ _ _; first | refine jO tok 1 ?_ | refine jO tok 2 ?_ | refine zsc (Lc := []) rfl rfl rfl rfl rfl (ACalls.slices s1) (SubL.of_eq rfl) (List.Perm.refl _) ?_; rintro _ _ ⟨⟨va, rfl, rfl⟩, hva⟩; obtain ⟨a1, c1, rfl⟩ := hva _ (List.mem_singleton.2 rfl) | refine zsc (Lc := []) rfl rfl rfl rfl rfl (ACalls.slices s2) (SubL.of_eq rfl) (List.Perm.refl _) ?_; rintro _ _ ⟨⟨vb, rfl, rfl⟩, hvb⟩; obtain ⟨a2, c2, rfl⟩ := hvb _ (List.mem_singleton.2 rfl) | refine jS tok 3 ?_) | fail)
    exact ⟨rfl, _, _, rfl, rfl, GoTo.sub (by exact subQ) (OSub.refl _)⟩
  · obtain ⟨rfl, va, vb, hva, hvb, h⟩ := h
    refine zgt h ?_
    clear h
    cases edge
    · simp only [Bool.false_eq_true, if_false] at hl ⊢
      repeat (first | refine gZ pk ?_)
      refine a_reg ?_
      repeat (first | refine gZ pk ?_)
      refine a_reg ?_
      repeat (first | refine gZ pk ?_ | (show AL _ _ _ _ _ _ _; first | refine jO tok 3 ?_ | refine zoi tok 1 rfl rfl rfl rfl (by decide) rfl rfl rfl rfl rfl rfl (by omega) (by omega) ?_ | refine s_storeI tok 1 rfl rfl rfl rfl rfl rfl rfl rfl (by omega) ?_))
      refine zgt (GoTo.freeze 0 rfl (FZS.refl _) [(va, OB.row 3 1 (rowI (m1.set i.toNat n))), (U8, OB.box [nilS, nilS]), (um, OB.box [.lit va, ints m2])] (zfw (hr1 _) (zfo (FZL.refl _) (zfo ⟨FZ.refl _, FZ.here, trivial⟩ trivial)))) ?_
      refine zgt (GoTo.freeze 0 rfl (FZS.refl _) [(U8, OB.box [nilS, nilS]), (um, OB.box [ints (m1.set i.toNat n), ints m2])] (zfo (FZL.refl _) (zfo ⟨FZ.here, FZ.refl _, trivial⟩ trivial))) ?_
      repeat (first | refine gV pk ?_ | (show AL _ _ _ _ _ _ _; first | refine jO tok 1 ?_ | refine jS tok 0 ?_))
      refine zfb 0 8 rfl rfl ?_
      refine a_ret ?_
      exact ⟨.inr rfl, _, _, _, _, rfl, rfl, Turn.of (Sub.of_eq rfl) (OSub.none _), rfl, rfl⟩
    · simp only [if_true] at hl ⊢
      repeat (first | refine gZ pk ?_)
      refine a_reg ?_
      repeat (first | refine gZ pk ?_)
      refine a_reg ?_
      repeat (first | refine gZ pk ?_ | (show AL _ _ _ _ _ _ _; first | refine jO tok 3 ?_ | refine zoi tok 0 rfl rfl rfl rfl (by decide) rfl rfl rfl rfl rfl rfl (by omega) (by omega) ?_ | refine s_storeI tok 0 rfl rfl rfl rfl rfl rfl rfl rfl (by omega) ?_))
      refine zgt (GoTo.freeze 0 rfl (FZS.refl _) [(va, OB.row 3 1 (rowI m1)), (U8, OB.box [nilS, nilS]), (um, OB.box [.lit va, ints (m2.set i.toNat n)])] (zfw (hr1 _) (zfo (FZL.refl _) (zfo ⟨FZ.refl _, FZ.here, trivial⟩ trivial)))) ?_
      refine zgt (GoTo.freeze 0 rfl (FZS.refl _) [(U8, OB.box [nilS, nilS]), (um, OB.box [ints m1, ints (m2.set i.toNat n)])] (zfo (FZL.refl _) (zfo ⟨FZ.here, FZ.refl _, trivial⟩ trivial))) ?_
      repeat (first | refine gV pk ?_ | (show AL _ _ _ _ _ _ _; first | refine jO tok 1 ?_ | refine jS tok 0 ?_))
      refine zfb 0 8 rfl rfl ?_
      refine a_ret ?_
      exact ⟨.inr rfl, _, _, _, _, rfl, rfl, Turn.of (Sub.of_eq rfl) (OSub.none _), rfl, rfl⟩
structure CaseOk (t : Tys) (p g : Gr) : Prop where
  v : (validR t).2 = 0
  gp : GV p
  gg : GV g
  tp : ∀ x ∈ p.nodes, 0 ≤ x ∧ x < t.nodes.length
  tg : ∀ x ∈ g.nodes, 0 ≤ x ∧ x < t.nodes.length
theorem caseOk {t : Tys} {p g : Gr} (h : validS t p g = 0) : CaseOk t p g := by
  obtain ⟨h1, h2, h3, h4, h5⟩ := zvz h
  exact ⟨h1, h2, h3, typT_of h2 h4, typT_of h3 h5⟩
theorem rnode_spec (t : Tys) (ht : Small t) (p g : Gr) (hc : CaseOk t p g) (inj : Bool) (m : Mo) (hm : m.1.length ≤ 1000) (i n : Int) (hi : 0 ≤ i ∧ i < p.nodes.length) (hn : 0 ≤ n ∧ n < g.nodes.length) :
    Pure Tryz.prog 76 [rnA t p g inj, maA m, AI i, AI n] (AB (nodB (seaA t p g inj) m i n)) := by
  have hp := nodeAt_get hi.1 hi.2
  have hg := nodeAt_get hn.1 hn.2
  have tp := hc.tp _ (nodeAt_mem hi.1 hi.2)
  have tg := hc.tg _ (nodeAt_mem hn.1 hn.2)
  have s1 := Is_spec t ht (nodeAt g n) (nodeAt p i)
  have s2 := ContainsV_spec m.1 (by omega) n
  have e : nodB (seaA t p g inj) m i n = (isR t (nodeAt g n) (nodeAt p i) && !(inj && decide (n ∈ m.1))) := by
    rw [isR_in hc.v tg tp]
    rfl
  rw [e]
  have xp : (rowI p.nodes)[i.toNat]? = some [AI (nodeAt p i)] := zmp (f := cI) hp
  have xg : (rowI g.nodes)[n.toNat]? = some [AI (nodeAt g n)] := zmp (f := cI) hg
  have l1 : (rowI p.nodes).length = p.nodes.length := by simp
  have l2 : (rowI g.nodes).length = g.nodes.length := by simp
  clear e hp hg tp tg hc
  generalize isR t (nodeAt g n) (nodeAt p i) = b1 at *
  generalize nodeAt p i = a1 at *
  generalize nodeAt g n = a2 at *
  generalize decide (n ∈ m.1) = b2 at *
  obtain ⟨tn, te⟩ := t
  obtain ⟨pn, pe⟩ := p
  obtain ⟨gn, ge⟩ := g
  obtain ⟨m1, m2⟩ := m
  simp only at *
  cases b1 <;> cases inj <;> cases b2
  all_goals
    refine zen Tryz.func76 (by kernel_rfl) rfl Tryz.ntmps76 rfl (by simp) ?_
    refine a_seq ?_
    refine a_reg ?_
    repeat (first | refine gZ pk ?_ | (show AL _ _ _ _ _ _ _; first | refine jB (fun u => ?_)))
    refine zfb 1 4 rfl rfl ?_
    refine zfb 0 5 rfl rfl ?_
    repeat (first | refine gN pk ?_)
    refine zrg ((List.range 28).map fun i => if inL [14, 23] i = true then .eff else if inL [1, 4, 6, 7, 10, 12, 13, 17, 21] i = true then .read else .pure) [] [0, 1, 2, 3, 4, 5, 6, 7, 8, 9, 10, 11, 12, 13, 14, 15, 16, 17, 18, 19, 20, 21, 22, 23, 24, 25, 26, 27] .stop mixed rfl rfl (by decide +kernel) ?_
    repeat' (first | (with_reducible show AG _ _ _ _ _ _ _ _ _ _; first | exact zgn | refine zgs ?_ | refine znd ?_ ?_) | (show AMid _ _ _ _; first | refine zmf ?_ | refine zmg (by first | exact OSub.refl _ | exact .drop (OSub.refl _) | exact .drop (.drop (OSub.refl _))) ?_) | refine gY pk ?_ | (show AL _ _ _ _ _ _ _; first | refine jX tok xp ?_ | refine jX tok xg ?_ | refine jP s1 ?_ | refine jP s2 ?_) | fail)
    repeat (first | refine gA pk ?_)
    refine finQ ?_
    exact ⟨rfl, rfl⟩
def endV (S : Sea) (m : Mo) (i n : Int) : Mo × Bool := if 0 ≤ imgN m i then (m, decide (imgN m i = n)) else ((m.1.set i.toNat n, m.2), nodB S m i n)
theorem endM_V (S : Sea) (m : Mo) (i n : Int) : endM S m i n = if (endV S m i n).2 = true then some (endV S m i n).1 else none := by
  unfold endM endV
  split
  · simp only [decide_eq_true_eq]
  · rfl
theorem endV_len (S : Sea) (m : Mo) (i n : Int) : (endV S m i n).1.1.length = m.1.length ∧ (endV S m i n).1.2 = m.2 := by
  unfold endV
  split
  · exact ⟨rfl, rfl⟩
  · exact ⟨by simp, rfl⟩
theorem rend_spec (t : Tys) (ht : Small t) (p g : Gr) (hc : CaseOk t p g) (inj : Bool) (m : Mo) (hm : m.1.length = p.nodes.length) (hm2 : m.2.length ≤ 1000) (i n : Int) (hi : 0 ≤ i ∧ i < p.nodes.length) (hn : 0 ≤ n ∧ n < g.nodes.length) :
    Pure Tryz.prog 79 [rnA t p g inj, maA m, AI i, AI n] (.tup [maA (endV (seaA t p g inj) m i n).1, AB (endV (seaA t p g inj) m i n).2]) := by
  have hpl := hc.gp.nl
  have s1 := rnode_spec t ht p g hc inj m (by omega) i n hi hn
  have s2 := with_spec m false i n (by omega) hm2 hi.1 (by simp; omega)
  simp only [Bool.false_eq_true, if_false] at s2
  have hx := List.getElem?_eq_getElem (l := m.1) (i := i.toNat) (by omega)
  have hz : imgN m i = m.1[i.toNat]'(by omega) := img_get rfl hx
  generalize m.1[i.toNat]'(by omega) = z at hx hz
  unfold endV
  rw [hz]
  have xk : (rowI m.1)[i.toNat]? = some [AI z] := zmp (f := cI) hx
  have l1 : (rowI m.1).length = m.1.length := by simp
  generalize nodB (seaA t p g inj) m i n = b at *
  obtain ⟨tn, te⟩ := t
  obtain ⟨pn, pe⟩ := p
  obtain ⟨gn, ge⟩ := g
  obtain ⟨m1, m2⟩ := m
  clear hz
  simp only at *
  by_cases h0 : 0 ≤ z
  · rw [if_pos h0]
    by_cases h1 : z = n
    all_goals
      first | rw [decide_eq_true h1] | rw [decide_eq_false h1]
      refine a_enterM (rs := [.cell 8 88, .tmp 9]) tok Tryz.func79 (by kernel_rfl) rfl Tryz.ntmps79 rfl (by decide) (by simp) ?_
      refine a_seq ?_
      refine a_reg ?_
      repeat (first | refine gZ pk ?_ | (show AL _ _ _ _ _ _ _; first | refine jB (fun u => ?_) | refine jL tok (fun U8 => ?_)))
      refine zfb 2 4 rfl rfl ?_
      refine zfb 1 5 rfl rfl ?_
      repeat (first | refine gN pk ?_ | (show AL _ _ _ _ _ _ _; first | refine jX tok xk ?_))
      refine zrg ((List.range 10).map fun i => if inL [8] i = true then .eff else .pure) [] [0, 1, 2, 3, 4, 5, 6, 7, 8, 9] .stop mixed rfl rfl (by decide +kernel) ?_
      repeat' (first | (with_reducible show AG _ _ _ _ _ _ _ _ _ _; first | exact zgn | refine zgs ?_ | refine znd ?_ ?_) | (show AMid _ _ _ _; first | refine zmf ?_ | refine zmg (by first | exact OSub.refl _ | exact .drop (OSub.refl _) | exact .drop (.drop (OSub.refl _))) ?_) | refine gY pk ?_ | (show AL _ _ _ _ _ _ _; first | refine jX tok xk ?_ | refine jS tok 0 ?_) | fail)
      refine zfb 0 8 rfl rfl ?_
      refine a_ret ?_
      exact ⟨.inr rfl, _, _, [], rfl, Turn.of (Sub.refl _) (OSub.none _), rfl, rfl⟩
  · rw [if_neg h0]
    refine a_enterM (rs := [.cell 8 88, .tmp 9]) tok Tryz.func79 (by kernel_rfl) rfl Tryz.ntmps79 rfl (by decide) (by simp) ?_
    refine a_seq ?_
    refine a_reg ?_
    repeat (first | refine gZ pk ?_ | (show AL _ _ _ _ _ _ _; first | refine jB (fun u => ?_) | refine jL tok (fun U8 => ?_)))
    refine zfb 2 4 rfl rfl ?_
    refine zfb 1 5 rfl rfl ?_
    repeat (first | refine gN pk ?_ | (show AL _ _ _ _ _ _ _; first | refine jX tok xk ?_))
    refine zrg ((List.range 11).map fun i => if inL [3, 8, 9] i = true then .eff else if inL [0, 4, 5] i = true then .read else .pure) [3] [0, 1, 2, 4, 5, 6, 7] (.nd 3 [8, 9, 10] .stop .stop) mixed rfl rfl (by decide +kernel) ?_
    repeat' (first | (with_reducible show AG _ _ _ _ _ _ _ _ _ _; first | exact zgn | refine zgs ?_ | refine znd ?_ ?_) | (show AMid _ _ _ _; first | refine zmf ?_ | refine zmg (by first | exact OSub.refl _ | exact .drop (OSub.refl _) | exact .drop (.drop (OSub.refl _))) ?_) | refine gY pk ?_ | (show AL _ _ _ _ _ _ _; first | refine jP s1 ?_ | refine jP s2 ?_ | refine jS tok 0 ?_) | fail)
    refine zfb 0 8 rfl rfl ?_
    refine a_ret ?_
    exact ⟨.inr rfl, _, _, [], rfl, Turn.of (Sub.refl _) (OSub.none _), rfl, rfl⟩
end Go.Proofs.YtimfponihbfimaaGreat
end
