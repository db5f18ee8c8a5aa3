/- Parts of a proof. -/
import Derived.Test.YtimfponihbfimaaGreatP28
set_option linter.unusedVariables false
set_option linter.unusedSimpArgs false
section
namespace Go.Sj.Pln
open Go.Sj Go.Sj.Sta Go.Sj.Typ Go.Sj.Inc
set_option maxRecDepth 8000
def noMo (p : Gr) : Mo := (noneL p.nodes.length, noneL p.edges.length)
def imgN (m : Mo) (i : Int) : Int := m.1.getD i.toNat (-1)
def nodB (S : Sea) (m : Mo) (i n : Int) : Bool := S.ok (nodeAt S.p i) (nodeAt S.g n) && !(S.inj && decide (n ∈ m.1))
def endM (S : Sea) (m : Mo) (i n : Int) : Option Mo := if 0 ≤ imgN m i then (if imgN m i = n then some m else none) else if nodB S m i n = true then some (m.1.set i.toNat n, m.2) else none
def edgM (S : Sea) (m : Mo) (i : Int) (n : Nat) : Option Mo :=
  if (edP S.g n).ty ≠ (edP S.p i).ty ∨ (S.inj = true ∧ (n : Int) ∈ m.2) then none
  else (endM S m (edP S.p i).fr (edP S.g n).fr).bind fun m1 => (endM S m1 (edP S.p i).to (edP S.g n).to).map fun m2 => (m2.1, m2.2.set i.toNat n)
def nodM (S : Sea) (m : Mo) (i : Int) (n : Nat) : Option Mo := if nodB S m i n = true then some (m.1.set i.toNat n, m.2) else none
def extM (S : Sea) (m : Mo) (o : Opn) : List Mo := if o.kind = 1 then (List.range S.g.nodes.length).filterMap (nodM S m o.el) else (List.range S.g.edges.length).filterMap (edgM S m o.el)
def runM (ext : Mo → Opn → List Mo) : List Mo → List Opn → Option (List Mo × List Int)
  | now, [] => some (now, [])
  | now, o :: l => if 5000 < (now.flatMap fun m => ext m o).length then none else (runM ext (now.flatMap fun m => ext m o) l).map fun r => (r.1, ((now.flatMap fun m => ext m o).length : Int) :: r.2)
structure ParN (S : Sea) (ns : List Bool) (l : List Int) : Prop where
  nl : l.length = S.p.nodes.length
  n1 : ∀ u, u < S.p.nodes.length → ns.getD u false = true → ∃ n : Nat, l[u]? = some (n : Int) ∧ n < S.g.nodes.length ∧ S.ok (S.p.nodes.getD u 0) (S.g.nodes.getD n 0) = true
  n0 : ∀ u, u < S.p.nodes.length → ns.getD u false = false → l[u]? = some (-1)
  inj : S.inj = true → ∀ (u v : Nat) (z : Int), 0 ≤ z → l[u]? = some z → l[v]? = some z → u = v
structure ParE (S : Sea) (es : List Bool) (l1 l2 : List Int) : Prop where
  el : l2.length = S.p.edges.length
  e1 : ∀ u, u < S.p.edges.length → es.getD u false = true → ∃ n : Nat, l2[u]? = some (n : Int) ∧ n < S.g.edges.length ∧ (edP S.g n).ty = (edP S.p u).ty ∧ l1[(edP S.p u).fr.toNat]? = some (edP S.g n).fr ∧ l1[(edP S.p u).to.toNat]? = some (edP S.g n).to
  e0 : ∀ u, u < S.p.edges.length → es.getD u false = false → l2[u]? = some (-1)
  inj : S.inj = true → ∀ (u v : Nat) (z : Int), 0 ≤ z → l2[u]? = some z → l2[v]? = some z → u = v
structure Par (S : Sea) (k : Kn) (m : Mo) : Prop where
  n : ParN S k.ns m.1
  e : ParE S k.es m.1 m.2
theorem none_get {n u : Nat} (h : u < n) : (noneL n)[u]? = some (-1) := by
  unfold noneL
  rw [List.getElem?_replicate, if_pos h]
theorem none_neg {n u : Nat} {z : Int} (hz : 0 ≤ z) (h : (noneL n)[u]? = some z) : False := by
  unfold noneL at h
  rw [List.getElem?_replicate] at h
  split at h
  · cases h; omega
  · cases h
theorem rep_false (n u : Nat) : (List.replicate n false).getD u false = false := by
  rw [List.getD_eq_getElem?_getD, List.getElem?_replicate]
  split <;> rfl
theorem par_0 (S : Sea) : Par S (kn0 S.p) (noMo S.p) := by
  refine ⟨⟨by simp [noMo, noneL], fun u hu h => ?_, fun u hu _ => none_get hu, fun _ u v z hz h1 h2 => (none_neg hz h1).elim⟩, ⟨by simp [noMo, noneL], fun u hu h => ?_, fun u hu _ => none_get hu, fun _ u v z hz h1 h2 => (none_neg hz h1).elim⟩⟩
  · rw [kn0, rep_false] at h; cases h
  · rw [kn0, rep_false] at h; cases h
theorem set_getD_t {l : List Bool} {i u : Nat} : (l.set i true).getD u false = (if i = u ∧ u < l.length then true else l.getD u false) := by
  rw [List.getD_eq_getElem?_getD, List.getD_eq_getElem?_getD, List.getElem?_set]
  by_cases h : i = u
  · subst h
    rw [if_pos rfl]
    by_cases hl : i < l.length
    · rw [if_pos hl, if_pos ⟨rfl, hl⟩]; rfl
    · rw [if_neg hl, if_neg (by omega), List.getElem?_eq_none (by omega)]
  · rw [if_neg h, if_neg (by omega)]
theorem set_true_same {l : List Bool} {i : Nat} (h : l.getD i false = true) : l.set i true = l := by
  refine List.ext_getElem? fun j => ?_
  rw [List.getElem?_set]
  split
  · rename_i e
    subst e
    split
    · rename_i hl
      rw [List.getD_eq_getElem?_getD, List.getElem?_eq_getElem hl] at h
      rw [List.getElem?_eq_getElem hl]
      exact congrArg some h.symm
    · rename_i hl
      rw [List.getElem?_eq_none (by omega)]
  · rfl
theorem parN_set {S : Sea} {ns : List Bool} {l : List Int} (h : ParN S ns l) (hl : ns.length = S.p.nodes.length) {i n : Nat} (hi : i < S.p.nodes.length) (hn : n < S.g.nodes.length) (hok : S.ok (S.p.nodes.getD i 0) (S.g.nodes.getD n 0) = true) (hin : S.inj = true → (n : Int) ∉ l) : ParN S (ns.set i true) (l.set i n) := by
  refine ⟨by rw [List.length_set]; exact h.nl, fun u hu hk => ?_, fun u hu hk => ?_, fun hj u v z hz h1 h2 => ?_⟩
  · by_cases e : i = u
    · subst e
      exact ⟨n, by rw [List.getElem?_set_self (by rw [h.nl]; exact hi)], hn, hok⟩
    · rw [set_getD_t, if_neg (by omega)] at hk
      obtain ⟨m, a, b, c⟩ := h.n1 u hu hk
      exact ⟨m, by rw [List.getElem?_set_ne e]; exact a, b, c⟩
  · rw [set_getD_t] at hk
    by_cases e : i = u
    · subst e
      rw [if_pos ⟨rfl, by omega⟩] at hk
      cases hk
    · rw [if_neg (by omega)] at hk
      rw [List.getElem?_set_ne e]
      exact h.n0 u hu hk
  · have hno := hin hj
    rw [List.getElem?_set] at h1 h2
    by_cases e : i = u
    · by_cases e2 : i = v
      · omega
      · rw [if_pos e] at h1
        rw [if_neg e2] at h2
        split at h1
        · cases h1
          exact absurd (List.mem_of_getElem? h2) hno
        · cases h1
    · rw [if_neg e] at h1
      by_cases e2 : i = v
      · rw [if_pos e2] at h2
        split at h2
        · cases h2
          exact absurd (List.mem_of_getElem? h1) hno
        · cases h2
      · rw [if_neg e2] at h2
        exact h.inj hj u v z hz h1 h2
def Keeps (a b : List Int) : Prop := ∀ (u : Nat) (z : Int), 0 ≤ z → a[u]? = some z → b[u]? = some z
theorem keeps_refl (a : List Int) : Keeps a a := fun _ _ _ h => h
theorem keeps_set {a : List Int} {i : Nat} {z : Int} (h : ∀ y, a[i]? = some y → y < 0) : Keeps a (a.set i z) := fun u y hy hu => by
  by_cases e : i = u
  · subst e
    have := h y hu
    omega
  · rw [List.getElem?_set_ne e]; exact hu
theorem keeps_trans {a b c : List Int} (h : Keeps a b) (k : Keeps b c) : Keeps a c := fun u z hz hu => k u z hz (h u z hz hu)
theorem img_get {m : Mo} {i : Int} {u : Nat} (hu : i.toNat = u) {z : Int} (h : m.1[u]? = some z) : imgN m i = z := by
  unfold imgN
  rw [hu, List.getD_eq_getElem?_getD, h]
  rfl
theorem end_par {S : Sea} {ns : List Bool} {m m1 : Mo} (h : ParN S ns m.1) (hl : ns.length = S.p.nodes.length) {i n : Int} (hi : 0 ≤ i ∧ i < S.p.nodes.length) (hn : 0 ≤ n ∧ n < S.g.nodes.length) (he : endM S m i n = some m1) :
    ParN S (ns.set i.toNat true) m1.1 ∧ m1.1[i.toNat]? = some n ∧ m1.2 = m.2 ∧ Keeps m.1 m1.1 := by
  have hil : i.toNat < m.1.length := by rw [h.nl]; omega
  have hg := List.getElem?_eq_getElem hil
  have hi2 := img_get (i := i) rfl hg
  generalize m.1[i.toNat] = z at *
  unfold endM at he
  rw [hi2] at he
  split at he
  · rename_i h0
    split at he
    · rename_i h1
      cases he
      subst h1
      refine ⟨?_, hg, rfl, keeps_refl _⟩
      have : ns.getD i.toNat false = true := by
        cases hb : ns.getD i.toNat false
        · have := h.n0 i.toNat (by omega) hb
          rw [hg] at this
          cases this
          omega
        · rfl
      rw [set_true_same this]
      exact h
    · cases he
  · rename_i h0
    split at he
    · rename_i h1
      cases he
      unfold nodB at h1
      rw [Bool.and_eq_true] at h1
      obtain ⟨n', rfl⟩ : ∃ n' : Nat, n = n' := ⟨n.toNat, by omega⟩
      refine ⟨parN_set h hl (by omega) (by omega) ?_ (fun hj hmem => ?_), List.getElem?_set_self hil, rfl, keeps_set fun y hy => ?_⟩
      · have := h1.1
        unfold nodeAt at this
        rw [Int.toNat_natCast] at this
        exact this
      · have := h1.2
        rw [hj, decide_eq_true hmem] at this
        cases this
      · rw [hg] at hy
        cases hy
        omega
    · cases he
theorem parE_keeps {S : Sea} (hg : GV S.g) {es : List Bool} {a b l : List Int} (h : ParE S es a l) (k : Keeps a b) : ParE S es b l := by
  refine ⟨h.el, fun u hu hk => ?_, h.e0, h.inj⟩
  obtain ⟨n, h1, h2, h3, h4, h5⟩ := h.e1 u hu hk
  have hx : edP S.g n = S.g.edges[n] := by
    unfold edP
    rw [Int.toNat_natCast, List.getD_eq_getElem?_getD, List.getElem?_eq_getElem h2]
    rfl
  have hy := hg.edges _ (List.getElem_mem h2)
  rw [← hx] at hy
  exact ⟨n, h1, h2, h3, k _ _ hy.2.1.1 h4, k _ _ hy.2.2.1 h5⟩
theorem edP_get {g : Gr} {n : Nat} (h : n < g.edges.length) : edP g n = g.edges[n] := by
  unfold edP
  rw [Int.toNat_natCast, List.getD_eq_getElem?_getD, List.getElem?_eq_getElem h]
  rfl
theorem edP_in {g : Gr} (hg : GV g) {i : Int} (h : 0 ≤ i ∧ i < g.edges.length) : (0 ≤ (edP g i).fr ∧ (edP g i).fr < g.nodes.length) ∧ (0 ≤ (edP g i).to ∧ (edP g i).to < g.nodes.length) := by
  obtain ⟨n, rfl⟩ : ∃ n : Nat, i = n := ⟨i.toNat, by omega⟩
  rw [edP_get (by omega)]
  exact (hg.edges _ (List.getElem_mem _)).2
theorem ext_par {S : Sea} (hp : GV S.p) (hg : GV S.g) {k : Kn} (hk : KnOk S.p k) {m : Mo} (h : Par S k m) {o : Opn} (ho : opE S.p k o = 0) {m' : Mo} (hm : m' ∈ extM S m o) : Par S (aftK S.p k o) m' := by
  unfold extM at hm
  unfold aftK
  rcases opE_zero ho with ⟨h1, h2, h3⟩ | ⟨h1, h2, h3⟩
  · rw [if_pos h1] at hm ⊢
    obtain ⟨n, hn, he⟩ := List.mem_filterMap.1 hm
    have hn := List.mem_range.1 hn
    have he2 : endM S m o.el n = some m' := by
      have hi := h.n.n0 o.el.toNat (by omega) h3
      unfold endM
      rw [img_get rfl hi, if_neg (by omega)]
      exact he
    obtain ⟨a, b, c, d⟩ := end_par h.n hk.nl h2 (by omega) he2
    refine ⟨a, ?_⟩
    rw [c]
    exact parE_keeps hg h.e d
  · rw [if_neg (by omega)] at hm ⊢
    obtain ⟨n, hn, he⟩ := List.mem_filterMap.1 hm
    have hn := List.mem_range.1 hn
    have hx := edP_in hp h2
    have hy := edP_in hg (i := (n : Int)) (by omega)
    unfold edgM at he
    split at he
    · cases he
    · rename_i hc
      obtain ⟨m1, he1, he⟩ := Option.bind_eq_some_iff.1 he
      obtain ⟨m2, he2, he⟩ := Option.map_eq_some_iff.1 he
      subst he
      obtain ⟨a1, b1, c1, d1⟩ := end_par h.n hk.nl hx.1 hy.1 he1
      obtain ⟨a2, b2, c2, d2⟩ := end_par a1 (by rw [List.length_set]; exact hk.nl) hx.2 hy.2 he2
      refine ⟨a2, ?_⟩
      have hE := parE_keeps hg h.e (keeps_trans d1 d2)
      rw [c2, c1]
      have hil : o.el.toNat < m.2.length := by rw [h.e.el]; omega
      have hnew := edgP_new h3
      have hnm := h.e.e0 o.el.toNat (by omega) hnew
      refine ⟨by rw [List.length_set]; exact hE.el, fun u hu hku => ?_, fun u hu hku => ?_, fun hj u v z hz g1 g2 => ?_⟩
      · by_cases e : o.el.toNat = u
        · subst e
          have e2 : ((o.el.toNat : Nat) : Int) = o.el := by omega
          refine ⟨n, List.getElem?_set_self hil, hn, ?_, ?_, ?_⟩
          · rw [e2]
            exact Classical.byContradiction fun hh => hc (.inl hh)
          · rw [e2]; exact d2 _ _ hy.1.1 b1
          · rw [e2]; exact b2
        · rw [set_getD_t, if_neg (by omega)] at hku
          obtain ⟨n', g1, g2⟩ := hE.e1 u hu hku
          exact ⟨n', by rw [List.getElem?_set_ne e]; exact g1, g2⟩
      · rw [set_getD_t] at hku
        by_cases e : o.el.toNat = u
        · rw [if_pos ⟨e, by rw [hk.el]; omega⟩] at hku
          cases hku
        · rw [if_neg (by omega)] at hku
          rw [List.getElem?_set_ne e]
          exact hE.e0 u hu hku
      · have hno : (n : Int) ∉ m.2 := fun hh => hc (.inr ⟨hj, hh⟩)
        rw [List.getElem?_set] at g1 g2
        by_cases e : o.el.toNat = u
        · by_cases e2 : o.el.toNat = v
          · omega
          · rw [if_pos e, if_pos hil] at g1
            rw [if_neg e2] at g2
            cases g1
            exact absurd (List.mem_of_getElem? g2) hno
        · rw [if_neg e] at g1
          by_cases e2 : o.el.toNat = v
          · rw [if_pos e2, if_pos hil] at g2
            cases g2
            exact absurd (List.mem_of_getElem? g1) hno
          · rw [if_neg e2] at g2
            exact h.e.inj hj u v z hz g1 g2
structure Whole (S : Sea) (x : Mo) : Prop where
  n : ParN S (List.replicate S.p.nodes.length true) x.1
  e : ParE S (List.replicate S.p.edges.length true) x.1 x.2
def MoL (p : Gr) (m : Mo) : Prop := m.1.length = p.nodes.length ∧ m.2.length = p.edges.length
end Go.Sj.Pln
end
section
namespace Go.Sj.Pln
open Go.Sj Go.Sj.Sta Go.Sj.Typ Go.Sj.Inc
set_option maxRecDepth 8000
theorem plain_n {p : Gr} {es : List Bool} (rest : List Opn) : ∀ (d j : Nat) (ns : List Bool), ns.length = p.nodes.length → j + d = p.nodes.length → (∀ u, u < j → ns.getD u false = true) → (∀ u, j ≤ u → u < p.nodes.length → ns.getD u false = false) →
    ∃ ns' : List Bool, ns'.length = p.nodes.length ∧ (∀ u, u < p.nodes.length → ns'.getD u false = true) ∧ planE p ⟨ns, es⟩ (((List.range' j d).map fun i : Nat => (⟨1, (i : Int)⟩ : Opn)) ++ rest) = planE p ⟨ns', es⟩ rest
  | 0, j, ns, hl, hj, h1, h0 => ⟨ns, hl, fun u hu => h1 u (by omega), rfl⟩
  | d + 1, j, ns, hl, hj, h1, h0 => by
    have hz := h0 j (Nat.le_refl _) (by omega)
    obtain ⟨ns', a, b, c⟩ := plain_n rest d (j + 1) (ns.set j true) (by rw [List.length_set]; exact hl) (by omega) (fun u hu => by
      rw [set_getD_t]
      split
      · rfl
      · exact h1 u (by omega)) (fun u hu hun => by
      rw [set_getD_t, if_neg (by omega)]
      exact h0 u (by omega) hun)
    refine ⟨ns', a, b, ?_⟩
    rw [← c, List.range'_succ, List.map_cons, List.cons_append, planE]
    have e : opE p ⟨ns, es⟩ ⟨1, (j : Int)⟩ = 0 := by
      unfold opE nodK
      rw [if_pos rfl, if_pos (by simp only; omega)]
      simp only [Int.toNat_natCast, hz]
      rfl
    rw [if_neg (Decidable.not_not.2 e)]
    rfl
theorem plain_e {p : Gr} (hp : GV p) (rest : List Opn) : ∀ (d j : Nat) (ns es : List Bool), ns.length = p.nodes.length → (∀ u, u < p.nodes.length → ns.getD u false = true) → es.length = p.edges.length → j + d = p.edges.length → (∀ u, u < j → es.getD u false = true) → (∀ u, j ≤ u → u < p.edges.length → es.getD u false = false) →
    ∃ es' : List Bool, es'.length = p.edges.length ∧ (∀ u, u < p.edges.length → es'.getD u false = true) ∧ planE p ⟨ns, es⟩ (((List.range' j d).map fun i : Nat => (⟨3, (i : Int)⟩ : Opn)) ++ rest) = planE p ⟨ns, es'⟩ rest
  | 0, j, ns, es, hn, hnt, hl, hj, h1, h0 => ⟨es, hl, fun u hu => h1 u (by omega), rfl⟩
  | d + 1, j, ns, es, hn, hnt, hl, hj, h1, h0 => by
    have hz := h0 j (Nat.le_refl _) (by omega)
    obtain ⟨es', a, b, c⟩ := plain_e hp rest d (j + 1) ns (es.set j true) hn hnt (by rw [List.length_set]; exact hl) (by omega) (fun u hu => by
      rw [set_getD_t]
      split
      · rfl
      · exact h1 u (by omega)) (fun u hu hun => by
      rw [set_getD_t, if_neg (by omega)]
      exact h0 u (by omega) hun)
    have hx := edP_in hp (i := (j : Int)) (by omega)
    refine ⟨es', a, b, ?_⟩
    rw [← c, List.range'_succ, List.map_cons, List.cons_append, planE]
    have e : opE p ⟨ns, es⟩ ⟨3, (j : Int)⟩ = 0 := by
      unfold opE edgP edgK nodK
      rw [if_neg (show ¬ (3 : Int) = 1 by decide), if_pos (.inr rfl), if_pos (by simp only; omega)]
      simp only [Int.toNat_natCast, hz]
      rw [hnt _ (by omega), hnt _ (by omega)]
      rfl
    rw [if_neg (Decidable.not_not.2 e)]
    have e2 : aftK p ⟨ns, es⟩ ⟨3, (j : Int)⟩ = ⟨ns, es.set j true⟩ := by
      unfold aftK
      rw [if_neg (show ¬ (3 : Int) = 1 by decide)]
      simp only [Int.toNat_natCast]
      rw [set_true_same (hnt _ (by omega)), set_true_same (hnt _ (by omega))]
    rw [e2]
theorem plain_valid {p : Gr} (hp : GV p) : planE p (kn0 p) (plainL p) = 0 := by
  unfold plainL opsN opsE kn0
  rw [List.range_eq_range', List.range_eq_range']
  obtain ⟨ns', a, b, c⟩ := plain_n (p := p) (es := List.replicate p.edges.length false) ((List.range' 0 p.edges.length).map fun i : Nat => (⟨3, (i : Int)⟩ : Opn)) p.nodes.length 0 (List.replicate p.nodes.length false) (by simp) (by omega) (fun u hu => absurd hu (Nat.not_lt_zero _)) (fun u _ _ => rep_false _ _)
  rw [c]
  obtain ⟨es', a', b', c'⟩ := plain_e hp [] p.edges.length 0 ns' (List.replicate p.edges.length false) a b (by simp) (by omega) (fun u hu => absurd hu (Nat.not_lt_zero _)) (fun u _ _ => rep_false _ _)
  rw [List.append_nil] at c'
  rw [c', planE, if_pos]
  have key : ∀ {l : List Bool} {n : Nat}, l.length = n → (∀ u, u < n → l.getD u false = true) → l.contains false = false := fun {l n} hl h => by
    rw [List.contains_eq_mem, decide_eq_false_iff_not]
    intro hm
    obtain ⟨u, hu⟩ := List.getElem?_of_mem hm
    have := h u (by rw [← hl]; exact (List.getElem?_eq_some_iff.1 hu).1)
    rw [List.getD_eq_getElem?_getD, hu] at this
    cases this
  unfold knownB
  rw [key a b, key a' b']
  rfl
end Go.Sj.Pln
end
section
namespace Go.Sj
set_option maxRecDepth 8000
section
variable {P : Program} {N : Nat} {ops : List Oper} {Q : St → Own → Prop} {L : Own} {rest : List (Oper × Kd)} {l : List (Nat × AV)} {k : Kd} {q : Nat}
theorem s_loadR {tt : List (TypeId × TD)} (ok : TOK P tt) (i : Nat) {o : Oper} {T : TypeId} {x : Operand} {d : TD} {v : Value} {E sz j off : Nat} {D : List (List AV)} {e : List AV} {a : AV}
    (ho : o.op = .load T x) (hdst : o.dst = some q) (hd : Nat.blt q N = true) (hg : guardA ops o (lk l) = some true) (hk : k ≠ .pure) (hT : lkT tt T = some d) (hx : ev (lk l) x = .pt v sz j off) (hL : L[i]? = some (v, .row E sz D)) (hj : D[j]? = some e) (hp : partA d (e.drop off) 0 = some a) (hne : e.drop off ≠ [])
    (n : AL P N ops Q rest (lk ((q, a) :: l)) L) : AL P N ops Q ((o, k) :: rest) (lk l) L :=
  s_ownLoad ok i ho hdst hd hg hk hT hx hL (Nat.beq_refl sz) (cells := e.drop off) (by simp only [obAt, hj]) hp hne n
end
theorem FV.agg {L : Own} {l m : List AV} (h : FVL L l m) : FV L (.agg l) (.agg m) := fun τ u hf k => by
  obtain ⟨vs, rfl, hv⟩ := k.agg_inv
  exact VR.agg_of (h.vrs hf hv)
theorem a_frzV {P : Program} {N : Nat} {c : Code} {Q : Exit → St → Own → Prop} {l : List (Nat × AV)} {L : Own} (i t : Nat) {v : Value} {E sz : Nat} {es : List (List AV)} {x y : AV} (hL : L[i]? = some (v, .row E sz es)) (ht : lk l t = x) (hz : FZ v sz es x y)
    (k : AWp P N c Q (lk ((t, y) :: l)) (L.eraseIdx i)) : AWp P N c Q (lk l) L :=
  ⟨fun σ F w a hr htr => by
    obtain ⟨h1, h2⟩ := (hr.at hL).freezeKeep
    have htr' : TR (frz σ w v) N (lk ((t, y) :: l)) a := by
      refine ⟨htr.defers, htr.size, fun j => ?_⟩
      have hj := (htr.vals j).mono (frz_le σ w v)
      simp only [lk]
      cases e : Nat.beq t j with
      | false => exact hj
      | true =>
        obtain rfl := Nat.eq_of_beq_eq_true e
        rw [ht] at hj
        exact hz _ _ h2 hj
    exact wp_mono (k.out _ F w a h1 htr') fun e a' w' hp => hp.le (frz_le σ w v)⟩
theorem perm_r {A : Type} (a b c : A) : List.Perm [a, b, c] ([b, c] ++ [a]) := List.perm_append_comm (l₁ := [a]) (l₂ := [b, c])
end Go.Sj
end
