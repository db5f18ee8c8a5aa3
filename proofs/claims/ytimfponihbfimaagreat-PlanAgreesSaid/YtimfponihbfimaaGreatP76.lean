/- Parts of a proof. -/
import Derived.Laws.Runes
import Derived.Laws.Externs
import Derived.Laws.Cover3
import Derived.WalkKit
import Derived.WalkSpells
import Derived.WalkLawsBesides
import Derived.Deep.Draws
import Derived.Orders
import Derived.Still
import Derived.Handy
import Derived.Lib.AppendZerosOnto
import Derived.Lib.Overlaps
import Derived.Test.YtimfponihbfimaaGreatP25
import Derived.Test.YtimfponihbfimaaGreatP26
import Derived.Test.YtimfponihbfimaaGreatP27
import Derived.Test.YtimfponihbfimaaGreatP29
import Derived.Test.YtimfponihbfimaaGreatP31
import Derived.Test.YtimfponihbfimaaGreatP75
set_option linter.unusedVariables false
set_option linter.unusedSimpArgs false
section
namespace Go.Sj.Pln
open Go.Sj Go.Sj.Sta Go.Sj.Typ Go.Sj.Inc
set_option maxRecDepth 8000
def cutL (b : List Bool) (l : List Int) : List Int := List.zipWith (fun b z => if b = true then z else -1) b l
def cutM (k : Kn) (m : Mo) : Mo := (cutL k.ns m.1, cutL k.es m.2)
theorem cut_get {b : List Bool} {l : List Int} {u : Nat} : (cutL b l)[u]? = (match b[u]?, l[u]? with
    | some c, some z => some (if c = true then z else -1)
    | _, _ => none) := by
  unfold cutL
  rw [List.getElem?_zipWith]
  cases b[u]? <;> cases l[u]? <;> rfl
theorem cut_len {b : List Bool} {l : List Int} (h : b.length = l.length) : (cutL b l).length = l.length := by
  unfold cutL
  rw [List.length_zipWith, h, Nat.min_self]
theorem cut_self {b : List Bool} {l : List Int} (h : b.length = l.length) (hu : ∀ u, u < l.length → b.getD u false = false → l[u]? = some (-1)) : cutL b l = l := by
  refine List.ext_getElem? fun u => ?_
  rw [cut_get]
  by_cases hl : u < l.length
  · have hb := List.getElem?_eq_getElem (l := b) (i := u) (by omega)
    have hx := List.getElem?_eq_getElem hl
    rw [hb, hx]
    cases hc : b[u] with
    | true => rfl
    | false =>
      have := hu u hl (by rw [List.getD_eq_getElem?_getD, hb, hc]; rfl)
      rw [hx] at this
      exact this.symm
  · rw [List.getElem?_eq_none (l := l) (by omega), List.getElem?_eq_none (l := b) (by omega)]
theorem cut_set {b : List Bool} {l : List Int} {i : Nat} {z : Int} (h : b.getD i false = false) : cutL b (l.set i z) = cutL b l := by
  refine List.ext_getElem? fun u => ?_
  rw [cut_get, cut_get, List.getElem?_set]
  by_cases e : i = u
  · subst e
    rw [if_pos rfl]
    by_cases hl : i < l.length
    · rw [if_pos hl, List.getElem?_eq_getElem hl]
      cases hb : b[i]? with
      | none => rfl
      | some c =>
        rw [List.getD_eq_getElem?_getD, hb] at h
        simp only [Option.getD_some] at h
        subst h
        rfl
    · rw [if_neg hl, List.getElem?_eq_none (l := l) (i := i) (by omega)]
  · rw [if_neg e]
theorem cut_more {b : List Bool} {l : List Int} {i : Nat} {z : Int} (hb : b.length = l.length) (h : l[i]? = some z) : cutL (b.set i true) l = (cutL b l).set i z := by
  refine List.ext_getElem? fun u => ?_
  obtain ⟨hl, _⟩ := List.getElem?_eq_some_iff.1 h
  rw [List.getElem?_set, cut_get, cut_get, List.getElem?_set, cut_len hb]
  by_cases e : i = u
  · subst e
    rw [if_pos rfl, if_pos rfl, if_pos (by omega), if_pos hl, h]
    rfl
  · rw [if_neg e, if_neg e]
theorem cut_mem {b : List Bool} {l : List Int} {i : Nat} {z : Int} (h0 : 0 ≤ z) (hi : b.getD i false = false) (h : l[i]? = some z) (hd : ∀ (u v : Nat) (y : Int), 0 ≤ y → l[u]? = some y → l[v]? = some y → u = v) : z ∉ cutL b l := fun hm => by
  obtain ⟨u, hu⟩ := List.getElem?_of_mem hm
  rw [cut_get] at hu
  cases hb : b[u]? with
  | none => rw [hb] at hu; cases hu
  | some c =>
    cases hx : l[u]? with
    | none => rw [hb, hx] at hu; cases hu
    | some y =>
      rw [hb, hx] at hu
      simp only [Option.some.injEq] at hu
      cases c with
      | false => simp at hu; omega
      | true =>
        simp only [if_true] at hu
        subst hu
        have := hd u i y h0 hx h
        subst this
        rw [List.getD_eq_getElem?_getD, hb] at hi
        cases hi
theorem rep_true {n u : Nat} (h : u < n) : (List.replicate n true).getD u false = true := by
  rw [List.getD_eq_getElem?_getD, List.getElem?_replicate, if_pos h]
  rfl
theorem end_cut {S : Sea} {x : Mo} (hx : Whole S x) {ns : List Bool} (hl : ns.length = S.p.nodes.length) {i n : Int} (hi : 0 ≤ i ∧ i < S.p.nodes.length) (h : x.1[i.toNat]? = some n) (e : List Int) :
    endM S (cutL ns x.1, e) i n = some (cutL (ns.set i.toNat true) x.1, e) := by
  have hb : ns.length = x.1.length := by rw [hl, hx.n.nl]
  obtain ⟨n', h1, h2, h3⟩ := hx.n.n1 i.toNat (by omega) (rep_true (by omega))
  rw [h] at h1
  simp only [Option.some.injEq] at h1
  have hc : (cutL ns x.1)[i.toNat]? = some (if ns.getD i.toNat false = true then n else -1) := by
    rw [cut_get, h, List.getD_eq_getElem?_getD, List.getElem?_eq_getElem (by omega)]
    rfl
  have hi2 := img_get (m := (cutL ns x.1, e)) (i := i) rfl hc
  rw [cut_more hb h]
  unfold endM
  cases hk : ns.getD i.toNat false with
  | true =>
    rw [hk, if_pos rfl] at hc
    have hi3 : imgN (cutL ns x.1, e) i = n := by rw [hi2, hk]; rfl
    rw [hi3, if_pos (by omega), if_pos rfl]
    congr 1
    refine Prod.ext ?_ rfl
    refine List.ext_getElem? fun u => ?_
    show (cutL ns x.1)[u]? = _
    rw [List.getElem?_set]
    by_cases e : i.toNat = u
    · subst e
      rw [if_pos rfl, if_pos (by rw [cut_len hb, hx.n.nl]; omega), hc]
    · rw [if_neg e]
  | false =>
    have hi3 : imgN (cutL ns x.1, e) i = -1 := by rw [hi2, hk]; rfl
    rw [hi3, if_neg (by omega), if_pos]
    unfold nodB
    rw [Bool.and_eq_true]
    constructor
    · unfold nodeAt
      rw [h1, Int.toNat_natCast]
      exact h3
    · cases hj : S.inj with
      | false => rfl
      | true =>
        rw [decide_eq_false (cut_mem (by omega) hk h (hx.n.inj hj))]
        rfl
theorem ext_cut {S : Sea} (hp : GV S.p) (hg : GV S.g) {k : Kn} (hk : KnOk S.p k) {o : Opn} (ho : opE S.p k o = 0) {x : Mo} (hx : Whole S x) : cutM (aftK S.p k o) x ∈ extM S (cutM k x) o := by
  unfold extM aftK
  rcases opE_zero ho with ⟨h1, h2, h3⟩ | ⟨h1, h2, h3⟩
  · rw [if_pos h1, if_pos h1]
    obtain ⟨n, g1, g2, g3⟩ := hx.n.n1 o.el.toNat (by omega) (rep_true (by omega))
    refine List.mem_filterMap.2 ⟨n, List.mem_range.2 g2, ?_⟩
    have := end_cut hx hk.nl h2 g1 (cutL k.es x.2)
    unfold endM at this
    have hi2 := img_get (m := (cutL k.ns x.1, cutL k.es x.2)) (i := o.el) (z := -1) rfl (by
      rw [cut_get, g1, List.getElem?_eq_getElem (by rw [hk.nl]; omega)]
      have h3 : k.ns.getD o.el.toNat false = false := h3
      rw [List.getD_eq_getElem?_getD, List.getElem?_eq_getElem (by rw [hk.nl]; omega)] at h3
      simp only [Option.getD_some] at h3
      rw [h3]
      rfl)
    rw [hi2, if_neg (by omega)] at this
    exact this
  · rw [if_neg (by omega), if_neg (by omega)]
    obtain ⟨n, g1, g2, g3, g4, g5⟩ := hx.e.e1 o.el.toNat (by omega) (rep_true (by omega))
    have e2 : ((o.el.toNat : Nat) : Int) = o.el := by omega
    rw [e2] at g3 g4 g5
    have hxe := edP_in hp h2
    have hb : k.es.length = x.2.length := by rw [hk.el, hx.e.el]
    refine List.mem_filterMap.2 ⟨n, List.mem_range.2 g2, ?_⟩
    unfold edgM
    rw [if_neg]
    · show ((endM S (cutL k.ns x.1, cutL k.es x.2) _ _).bind _) = _
      rw [end_cut hx hk.nl hxe.1 g4, Option.bind_some, end_cut hx (by rw [List.length_set]; exact hk.nl) hxe.2 g5, Option.map_some]
      congr 1
      refine Prod.ext rfl ?_
      exact (cut_more hb g1).symm
    · rintro (hh | ⟨hj, hh⟩)
      · exact hh g3
      · exact cut_mem (Int.natCast_nonneg n) (edgP_new h3) g1 (hx.e.inj hj) hh
theorem end_back {S : Sea} {ns : List Bool} {m m1 : Mo} {i n : Int} (hn : 0 ≤ n) (hi : i.toNat < m.1.length) (h : ∀ u, ns.getD u false = true → ∃ z, m.1[u]? = some z ∧ 0 ≤ z) (he : endM S m i n = some m1) :
    cutL ns m1.1 = cutL ns m.1 ∧ m1.2 = m.2 ∧ m1.1.length = m.1.length ∧ ∀ u, ns.getD u false = true → ∃ z, m1.1[u]? = some z ∧ 0 ≤ z := by
  unfold endM at he
  split at he
  · split at he
    · cases he; exact ⟨rfl, rfl, rfl, h⟩
    · cases he
  · rename_i h0
    split at he
    · cases he
      have hk : ns.getD i.toNat false = false := by
        cases hb : ns.getD i.toNat false with
        | false => rfl
        | true =>
          obtain ⟨z, h1, h2⟩ := h _ hb
          rw [img_get rfl h1] at h0
          omega
      refine ⟨cut_set hk, rfl, List.length_set .., fun u hu => ?_⟩
      obtain ⟨z, h1, h2⟩ := h u hu
      by_cases e : i.toNat = u
      · subst e; rw [hk] at hu; cases hu
      · exact ⟨z, by rw [List.getElem?_set_ne e]; exact h1, h2⟩
    · cases he
theorem ext_from {S : Sea} (hp : GV S.p) (hg : GV S.g) {k : Kn} (hk : KnOk S.p k) {m : Mo} (h : Par S k m) {o : Opn} (ho : opE S.p k o = 0) {m' : Mo} (hm : m' ∈ extM S m o) : cutM k m' = m := by
  have hs1 : cutL k.ns m.1 = m.1 := cut_self (by rw [hk.nl, h.n.nl]) fun u hu hb => h.n.n0 u (by rw [← h.n.nl]; exact hu) hb
  have hs2 : cutL k.es m.2 = m.2 := cut_self (by rw [hk.el, h.e.el]) fun u hu hb => h.e.e0 u (by rw [← h.e.el]; exact hu) hb
  have hz : ∀ u, k.ns.getD u false = true → ∃ z, m.1[u]? = some z ∧ 0 ≤ z := fun u hu => by
    have hl : u < S.p.nodes.length := by
      rw [List.getD_eq_getElem?_getD] at hu
      cases hb : k.ns[u]? with
      | none => rw [hb] at hu; cases hu
      | some c => have := (List.getElem?_eq_some_iff.1 hb).1; rw [hk.nl] at this; exact this
    obtain ⟨n, a, _⟩ := h.n.n1 u hl hu
    exact ⟨n, a, Int.natCast_nonneg n⟩
  unfold extM at hm
  unfold cutM
  rcases opE_zero ho with ⟨h1, h2, h3⟩ | ⟨h1, h2, h3⟩
  · rw [if_pos h1] at hm
    obtain ⟨n, hn, he⟩ := List.mem_filterMap.1 hm
    unfold nodM at he
    split at he
    · cases he
      exact Prod.ext ((cut_set h3).trans hs1) hs2
    · cases he
  · rw [if_neg (by omega)] at hm
    obtain ⟨n, hn, he⟩ := List.mem_filterMap.1 hm
    have hn := List.mem_range.1 hn
    have hx := edP_in hp h2
    have hy := edP_in hg (i := (n : Int)) (by omega)
    unfold edgM at he
    split at he
    · cases he
    · obtain ⟨m1, he1, he⟩ := Option.bind_eq_some_iff.1 he
      obtain ⟨m2, he2, he⟩ := Option.map_eq_some_iff.1 he
      subst he
      obtain ⟨a1, b1, c1, d1⟩ := end_back hy.1.1 (by rw [h.n.nl]; omega) hz he1
      obtain ⟨a2, b2, c2, d2⟩ := end_back hy.2.1 (by rw [c1, h.n.nl]; omega) d1 he2
      refine Prod.ext ?_ ?_
      · show cutL k.ns m2.1 = m.1
        rw [a2, a1, hs1]
      · show cutL k.es (m2.2.set o.el.toNat n) = m.2
        rw [cut_set (edgP_new h3), b2, b1, hs2]
theorem nodup_fm {f : Nat → Option Mo} (hf : ∀ a b x, f a = some x → f b = some x → a = b) : ∀ {l : List Nat}, l.Nodup → (l.filterMap f).Nodup
  | [], _ => .nil
  | a :: l, h => by
    have h' := List.nodup_cons.1 h
    rw [List.filterMap_cons]
    split
    · exact nodup_fm hf h'.2
    · rename_i x hx
      refine List.nodup_cons.2 ⟨fun hm => ?_, nodup_fm hf h'.2⟩
      obtain ⟨b, hb, hbx⟩ := List.mem_filterMap.1 hm
      have := hf a b x hx hbx
      subst this
      exact h'.1 hb
theorem ext_nodup {S : Sea} {k : Kn} {m : Mo} (h : Par S k m) {o : Opn} (ho : opE S.p k o = 0) : (extM S m o).Nodup := by
  unfold extM
  rcases opE_zero ho with ⟨h1, h2, h3⟩ | ⟨h1, h2, h3⟩
  · rw [if_pos h1]
    refine nodup_fm (fun a b x ha hb => ?_) List.nodup_range
    unfold nodM at ha hb
    split at ha
    · split at hb
      · cases ha
        have := congrArg (fun y => y[o.el.toNat]?) (congrArg Prod.fst (Option.some.inj hb))
        simp only [List.getElem?_set_self (show o.el.toNat < m.1.length by rw [h.n.nl]; omega), Option.some.injEq] at this
        omega
      · cases hb
    · cases ha
  · rw [if_neg (by omega)]
    have key : ∀ a x, edgM S m o.el a = some x → x.2[o.el.toNat]? = some (a : Int) := fun a x ha => by
      unfold edgM at ha
      split at ha
      · cases ha
      · obtain ⟨m1, he1, ha⟩ := Option.bind_eq_some_iff.1 ha
        obtain ⟨m2, he2, ha⟩ := Option.map_eq_some_iff.1 ha
        subst ha
        have snd : ∀ {m m1 : Mo} {i n : Int}, endM S m i n = some m1 → m1.2 = m.2 := fun he => by
          unfold endM at he
          split at he
          · split at he
            · cases he; rfl
            · cases he
          · split at he
            · cases he; rfl
            · cases he
        show (m2.2.set o.el.toNat (a : Int))[o.el.toNat]? = _
        rw [List.getElem?_set_self (by rw [snd he2, snd he1, h.e.el]; omega)]
    refine nodup_fm (fun a b x ha hb => ?_) List.nodup_range
    have h5 := key a x ha
    rw [key b x hb] at h5
    simp only [Option.some.injEq] at h5
    omega
structure All (S : Sea) (k : Kn) (now : List Mo) : Prop where
  par : ∀ m ∈ now, Par S k m
  nd : now.Nodup
  mem : ∀ x, Whole S x → cutM k x ∈ now
theorem nodup_flat {A B : Type} {f : A → List B} : ∀ {l : List A}, l.Nodup → (∀ a ∈ l, (f a).Nodup) → (∀ a ∈ l, ∀ b ∈ l, ∀ x, x ∈ f a → x ∈ f b → a = b) → (l.flatMap f).Nodup
  | [], _, _, _ => .nil
  | a :: l, h, h1, h2 => by
    have h' := List.nodup_cons.1 h
    rw [List.flatMap_cons]
    refine List.nodup_append.2 ⟨h1 a (by simp), nodup_flat h'.2 (fun b hb => h1 b (by simp [hb])) (fun b hb c hc => h2 b (by simp [hb]) c (by simp [hc])), fun x hx y hy hxy => ?_⟩
    subst hxy
    obtain ⟨b, hb, hy⟩ := List.mem_flatMap.1 hy
    have := h2 a (by simp) b (by simp [hb]) x hx hy
    subst this
    exact h'.1 hb
theorem all_next {S : Sea} (hp : GV S.p) (hg : GV S.g) {k : Kn} (hk : KnOk S.p k) {now : List Mo} (h : All S k now) {o : Opn} (ho : opE S.p k o = 0) : All S (aftK S.p k o) (now.flatMap fun m => extM S m o) := by
  refine ⟨fun m' hm => ?_, ?_, fun x hx => ?_⟩
  · obtain ⟨m, h1, h2⟩ := List.mem_flatMap.1 hm
    exact ext_par hp hg hk (h.par m h1) ho h2
  · refine nodup_flat h.nd (fun m hm => ext_nodup (h.par m hm) ho) fun a ha b hb x hxa hxb => ?_
    rw [← ext_from hp hg hk (h.par a ha) ho hxa, ext_from hp hg hk (h.par b hb) ho hxb]
  · exact List.mem_flatMap.2 ⟨_, h.mem x hx, ext_cut hp hg hk ho hx⟩
theorem cut_none {n : Nat} {l : List Int} (h : l.length = n) : cutL (List.replicate n false) l = noneL n := by
  subst h
  refine List.ext_getElem? fun u => ?_
  rw [cut_get]
  unfold noneL
  rw [List.getElem?_replicate, List.getElem?_replicate]
  by_cases hu : u < l.length
  · rw [if_pos hu, if_pos hu, List.getElem?_eq_getElem hu]; rfl
  · rw [if_neg hu, if_neg hu]
theorem all_0 (S : Sea) : All S (kn0 S.p) [noMo S.p] := by
  refine ⟨fun m hm => ?_, by simp, fun x hx => ?_⟩
  · rw [List.mem_singleton] at hm
    subst hm
    exact par_0 S
  · rw [List.mem_singleton]
    exact Prod.ext (cut_none hx.n.nl) (cut_none hx.e.el)
theorem all_true {l : List Bool} {n : Nat} (hl : l.length = n) (h : ∀ b ∈ l, b = true) : l = List.replicate n true := by
  subst hl
  exact List.eq_replicate_iff.2 ⟨rfl, h⟩
theorem known_rep {p : Gr} {k : Kn} (hk : KnOk p k) (h : knownB k = true) : k.ns = List.replicate p.nodes.length true ∧ k.es = List.replicate p.edges.length true := by
  obtain ⟨h1, h2⟩ := known_all h
  exact ⟨all_true hk.nl h1, all_true hk.el h2⟩
theorem all_end {S : Sea} {k : Kn} (hk : KnOk S.p k) (hkn : knownB k = true) {now : List Mo} (h : All S k now) (x : Mo) : x ∈ now ↔ Whole S x := by
  obtain ⟨h1, h2⟩ := known_rep hk hkn
  constructor
  · intro hx
    have := h.par x hx
    exact ⟨by rw [← h1]; exact this.n, by rw [← h2]; exact this.e⟩
  · intro hx
    have := h.mem x hx
    have e : cutM k x = x := Prod.ext (by
      show cutL k.ns x.1 = x.1
      refine cut_self (by rw [hk.nl, hx.n.nl]) fun u hu hb => ?_
      rw [h1, rep_true (by rw [← hx.n.nl]; exact hu)] at hb
      cases hb) (by
      show cutL k.es x.2 = x.2
      refine cut_self (by rw [hk.el, hx.e.el]) fun u hu hb => ?_
      rw [h2, rep_true (by rw [← hx.e.el]; exact hu)] at hb
      cases hb)
    rw [e] at this
    exact this
theorem run_all {S : Sea} (hp : GV S.p) (hg : GV S.g) : ∀ (l : List Opn) (k : Kn) (now : List Mo), KnOk S.p k → All S k now → planE S.p k l = 0 → ∀ r, runM (extM S) now l = some r →
    r.1.Nodup ∧ (∀ x, x ∈ r.1 ↔ Whole S x) ∧ r.2.length = l.length ∧ (l ≠ [] → r.2.getLast? = some (r.1.length : Int)) ∧ (l ≠ [] → r.1.length ≤ 5000)
  | [], k, now, hk, ha, hl, r, hr => by
    unfold planE at hl
    unfold runM at hr
    cases hr
    split at hl
    · rename_i h1
      exact ⟨ha.nd, all_end hk h1 ha, rfl, fun h => absurd rfl h, fun h => absurd rfl h⟩
    · cases hl
  | o :: l, k, now, hk, ha, hl, r, hr => by
    unfold planE at hl
    split at hl
    · rename_i h1; exact absurd hl h1
    · rename_i h1
      have h1 := Decidable.not_not.1 h1
      unfold runM at hr
      split at hr
      · cases hr
      · rename_i hle
        obtain ⟨r', hr', he⟩ := Option.map_eq_some_iff.1 hr
        have ih := run_all hp hg l _ _ (aftK_ok hk o) (all_next hp hg hk ha h1) hl r' hr'
        subst he
        refine ⟨ih.1, ih.2.1, by simp [ih.2.2.1], fun _ => ?_, fun _ => ?_⟩
        · cases l with
          | nil => unfold runM at hr'; cases hr'; rfl
          | cons o' l =>
            have := ih.2.2.2.1 (by simp)
            show ((_ :: r'.2).getLast?) = _
            rw [List.getLast?_cons, this]
            rfl
        · cases l with
          | nil => unfold runM at hr'; cases hr'; show (now.flatMap _).length ≤ 5000; omega
          | cons o' l => exact ih.2.2.2.2 (by simp)
end Go.Sj.Pln
end
section
namespace Go.Sj.Pln
open Go.Sj Go.Sj.Sta Go.Sj.Typ Go.Sj.Inc
set_option maxRecDepth 8000
theorem off_0 (i k : Nat) : offN none i k = false := rfl
theorem whole_isF {S : Sea} (hn : S.pn = none) (he : S.pe = none) (hp : GV S.p) {x : Mo} : Whole S x ↔ IsF S 0 0 x := by
  constructor
  · intro h
    refine ⟨h.n.nl, h.e.el, fun u _ hu => ?_, fun u _ hu => ?_⟩
    · obtain ⟨n, h1, h2, h3⟩ := h.n.n1 u hu (rep_true hu)
      refine ⟨n, h1, h2, ?_⟩
      have hl : (x.1.take u).length = u := by rw [List.length_take, h.n.nl]; omega
      unfold candN
      rw [hn, off_0, hl, h3]
      cases hj : S.inj with
      | false => rfl
      | true =>
        rw [decide_eq_false]
        · rfl
        · intro hm
          obtain ⟨v, hv⟩ := List.getElem?_of_mem hm
          have hv2 := (List.getElem?_eq_some_iff.1 hv).1
          rw [List.getElem?_take, if_pos (by omega)] at hv
          have := h.n.inj hj u v n (Int.natCast_nonneg n) h1 hv
          omega
    · obtain ⟨n, h1, h2, h3, h4, h5⟩ := h.e.e1 u hu (rep_true hu)
      refine ⟨n, h1, h2, ?_⟩
      have hl : (x.2.take u).length = u := by rw [List.length_take, h.e.el]; omega
      rw [edP_get hu, edP_get h2] at h3
      rw [edP_get hu] at h4 h5
      rw [edP_get h2] at h4 h5
      unfold candE fitB eqE
      rw [he, off_0, hl, List.getElem?_eq_getElem hu, List.getElem?_eq_getElem h2]
      simp only [List.getD_eq_getElem?_getD, h4, h5, Option.getD_some, decide_true, Bool.and_true, h3]
      cases hj : S.inj with
      | false => rfl
      | true =>
        rw [decide_eq_false]
        · rfl
        · intro hm
          obtain ⟨v, hv⟩ := List.getElem?_of_mem hm
          have hv2 := (List.getElem?_eq_some_iff.1 hv).1
          rw [List.getElem?_take, if_pos (by omega)] at hv
          have := h.e.inj hj u v n (Int.natCast_nonneg n) h1 hv
          omega
  · intro h
    have dist : ∀ {l : List Int}, (∀ (u : Nat) (z : Int), l[u]? = some z → z ∉ l.take u) → ∀ (u v : Nat) (z : Int), l[u]? = some z → l[v]? = some z → u = v := fun {l} hd u v z h1 h2 => by
      have hu := (List.getElem?_eq_some_iff.1 h1).1
      have hv := (List.getElem?_eq_some_iff.1 h2).1
      rcases Nat.lt_trichotomy u v with e | e | e
      · exact absurd (List.mem_of_getElem? (by rw [List.getElem?_take, if_pos e]; exact h1)) (hd v z h2)
      · exact e
      · exact absurd (List.mem_of_getElem? (by rw [List.getElem?_take, if_pos e]; exact h2)) (hd u z h1)
    constructor
    · refine ⟨h.nl, fun u hu _ => ?_, fun u hu hf => ?_, fun hj u v z _ h1 h2 => dist (fun u z hu => ?_) u v z h1 h2⟩
      · obtain ⟨k, h1, h2, h3⟩ := h.ns u (Nat.zero_le _) hu
        have hl : (x.1.take u).length = u := by rw [List.length_take, h.nl]; omega
        unfold candN at h3
        rw [hl, Bool.and_eq_true, Bool.and_eq_true] at h3
        exact ⟨k, h1, h2, h3.2.1⟩
      · rw [rep_true hu] at hf; cases hf
      · have hul := (List.getElem?_eq_some_iff.1 hu).1
        obtain ⟨k, h1, h2, h3⟩ := h.ns u (Nat.zero_le _) (by rw [← h.nl]; exact hul)
        rw [hu] at h1
        cases h1
        unfold candN at h3
        rw [Bool.and_eq_true, Bool.and_eq_true, hj] at h3
        simpa using h3.2.2
    · refine ⟨h.el, fun u hu _ => ?_, fun u hu hf => ?_, fun hj u v z _ h1 h2 => dist (fun u z hu => ?_) u v z h1 h2⟩
      · obtain ⟨k, h1, h2, h3⟩ := h.es u (Nat.zero_le _) hu
        have hl : (x.2.take u).length = u := by rw [List.length_take, h.el]; omega
        have hin := (hp.edges _ (List.getElem_mem hu)).2
        unfold candE fitB eqE at h3
        rw [hl, List.getElem?_eq_getElem hu, List.getElem?_eq_getElem h2] at h3
        simp only [Bool.and_eq_true, decide_eq_true_eq] at h3
        obtain ⟨⟨_, g1, g2, g3⟩, _⟩ := h3
        refine ⟨k, h1, h2, ?_, ?_, ?_⟩
        · rw [edP_get hu, edP_get h2]; exact g1
        · rw [edP_get hu, edP_get h2, g2, List.getD_eq_getElem?_getD, List.getElem?_eq_getElem (by rw [h.nl]; omega)]; rfl
        · rw [edP_get hu, edP_get h2, g3, List.getD_eq_getElem?_getD, List.getElem?_eq_getElem (by rw [h.nl]; omega)]; rfl
      · rw [rep_true hu] at hf; cases hf
      · have hul := (List.getElem?_eq_some_iff.1 hu).1
        obtain ⟨k, h1, h2, h3⟩ := h.es u (Nat.zero_le _) (by rw [← h.el]; exact hul)
        rw [hu] at h1
        cases h1
        unfold candE at h3
        rw [Bool.and_eq_true, hj] at h3
        simpa using h3.2
theorem perm_len {l l' : List Mo} (h : l.Nodup) (h' : l'.Nodup) (hm : ∀ x, x ∈ l ↔ x ∈ l') : l.length = l'.length := by
  have h1 : ∀ {a b : List Mo}, a.Nodup → (∀ x ∈ a, x ∈ b) → a.length ≤ b.length := by
    intro a
    induction a with
    | nil => exact fun _ _ => Nat.zero_le _
    | cons x a ih =>
      intro b ha hb
      have ha' := List.nodup_cons.1 ha
      have hx := hb x (by simp)
      have := ih (b := b.erase x) ha'.2 fun y hy => (List.mem_erase_of_ne (fun e => ha'.1 (by rw [← e]; exact hy))).2 (hb y (by simp [hy]))
      rw [List.length_erase_of_mem hx] at this
      have := List.length_pos_of_mem hx
      simp only [List.length_cons]
      omega
  exact Nat.le_antisymm (h1 h fun x hx => (hm x).1 hx) (h1 h' fun x hx => (hm x).2 hx)
theorem srtM_nodup {l : List Mo} (h : SrtM l) : l.Nodup := h.imp fun {a b} hab e => by
  rw [e, cmpM_self] at hab
  exact absurd hab (by decide)
theorem run_mat {S : Sea} (hn : S.pn = none) (he : S.pe = none) (hp : GV S.p) (hg : GV S.g) {l : List Opn} (hl : planE S.p (kn0 S.p) l = 0) {r : List Mo × List Int} (hr : runM (extM S) [noMo S.p] l = some r) :
    r.1.Nodup ∧ (∀ x, x ∈ r.1 ↔ x ∈ matL S) ∧ r.1.length = (matL S).length ∧ (matL S).length ≤ 5000 ∧ r.2.length = l.length ∧ (l ≠ [] → r.2.getLast? = some (r.1.length : Int)) := by
  obtain ⟨a, b, c, d, e⟩ := run_all hp hg l _ _ (kn0_ok _) (all_0 S) hl r hr
  have hm : ∀ x, x ∈ r.1 ↔ x ∈ matL S := fun x => by rw [b, mat_mem, whole_isF hn he hp]
  have hlen := perm_len a (srtM_nodup (mat_srt S)) hm
  refine ⟨a, hm, hlen, ?_, c, d⟩
  cases l with
  | nil =>
    unfold runM at hr
    cases hr
    rw [← hlen]
    show 1 ≤ 5000
    omega
  | cons o l => rw [← hlen]; exact e (by simp)
end Go.Sj.Pln
end
section
namespace Go.Proofs.YtimfponihbfimaaGreat
open Go.Sj Go.Sj.Typ Go.Sj.Sta Go.Sj.Inc
set_option maxRecDepth 8000
set_option maxHeartbeats 16000000
theorem ggiven_spec (t : Tys) (ht : Small t) (p g : Gr) (hp : OkG p) (hg : OkG g) : Pure Tryz.prog 38 [tysA t, grA p, grA g] (AI (validS t p g)) := by
  have s1 := refValid_spec t ht
  have s2 := refgvalid_spec p hp
  have s3 := refgvalid_spec g hg
  obtain ⟨r, hr⟩ : ∃ r, validS t p g = r := ⟨_, rfl⟩
  rw [hr]
  unfold validS at hr
  generalize (validR t).1 = nm at s1
  by_cases hv : (validR t).2 = 0
  · rw [if_neg (Decidable.not_not.2 hv)] at hr
    rw [hv] at s1
    by_cases h1 : gvalid p = 0
    · rw [if_neg (Decidable.not_not.2 h1)] at hr
      rw [h1] at s2
      have hP := gvalid_zero.1 h1
      have s4 := gTyped_spec t ht p hP
      by_cases h2 : gvalid g = 0
      · rw [if_neg (Decidable.not_not.2 h2)] at hr
        rw [h2] at s3
        have hG := gvalid_zero.1 h2
        have s5 := gTyped_spec t ht g hG
        clear hP hG
        generalize typT t p = b1 at *
        generalize typT t g = b2 at *
        cases b1 <;> cases b2
        all_goals
          subst hr
          refine zen Tryz.func38 (by kernel_rfl) rfl Tryz.ntmps38 rfl (by simp) ?_
          refine a_seq ?_
          refine a_reg ?_
          repeat (first | refine gZ pk ?_ | (show AL _ _ _ _ _ _ _; first | refine jB (fun u => ?_)))
          refine zfb 0 5 rfl rfl ?_
          refine zfb 0 4 rfl rfl ?_
          refine zfb 0 3 rfl rfl ?_
          repeat (first | refine gA pk ?_ | (show AL _ _ _ _ _ _ _; first | refine jP s1 ?_ | refine jP s2 ?_ | refine jP s3 ?_ | refine jP s4 ?_ | refine jP s5 ?_))
          refine finQ ?_
          exact ⟨rfl, rfl⟩
      · rw [if_pos h2] at hr
        subst hr
        generalize gvalid g = e at *
        refine zen Tryz.func38 (by kernel_rfl) rfl Tryz.ntmps38 rfl (by simp) ?_
        refine a_seq ?_
        refine a_reg ?_
        repeat (first | refine gZ pk ?_ | (show AL _ _ _ _ _ _ _; first | refine jB (fun u => ?_)))
        refine zfb 0 5 rfl rfl ?_
        refine zfb 0 4 rfl rfl ?_
        refine zfb 0 3 rfl rfl ?_
        repeat (first | refine gA pk ?_ | (show AL _ _ _ _ _ _ _; first | refine jP s1 ?_ | refine jP s2 ?_ | refine jP s3 ?_))
        refine finQ ?_
        exact ⟨rfl, rfl⟩
    · rw [if_pos h1] at hr
      subst hr
      generalize gvalid p = e at *
      refine zen Tryz.func38 (by kernel_rfl) rfl Tryz.ntmps38 rfl (by simp) ?_
      refine a_seq ?_
      refine a_reg ?_
      repeat (first | refine gZ pk ?_ | (show AL _ _ _ _ _ _ _; first | refine jB (fun u => ?_)))
      refine zfb 0 5 rfl rfl ?_
      refine zfb 0 4 rfl rfl ?_
      refine zfb 0 3 rfl rfl ?_
      repeat (first | refine gA pk ?_ | (show AL _ _ _ _ _ _ _; first | refine jP s1 ?_ | refine jP s2 ?_))
      refine finQ ?_
      exact ⟨rfl, rfl⟩
  · rw [if_pos hv] at hr
    subst hr
    generalize (validR t).2 = e at *
    refine zen Tryz.func38 (by kernel_rfl) rfl Tryz.ntmps38 rfl (by simp) ?_
    refine a_seq ?_
    refine a_reg ?_
    repeat (first | refine gZ pk ?_ | (show AL _ _ _ _ _ _ _; first | refine jB (fun u => ?_)))
    refine zfb 0 5 rfl rfl ?_
    refine zfb 0 4 rfl rfl ?_
    refine zfb 0 3 rfl rfl ?_
    repeat (first | refine gA pk ?_ | (show AL _ _ _ _ _ _ _; first | refine jP s1 ?_))
    refine finQ ?_
    exact ⟨rfl, rfl⟩
end Go.Proofs.YtimfponihbfimaaGreat
end
section
namespace Go.Proofs.YtimfponihbfimaaGreat
open Go.Sj Go.Sj.Typ Go.Sj.Sta Go.Sj.Inc
set_option maxRecDepth 8000
set_option maxHeartbeats 16000000
abbrev rsA (t : Tys) (S : Sea) (a b : List Int) (most : Int) (Z : AV) : List AV := [nodsA t.nodes, edgsA t.edges, ints S.p.nodes, edsA S.p.edges, ints S.g.nodes, edsA S.g.edges, ints a, ints b, AB S.inj, AI most, Z]
theorem gused_spec (t : Tys) (S : Sea) (a b : List Int) (most : Int) (Z : AV) (l : List Int) (hl : l.length ≤ 1000) (n : Int) :
    Pure Tryz.prog 145 [.ip (rsA t S a b most Z), ints l, AI n] (AB (S.inj && decide (n ∈ l))) := by
  have ll : (rowI l).length = l.length := by simp
  obtain ⟨ij, hij⟩ : ∃ ij, S.inj = ij := ⟨_, rfl⟩
  obtain ⟨r, hr⟩ : ∃ r, (S.inj && decide (n ∈ l)) = r := ⟨_, rfl⟩
  rw [hr]
  unfold rsA
  rw [hij] at hr ⊢
  refine zen Tryz.func145 (by kernel_rfl) rfl Tryz.ntmps145 rfl (by simp) ?_
  repeat (first | refine gA pk ?_)
  refine zlx (fun k : Nat => [(0, .ip [nodsA t.nodes, edgsA t.edges, ints S.p.nodes, edsA S.p.edges, ints S.g.nodes, edsA S.g.edges, ints a, ints b, AB ij, AI most, Z]), (1, ints l), (2, AI n), (7, AI k)]) (fun _ => []) (fun k => k ≤ l.length ∧ ∀ x ∈ l.take k, x ≠ n) (fun k => l.length - k) 0 ⟨Nat.zero_le _, by simp⟩ ?_ (OSub.none _) ?_
  · exact subQ
  · rintro k ⟨hk, hno⟩
    rcases Nat.lt_or_ge k l.length with h | h
    · cases ij with
      | false =>
        have hr2 : r = false := by rw [← hr]; rfl
        subst hr2
        repeat (first | refine gA pk ?_)
        refine finQ ?_
        exact ⟨rfl, rfl⟩
      | true =>
        have hx := List.getElem?_eq_getElem h
        have hxm := List.getElem_mem h
        generalize l[k] = x at hx hxm
        have xk : (rowI l)[(k : Int).toNat]? = some [AI x] := zmp (f := cI) hx
        by_cases hxn : x = n
        · subst hxn
          have hr2 : r = true := by rw [← hr, decide_eq_true hxm]; rfl
          subst hr2
          repeat (first | refine gA pk ?_ | (show AL _ _ _ _ _ _ _; first | refine jX tok xk ?_))
          refine finQ ?_
          exact ⟨rfl, rfl⟩
        · repeat (first | refine gA pk ?_ | (show AL _ _ _ _ _ _ _; first | refine jX tok xk ?_))
          exact ⟨k + 1, ⟨by omega, fun z hz => by
            rw [List.take_add_one, hx] at hz
            rcases List.mem_append.1 hz with hz | hz
            · exact hno z hz
            · simp at hz; subst hz; exact hxn⟩, by omega, by exact subQ, OSub.none _⟩
    · obtain rfl : k = l.length := by omega
      rw [List.take_length] at hno
      have hr2 : r = false := by rw [← hr, decide_eq_false (fun hm => hno n hm rfl), Bool.and_false]
      subst hr2
      repeat (first | refine gA pk ?_)
      refine finQ ?_
      exact ⟨rfl, rfl⟩
theorem gfits_rec (t : Tys) (S : Sea) (hS : SeaOk S) (a b : List Int) (most : Int) (Z : AV) (ns : List Int) (hn : ns.length ≤ 1000) :
    Pure Tryz.prog 143 [.ip (rsA t S a b most Z), ints ns] (AB (gfitB S ns)) := by
  have hpl := hS.p.el
  have hgl := hS.g.el
  have lp : (S.p.edges.map cEd).length = S.p.edges.length := by simp
  have lg : (S.g.edges.map cEd).length = S.g.edges.length := by simp
  have ln : (rowI ns).length = ns.length := by simp
  obtain ⟨r, hr⟩ : ∃ r, gfitB S ns = r := ⟨_, rfl⟩
  rw [hr]
  refine zen Tryz.func143 (by kernel_rfl) rfl Tryz.ntmps143 rfl (by simp) ?_
  repeat (first | refine gA pk ?_)
  refine zlx (fun i : Nat => [(0, .ip (rsA t S a b most Z)), (1, ints ns), (5, AI i)]) (fun _ => []) (fun i => i ≤ S.p.edges.length ∧ ∀ (j : Nat) (x : Ed), j < i → S.p.edges[j]? = some x → gfitT S ns x j = true) (fun i => S.p.edges.length - i) 0 ⟨Nat.zero_le _, fun j x hj => (by omega)⟩ ?_ (OSub.none _) ?_
  · exact subQ
  · rintro i ⟨hi, hall⟩
    rcases Nat.lt_or_ge i S.p.edges.length with h | h
    · have hx := List.getElem?_eq_getElem h
      have hxe := (hS.p.edges _ (List.getElem_mem h)).2
      generalize S.p.edges[i] = x at hx hxe
      obtain ⟨x1, x2, x3⟩ := x
      simp only at hxe
      have xk : (S.p.edges.map cEd)[(i : Int).toNat]? = some [AI x1, AI x2, AI x3] := zmp (f := cEd) hx
      have hnext : gfitT S ns ⟨x1, x2, x3⟩ i = true → ∀ (j : Nat) (x : Ed), j < i + 1 → S.p.edges[j]? = some x → gfitT S ns x j = true := fun ht j x hj hjx => by
        rcases Nat.lt_or_ge j i with h2 | h2
        · exact hall j x h2 hjx
        · obtain rfl : j = i := by omega
          rw [hx] at hjx
          cases hjx
          exact ht
      by_cases h1 : x2 < ns.length
      · by_cases h3 : x3 < ns.length
        · have hn2 := List.getElem?_eq_getElem (l := ns) (i := x2.toNat) (by omega)
          have hn3 := List.getElem?_eq_getElem (l := ns) (i := x3.toNat) (by omega)
          generalize ns[x2.toNat]'(by omega) = n2 at *
          generalize ns[x3.toNat]'(by omega) = n3 at *
          have k2 : (rowI ns)[x2.toNat]? = some [AI n2] := zmp (f := cI) hn2
          have k3 : (rowI ns)[x3.toNat]? = some [AI n3] := zmp (f := cI) hn3
          repeat (first | refine gN pk ?_ | (show AL _ _ _ _ _ _ _; first | refine jX tok xk ?_ | refine jL tok (fun u => ?_) | refine jS tok 0 ?_ | refine jO tok 0 ?_))
          refine zfb 0 6 rfl rfl ?_
          have hsucc : ∀ k, (List.range (k + 1)).any (eqE S ns i) = ((List.range k).any (eqE S ns i) || eqE S ns i k) := fun k => by rw [List.range_succ, List.any_append]; simp
          refine zlx (fun k : Nat => [(0, .ip (rsA t S a b most Z)), (1, ints ns), (5, AI i), (6, .ip [AI x1, AI x2, AI x3]), (7, AB ((List.range k).any (eqE S ns i))), (8, AI k)]) (fun _ => []) (fun k => k ≤ S.g.edges.length) (fun k => S.g.edges.length - k) 0 (Nat.zero_le _) ?_ (OSub.none _) ?_
          · exact subQ
          · intro k hk
            rcases Nat.lt_or_ge k S.g.edges.length with h4 | h4
            · have hy := List.getElem?_eq_getElem h4
              have heq : eqE S ns i k = (decide (S.g.edges[k].ty = x1) && (decide (S.g.edges[k].fr = n2) && decide (S.g.edges[k].to = n3))) := by
                unfold eqE
                rw [hx, hy]
                simp only [List.getD_eq_getElem?_getD, hn2, hn3, Option.getD_some]
              have hsk := hsucc k
              generalize S.g.edges[k] = y at hy heq
              obtain ⟨y1, y2, y3⟩ := y
              simp only at heq
              have yk : (S.g.edges.map cEd)[(k : Int).toNat]? = some [AI y1, AI y2, AI y3] := zmp (f := cEd) hy
              rw [heq] at hsk
              cases hok : (List.range k).any (eqE S ns i) with
              | true =>
                rw [hok, Bool.true_or] at hsk
                repeat (first | refine gN pk ?_ | (show AL _ _ _ _ _ _ _; first | refine jX tok yk ?_ | refine jL tok (fun u => ?_) | refine jS tok 0 ?_))
                refine zfb 0 9 rfl rfl ?_
                repeat (first | (show AWp _ _ _ _ _ _; first | refine a_regR mixed (by decide +kernel) ?_) | refine gN pk ?_)
                refine ⟨k + 1, by omega, by omega, ?_, OSub.none _⟩
                show SubS _ (lk [(0, .ip (rsA t S a b most Z)), (1, ints ns), (5, AI i), (6, .ip [AI x1, AI x2, AI x3]), (7, AB ((List.range (k + 1)).any (eqE S ns i))), (8, AI ((k + 1 : Nat) : Int))])
                rw [hsk]
                exact subQ
              | false =>
                rw [hok, Bool.false_or] at hsk
                by_cases e1 : y1 = x1
                · by_cases e2 : y2 = n2
                  · by_cases e3 : y3 = n3
                    all_goals
                      rw [decide_eq_true e1, decide_eq_true e2] at hsk
                      first | rw [decide_eq_true e3] at hsk | rw [decide_eq_false e3] at hsk
                      simp only [Bool.and_true, Bool.and_false] at hsk
                      repeat (first | refine gN pk ?_ | (show AL _ _ _ _ _ _ _; first | refine jX tok yk ?_ | refine jL tok (fun u => ?_) | refine jS tok 0 ?_))
                      refine zfb 0 9 rfl rfl ?_
                      repeat (first | (show AWp _ _ _ _ _ _; first | refine a_regR mixed (by decide +kernel) ?_) | refine gN pk ?_ | (show AL _ _ _ _ _ _ _; first | refine jX tok k2 ?_ | refine jX tok k3 ?_))
                      refine ⟨k + 1, by omega, by omega, ?_, OSub.none _⟩
                      show SubS _ (lk [(0, .ip (rsA t S a b most Z)), (1, ints ns), (5, AI i), (6, .ip [AI x1, AI x2, AI x3]), (7, AB ((List.range (k + 1)).any (eqE S ns i))), (8, AI ((k + 1 : Nat) : Int))])
                      rw [hsk]
                      exact subQ
                  · rw [decide_eq_false e2, Bool.false_and, Bool.and_false] at hsk
                    repeat (first | refine gN pk ?_ | (show AL _ _ _ _ _ _ _; first | refine jX tok yk ?_ | refine jL tok (fun u => ?_) | refine jS tok 0 ?_))
                    refine zfb 0 9 rfl rfl ?_
                    repeat (first | (show AWp _ _ _ _ _ _; first | refine a_regR mixed (by decide +kernel) ?_) | refine gN pk ?_ | (show AL _ _ _ _ _ _ _; first | refine jX tok k2 ?_ | refine jX tok k3 ?_))
                    refine ⟨k + 1, by omega, by omega, ?_, OSub.none _⟩
                    show SubS _ (lk [(0, .ip (rsA t S a b most Z)), (1, ints ns), (5, AI i), (6, .ip [AI x1, AI x2, AI x3]), (7, AB ((List.range (k + 1)).any (eqE S ns i))), (8, AI ((k + 1 : Nat) : Int))])
                    rw [hsk]
                    exact subQ
                · rw [decide_eq_false e1, Bool.false_and] at hsk
                  repeat (first | refine gN pk ?_ | (show AL _ _ _ _ _ _ _; first | refine jX tok yk ?_ | refine jL tok (fun u => ?_) | refine jS tok 0 ?_))
                  refine zfb 0 9 rfl rfl ?_
                  repeat (first | (show AWp _ _ _ _ _ _; first | refine a_regR mixed (by decide +kernel) ?_) | refine gN pk ?_ | (show AL _ _ _ _ _ _ _; first | refine jX tok k2 ?_ | refine jX tok k3 ?_))
                  refine ⟨k + 1, by omega, by omega, ?_, OSub.none _⟩
                  show SubS _ (lk [(0, .ip (rsA t S a b most Z)), (1, ints ns), (5, AI i), (6, .ip [AI x1, AI x2, AI x3]), (7, AB ((List.range (k + 1)).any (eqE S ns i))), (8, AI ((k + 1 : Nat) : Int))])
                  rw [hsk]
                  exact subQ
            · obtain rfl : k = S.g.edges.length := by omega
              have ht : gfitT S ns ⟨x1, x2, x3⟩ i = (List.range S.g.edges.length).any (eqE S ns i) := by
                unfold gfitT
                simp [h1, h3]
              rw [← ht]
              cases hv : gfitT S ns ⟨x1, x2, x3⟩ i with
              | true =>
                repeat (first | refine gA pk ?_)
                exact ⟨i + 1, ⟨by omega, hnext hv⟩, by omega, by exact subQ, OSub.none _⟩
              | false =>
                rw [gfitB_false hx hv] at hr
                subst hr
                repeat (first | refine gA pk ?_)
                refine finQ ?_
                exact ⟨rfl, rfl⟩
        · have ht : gfitT S ns ⟨x1, x2, x3⟩ i = true := by unfold gfitT; simp [h3]
          repeat (first | refine gA pk ?_ | (show AL _ _ _ _ _ _ _; first | refine jX tok xk ?_ | refine jL tok (fun u => ?_) | refine jS tok 0 ?_ | refine jO tok 0 ?_))
          exact ⟨i + 1, ⟨by omega, hnext ht⟩, by omega, by exact subQ, OSub.none _⟩
      · have ht : gfitT S ns ⟨x1, x2, x3⟩ i = true := by unfold gfitT; simp [h1]
        repeat (first | refine gA pk ?_ | (show AL _ _ _ _ _ _ _; first | refine jX tok xk ?_ | refine jL tok (fun u => ?_) | refine jS tok 0 ?_ | refine jO tok 0 ?_))
        exact ⟨i + 1, ⟨by omega, hnext ht⟩, by omega, by exact subQ, OSub.none _⟩
    · obtain rfl : i = S.p.edges.length := by omega
      rw [gfitB_true (fun j x hj => hall j x (List.getElem?_eq_some_iff.1 hj).1 hj)] at hr
      subst hr
      repeat (first | refine gA pk ?_)
      refine finQ ?_
      exact ⟨rfl, rfl⟩
end Go.Proofs.YtimfponihbfimaaGreat
end
section
namespace Go.Proofs.YtimfponihbfimaaGreat
open Go.Sj Go.Sj.Typ Go.Sj.Sta Go.Sj.Inc
set_option maxRecDepth 8000
set_option maxHeartbeats 16000000
abbrev roL (E : Nat) (t : Tys) (S : Sea) (a b : List Int) (most : Int) (u vo : Value) (out : List Mo) : Own := [(u, .box (rsA t S a b most (.lit vo))), (vo, .row E 2 (out.map cMo))]
theorem ro_fv (E : Nat) (t : Tys) (S : Sea) (a b : List Int) (most : Int) (u vo : Value) (out : List Mo) : FV (roL E t S a b most u vo out) (.pt u 0 0 0) (.ip (rsA t S a b most (mosA out))) :=
  FV.trans (FV.box (cells := rsA t S a b most (.lit vo)) (by simp)) (FV.ip (l := rsA t S a b most (.lit vo)) (m := rsA t S a b most (mosA out)) ⟨FV.refl _, FV.refl _, FV.refl _, FV.refl _, FV.refl _, FV.refl _, FV.refl _, FV.refl _, FV.refl _, FV.refl _, FV.row (E := E) (by simp), trivial⟩)
theorem mo_rows' (l : List Mo) : ∀ x ∈ l.map cMo, x.length = 2 := fun x hx => by
  obtain ⟨y, _, rfl⟩ := List.mem_map.1 hx
  rfl
theorem gedges_rec (t : Tys) (S : Sea) (hS : SeaOk S) (a b : List Int) (hb : S.pe = some b) (most : Nat) (hmost : most ≤ 10000) (ns : List Int) (hns : ns.length = S.p.nodes.length) : ∀ (m : Nat) (es : List Int), m = S.p.edges.length - es.length → es.length ≤ S.p.edges.length → ∀ (u vo : Value) (out : List Mo), out.length ≤ most + 1 →
    ACalls Tryz.prog 144 [.pt u 0 0 0, ints ns, ints es] (roL 88 t S a b most u vo out) (fun y M => ∃ vo', y = .tup [] ∧ M = roL 88 t S a b most u vo' ((out ++ findL S m ns es).take (most + 1))) := by
  have hgn := hS.g.nl
  have hge := hS.g.el
  have hpn := hS.p.nl
  have hpe := hS.p.el
  have hbl := hS.pe b hb
  have lpe : (S.p.edges.map cEd).length = S.p.edges.length := by simp
  have lge : (S.g.edges.map cEd).length = S.g.edges.length := by simp
  have lns : (rowI ns).length = ns.length := by simp
  have lb : (rowI b).length = b.length := by simp
  intro m
  induction m with
  | zero =>
    intro es hm he u vo out ho
    have les : (rowI es).length = es.length := by simp
    have lo : (out.map cMo).length = out.length := by simp
    rcases Nat.lt_or_ge most out.length with h | h
    · have hr : (out ++ findL S 0 ns es).take (most + 1) = out := List.take_left' (by omega)
      rw [hr]
      refine zen Tryz.func144 (by kernel_rfl) rfl Tryz.ntmps144 rfl (by simp) ?_
      repeat (first | (show AWp _ _ _ _ _ _; first | refine a_regR mixed (by decide +kernel) ?_) | refine gN pk ?_ | (show AL _ _ _ _ _ _ _; first | refine jO tok 0 ?_ | refine zol tok 1 rfl rfl rfl rfl (by decide) rfl rfl rfl ?_))
      exact fin (x := .tup []) (.inr rfl) rfl (Sub.refl _) ⟨_, rfl, rfl⟩ (OSub.refl _)
    · have hr : (out ++ findL S 0 ns es).take (most + 1) = out ++ [(ns, es)] := by
        unfold findL
        exact List.take_of_length_le (by simp; omega)
      rw [hr]
      have hmo : (out ++ [(ns, es)]).map cMo = out.map cMo ++ [[.im 1 ([] ++ rowI ns), .im 1 ([] ++ rowI es)]] := by simp
      refine zen Tryz.func144 (by kernel_rfl) rfl Tryz.ntmps144 rfl (by simp) ?_
      repeat (first | (show AWp _ _ _ _ _ _; first | refine a_regR mixed (by decide +kernel) ?_) | refine gN pk ?_ | (show AL _ _ _ _ _ _ _; first | refine jO tok 0 ?_ | refine zol tok 1 rfl rfl rfl rfl (by decide) rfl rfl rfl ?_))
      refine AWp.mono (Q := fun e st L => e = .normal ∧ ∃ w, GoTo 135 st L (lk []) (roL 88 t S a b most u w (out ++ [(ns, es)]))) ?_ (fun e st L h => ?_)
      · refine zrg ((List.range 17).map fun i => if inL [4, 5, 7, 8, 10, 12, 13, 16] i = true then .eff else .pure) [] [0, 1, 2, 3, 6, 9] (.nd 4 [] (.nd 5 [] (.nd 7 [8, 10, 11, 12, 13, 14, 15, 16] .stop (.nd 8 [7, 10, 11, 12, 13, 14, 15, 16] .stop .stop)) (.nd 8 [5, 7, 10, 11, 12, 13, 14, 15, 16] .stop .stop)) (.nd 5 [] (.nd 4 [] (.nd 7 [8, 10, 11, 12, 13, 14, 15, 16] .stop (.nd 8 [7, 10, 11, 12, 13, 14, 15, 16] .stop .stop)) (.nd 7 [] (.nd 4 [8, 10, 11, 12, 13, 14, 15, 16] .stop (.nd 8 [] (.nd 4 [10, 11, 12, 13, 14, 15, 16] .stop (.nd 10 [11] (.nd 4 [12, 13, 14, 15, 16] .stop (.nd 12 [4, 13, 14, 15, 16] .stop .stop)) .stop)) .stop)) (.nd 8 [] (.nd 4 [7, 10, 11, 12, 13, 14, 15, 16] .stop (.nd 7 [] (.nd 4 [10, 11, 12, 13, 14, 15, 16] .stop (.nd 10 [11] (.nd 4 [12, 13, 14, 15, 16] .stop (.nd 12 [4, 13, 14, 15, 16] .stop .stop)) .stop)) .stop)) .stop))) (.nd 8 [] (.nd 4 [5, 7, 10, 11, 12, 13, 14, 15, 16] .stop (.nd 5 [] (.nd 4 [7, 10, 11, 12, 13, 14, 15, 16] .stop (.nd 7 [] (.nd 4 [10, 11, 12, 13, 14, 15, 16] .stop (.nd 10 [11] (.nd 4 [12, 13, 14, 15, 16] .stop (.nd 12 [4, 13, 14, 15, 16] .stop .stop)) .stop)) .stop)) .stop)) .stop))) mixed rfl rfl (by decide +kernel) ?_
        repeat' (first | (with_reducible show AG _ _ _ _ _ _ _ _ _ _; first | exact zgn | refine zgs ?_ | refine znd ?_ ?_) | (show AMid _ _ _ _; first | refine zmf ?_ | refine zmg (by first | exact OSub.refl _ | exact .drop (OSub.refl _) | exact .drop (.drop (OSub.refl _))) ?_) | refine gY pk ?_ | (show AL _ _ _ _ _ _ _; first | refine jO tok 0 ?_ | refine jO tok 1 ?_ | refine jO tok 2 ?_ | refine s_build tok (parts := []) rfl rfl rfl rfl rfl rfl rfl rfl (by decide) (by decide) (fun v => ?_) | refine s_appendImF tok 0 rfl rfl rfl rfl rfl rfl (by decide) rfl rfl rfl rfl (rowI_cell _) (by simp only [lns, les, List.length_nil]; omega) (by simp only [lns, les, List.length_nil]; omega) ?_ | refine s_appendImF tok 1 rfl rfl rfl rfl rfl rfl (by decide) rfl rfl rfl rfl (rowI_cell _) (by simp only [lns, les, List.length_nil]; omega) (by simp only [lns, les, List.length_nil]; omega) ?_ | refine zba tok rfl rfl rfl rfl rfl rfl rfl rfl (by decide) (fun lv => ?_) | refine zak tok 1 rfl rfl rfl rfl rfl rfl (by decide) rfl rfl rfl rfl (by omega) (by omega) (fun w hw => ?_) | refine zsb tok 0 rfl rfl rfl rfl rfl rfl rfl (by assumption) rfl (Nat.le_of_ble_eq_true rfl) rfl ?_) | fail)
        all_goals
          refine ⟨rfl, w, .sub (by exact subQ) ?_⟩
          show OSub [(u, OB.box (rsA t S a b most (.lit w))), (w, OB.row 88 2 ((out ++ [(ns, es)]).map cMo))] _
          rw [hmo]
          exact OSub.refl _
      · obtain ⟨rfl, w, h'⟩ := h
        refine zgt h' ?_
        repeat (first | refine gA pk ?_)
        exact fin (x := .tup []) (.inr rfl) rfl (Sub.refl _) ⟨_, rfl, rfl⟩ (OSub.refl _)
  | succ m ih =>
    intro es hm he u vo out ho
    have les : (rowI es).length = es.length := by simp
    have lo : (out.map cMo).length = out.length := by simp
    rcases Nat.lt_or_ge most out.length with h | h
    · have hr : (out ++ findL S (m + 1) ns es).take (most + 1) = out := List.take_left' (by omega)
      rw [hr]
      refine zen Tryz.func144 (by kernel_rfl) rfl Tryz.ntmps144 rfl (by simp) ?_
      repeat (first | (show AWp _ _ _ _ _ _; first | refine a_regR mixed (by decide +kernel) ?_) | refine gN pk ?_ | (show AL _ _ _ _ _ _ _; first | refine jO tok 0 ?_ | refine zol tok 1 rfl rfl rfl rfl (by decide) rfl rfl rfl ?_))
      exact fin (x := .tup []) (.inr rfl) rfl (Sub.refl _) ⟨_, rfl, rfl⟩ (OSub.refl _)
    · have hlt : ¬ ns.length < S.p.nodes.length := by omega
      have hel : es.length < S.p.edges.length := by omega
      rw [findL_edges hlt]
      have hxi := List.getElem?_eq_getElem hel
      have hxe := (hS.p.edges _ (List.getElem_mem hel)).2
      generalize S.p.edges[es.length] = x at hxi hxe
      obtain ⟨x1, x2, x3⟩ := x
      simp only at hxe
      have hn2 := List.getElem?_eq_getElem (l := ns) (i := x2.toNat) (by omega)
      have hn3 := List.getElem?_eq_getElem (l := ns) (i := x3.toNat) (by omega)
      generalize ns[x2.toNat]'(by omega) = n2 at *
      generalize ns[x3.toNat]'(by omega) = n3 at *
      have k2 : (rowI ns)[x2.toNat]? = some [AI n2] := zmp (f := cI) hn2
      have k3 : (rowI ns)[x3.toNat]? = some [AI n3] := zmp (f := cI) hn3
      have xk : (S.p.edges.map cEd)[(es.length : Int).toNat]? = some [AI x1, AI x2, AI x3] := zmp (f := cEd) hxi
      have xkk : (S.p.edges.map cEd)[((rowI es).length : Int).toNat]? = some [AI x1, AI x2, AI x3] := by rw [les]; exact xk
      have hbi := List.getElem?_eq_getElem (l := b) (i := es.length) (by omega)
      have hgv : gvn S.pe es.length = b[es.length]'(by omega) := by
        rw [hb]
        show b.getD es.length (-1) = _
        rw [List.getD_eq_getElem?_getD, hbi]; rfl
      generalize b[es.length]'(by omega) = w at *
      have bk : (rowI b)[(es.length : Int).toNat]? = some [AI w] := zmp (f := cI) hbi
      refine zen Tryz.func144 (by kernel_rfl) rfl Tryz.ntmps144 rfl (by simp) ?_
      repeat (first | (show AWp _ _ _ _ _ _; first | refine a_regR mixed (by decide +kernel) ?_) | refine gN pk ?_ | (show AL _ _ _ _ _ _ _; first | refine jO tok 0 ?_ | refine jO tok 1 ?_ | refine zol tok 1 rfl rfl rfl rfl (by decide) rfl rfl rfl ?_ | refine jL tok (fun ux => ?_) | refine jS tok 0 ?_ | refine jX tok xkk ?_))
      refine zfb 0 7 rfl rfl ?_
      rw [les]
      obtain ⟨f, hf⟩ : ∃ f : Nat → List Mo, (fun k => if candE S ns es k = true then findL S m ns (es ++ [(k : Int)]) else []) = f := ⟨_, rfl⟩
      have hfk := fun k => (congrFun hf k).symm
      rw [hf]
      have h0 : (out ++ (List.range 0).flatMap f).take (most + 1) = out := by rw [List.range_zero, List.flatMap_nil, List.append_nil]; exact List.take_of_length_le (by omega)
      refine a_loopG2 (fun (k : Nat) (vo : Value) => [(0, .pt u 0 0 0), (1, ints ns), (2, ints es), (6, AI es.length), (7, .ip [AI x1, AI x2, AI x3]), (8, AI k)]) (fun k vo => roL 88 t S a b most u vo ((out ++ (List.range k).flatMap f).take (most + 1))) (fun k _ => k ≤ S.g.edges.length) (fun k _ => S.g.edges.length - k) 0 vo (Nat.zero_le _) (.sub (by exact subQ) (by rw [h0]; exact OSub.refl _)) ?_
      clear vo h0
      intro k vo hk
      have hlo : ((out ++ (List.range k).flatMap f).take (most + 1)).length ≤ most + 1 := by rw [List.length_take]; omega
      rcases Nat.lt_or_ge k S.g.edges.length with h2 | h2
      · have hstep := find_loop out f k (most + 1)
        generalize (out ++ (List.range k).flatMap f).take (most + 1) = O at *
        have hy := List.getElem?_eq_getElem h2
        have heq : eqE S ns es.length k = (decide (S.g.edges[k].ty = x1) && (decide (S.g.edges[k].fr = n2) && decide (S.g.edges[k].to = n3))) := by
          unfold eqE
          rw [hxi, hy]
          simp only [List.getD_eq_getElem?_getD, hn2, hn3, Option.getD_some]
        generalize S.g.edges[k] = y at hy heq
        obtain ⟨y1, y2, y3⟩ := y
        simp only at heq
        have yk : (S.g.edges.map cEd)[(k : Int).toNat]? = some [AI y1, AI y2, AI y3] := zmp (f := cEd) hy
        have su := ACalls.lendA (L := roL 88 t S a b most u vo O) (args' := [.pt u 0 0 0, ints es, AI k]) (gused_spec t S a b most (mosA O) es (by omega) k) ⟨ro_fv _ t S a b most u vo O, FV.refl _, FV.refl _, trivial⟩ fd_free
        have hcand : candE S ns es k = ((!offN S.pe es.length k && eqE S ns es.length k) && !(S.inj && decide ((k : Int) ∈ es))) := rfl
        obtain ⟨cb, hcb⟩ : ∃ cb, candE S ns es k = cb := ⟨_, rfl⟩
        have hff := hfk k
        rw [hcb] at hff hcand
        unfold offN at hcand
        rw [hgv, heq] at hcand
        generalize (S.inj && decide ((k : Int) ∈ es)) = us at *
        repeat (first | refine gN pk ?_ | (show AL _ _ _ _ _ _ _; first | refine jO tok 0 ?_ | refine jX tok yk ?_ | refine jL tok (fun ux => ?_) | refine jS tok 0 ?_))
        refine zfb 0 9 rfl rfl ?_
        refine AWp.mono (Q := fun e st L => e = .normal ∧ GoTo 135 st L (lk [(0, .pt u 0 0 0), (1, ints ns), (2, ints es), (6, AI es.length), (7, .ip [AI x1, AI x2, AI x3]), (8, AI k), (125, AB (!cb))]) (roL 88 t S a b most u vo O)) ?_ (fun e st L h' => ?_)
        · refine zrg ((List.range 54).map fun i => if inL [25] i = true then .eff else if inL [4, 6, 7, 14, 16, 17, 29, 31, 36, 39, 40, 41, 46, 49, 50, 51] i = true then .read else .pure) [] [0, 1, 2, 3, 4, 5, 6, 7, 8, 9, 10, 11, 12, 13, 14, 15, 16, 17, 18, 19, 20, 21, 22, 23, 24, 25, 26, 27, 28, 29, 30, 31, 32, 33, 34, 35, 36, 37, 38, 39, 40, 41, 42, 43, 44, 45, 46, 47, 48, 49, 50, 51, 52, 53] .stop mixed rfl rfl (by decide +kernel) ?_
          have hd : (0 ≤ w ∧ w ≠ k) ∨ ¬ 0 ≤ w ∨ (0 ≤ w ∧ w = k) := by omega
          rcases hd with ⟨hw0, hwk⟩ | hw0 | ⟨hw0, hwk⟩
          · have hcf : cb = false := by rw [hcand]; simp [hw0, hwk]
            subst hcf
            repeat' (first | (with_reducible show AG _ _ _ _ _ _ _ _ _ _; first | exact zgn | refine zgs ?_ | refine znd ?_ ?_) | (show AMid _ _ _ _; first | refine zmf ?_ | refine zmg (by first | exact OSub.refl _ | exact .drop (OSub.refl _) | exact .drop (.drop (OSub.refl _))) ?_) | refine gY pk ?_ | (show AL _ _ _ _ _ _ _; first | refine jO tok 0 ?_ | refine jX tok bk ?_) | fail)
            exact ⟨rfl, .sub (by exact subQ) (OSub.refl _)⟩
          all_goals
            have hc2 : cb = ((decide (y1 = x1) && (decide (y2 = n2) && decide (y3 = n3))) && !us) := by rw [hcand]; simp [hw0, *]
            subst hc2
            cases us with
            | true =>
              rw [Bool.not_true, Bool.and_false]
              repeat' (first | (with_reducible show AG _ _ _ _ _ _ _ _ _ _; first | exact zgn | refine zgs ?_ | refine znd ?_ ?_) | (show AMid _ _ _ _; first | refine zmf ?_ | refine zmg (by first | exact OSub.refl _ | exact .drop (OSub.refl _) | exact .drop (.drop (OSub.refl _))) ?_) | refine gY pk ?_ | (show AL _ _ _ _ _ _ _; first | refine jO tok 0 ?_ | refine jX tok bk ?_ | refine zsc (Lc := roL 88 t S a b most u vo O) (Lr := []) rfl rfl rfl rfl rfl su (SubL.of_eq rfl) (List.Perm.refl _) ?_; rintro _ _ ⟨⟨rfl, -⟩, rfl⟩) | fail)
              exact ⟨rfl, .sub (by exact subQ) (OSub.refl _)⟩
            | false =>
              rw [Bool.not_false, Bool.and_true]
              by_cases e1 : y1 = x1
              · by_cases e2 : y2 = n2
                · by_cases e3 : y3 = n3
                  all_goals
                    rw [decide_eq_true e1, decide_eq_true e2]
                    first | rw [decide_eq_true e3] | rw [decide_eq_false e3]
                    repeat' (first | (with_reducible show AG _ _ _ _ _ _ _ _ _ _; first | exact zgn | refine zgs ?_ | refine znd ?_ ?_) | (show AMid _ _ _ _; first | refine zmf ?_ | refine zmg (by first | exact OSub.refl _ | exact .drop (OSub.refl _) | exact .drop (.drop (OSub.refl _))) ?_) | refine gY pk ?_ | (show AL _ _ _ _ _ _ _; first | refine jO tok 0 ?_ | refine jX tok bk ?_ | refine zsc (Lc := roL 88 t S a b most u vo O) (Lr := []) rfl rfl rfl rfl rfl su (SubL.of_eq rfl) (List.Perm.refl _) ?_; rintro _ _ ⟨⟨rfl, -⟩, rfl⟩ | refine jX tok k2 ?_ | refine jX tok k3 ?_) | fail)
                    exact ⟨rfl, .sub (by exact subQ) (OSub.refl _)⟩
                · rw [decide_eq_false e2, Bool.false_and, Bool.and_false]
                  repeat' (first | (with_reducible show AG _ _ _ _ _ _ _ _ _ _; first | exact zgn | refine zgs ?_ | refine znd ?_ ?_) | (show AMid _ _ _ _; first | refine zmf ?_ | refine zmg (by first | exact OSub.refl _ | exact .drop (OSub.refl _) | exact .drop (.drop (OSub.refl _))) ?_) | refine gY pk ?_ | (show AL _ _ _ _ _ _ _; first | refine jO tok 0 ?_ | refine jX tok bk ?_ | refine zsc (Lc := roL 88 t S a b most u vo O) (Lr := []) rfl rfl rfl rfl rfl su (SubL.of_eq rfl) (List.Perm.refl _) ?_; rintro _ _ ⟨⟨rfl, -⟩, rfl⟩ | refine jX tok k2 ?_ | refine jX tok k3 ?_) | fail)
                  exact ⟨rfl, .sub (by exact subQ) (OSub.refl _)⟩
              · rw [decide_eq_false e1, Bool.false_and]
                repeat' (first | (with_reducible show AG _ _ _ _ _ _ _ _ _ _; first | exact zgn | refine zgs ?_ | refine znd ?_ ?_) | (show AMid _ _ _ _; first | refine zmf ?_ | refine zmg (by first | exact OSub.refl _ | exact .drop (OSub.refl _) | exact .drop (.drop (OSub.refl _))) ?_) | refine gY pk ?_ | (show AL _ _ _ _ _ _ _; first | refine jO tok 0 ?_ | refine jX tok bk ?_ | refine zsc (Lc := roL 88 t S a b most u vo O) (Lr := []) rfl rfl rfl rfl rfl su (SubL.of_eq rfl) (List.Perm.refl _) ?_; rintro _ _ ⟨⟨rfl, -⟩, rfl⟩ | refine jX tok k2 ?_ | refine jX tok k3 ?_) | fail)
                exact ⟨rfl, .sub (by exact subQ) (OSub.refl _)⟩
        · obtain ⟨rfl, h'⟩ := h'
          refine zgt h' ?_
          clear h'
          cases cb with
          | false =>
            have hnew : (out ++ (List.range (k + 1)).flatMap f).take (most + 1) = O := by rw [← hstep, hff, if_neg (by decide), List.append_nil, List.take_of_length_le hlo]
            repeat (first | refine gA pk ?_)
            exact ⟨k + 1, vo, by omega, by omega, .sub (by exact subQ) (by rw [hnew]; exact OSub.refl _)⟩
          | true =>
            rw [if_pos rfl] at hff
            have hI : ints (es ++ [(k : Int)]) = .im 1 ([] ++ rowI es ++ [[AI k]]) := by simp [cI]
            have sg : ∀ w2, ACalls Tryz.prog 144 [.pt u 0 0 0, ints ns, .lit w2] ((w2, .row 3 1 ([] ++ rowI es ++ [[AI k]])) :: roL 88 t S a b most u vo O) (fun y M => ∃ vo', y = .tup [] ∧ M = roL 88 t S a b most u vo' ((O ++ findL S m ns (es ++ [(k : Int)])).take (most + 1))) := fun w2 => by
              have h3 := ih (es ++ [(k : Int)]) (by simp; omega) (by simp; omega) u vo O hlo
              rw [hI] at h3
              exact ACalls.give (E := 3) h3 (zfo (FZL.refl _) (zfw (mo_rows' _) trivial)) ⟨FZ.refl _, FZ.refl _, FZ.here, trivial⟩
            repeat (first | refine gA pk ?_ | (show AL _ _ _ _ _ _ _; first | refine s_build tok (parts := []) rfl rfl rfl rfl rfl rfl rfl rfl (by decide) (by decide) (fun v => ?_) | refine s_appendIm tok 0 rfl rfl rfl rfl rfl rfl (by decide) rfl rfl rfl rfl (rowI_cell _) (by simp only [lns, les, List.length_nil]; omega) (by simp only [lns, les, List.length_nil]; omega) (fun w1 => ?_) | refine s_build1 tok rfl rfl rfl rfl rfl rfl rfl rfl (fun lv => ?_) | refine zak tok 0 rfl rfl rfl rfl rfl rfl (by decide) rfl rfl rfl rfl (by simp only [List.nil_append, les]; omega) (by simp only [List.nil_append, les]; omega) (fun w2 hw => ?_) | refine zsc (Lc := (w2, .row 3 1 ([] ++ rowI es ++ [[AI k]])) :: roL 88 t S a b most u vo O) (Lr := []) rfl rfl rfl rfl rfl (sg w2) (SubL.of_eq rfl) (List.Perm.refl _) ?_; rintro _ _ ⟨vo2, rfl, rfl⟩))
            exact ⟨k + 1, vo2, by omega, by omega, .sub (by exact subQ) (by rw [← hstep, hff]; exact OSub.refl _)⟩
      · obtain rfl : k = S.g.edges.length := by omega
        repeat (first | refine gA pk ?_ | (show AL _ _ _ _ _ _ _; first | refine jO tok 0 ?_))
        exact fin (x := .tup []) (.inl rfl) rfl (Sub.refl _) ⟨_, rfl, rfl⟩ (OSub.refl _)
end Go.Proofs.YtimfponihbfimaaGreat
end
