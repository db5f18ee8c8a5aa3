/- Parts of a proof. -/
import Derived.Test.YtddohheabpiljaaGreatU40
import Derived.Test.YtddohheabpiljaaGreatU41
set_option linter.unusedVariables false
set_option linter.unusedSimpArgs false
section
namespace Go.Sj.Inc
open Go.Sj Go.Sj.Sta Go.Sj.Typ
set_option maxRecDepth 8000
def hasN (i : Int) (x : Mo) : Bool := decide (i ∈ x.1)
def hasE (i : Int) (x : Mo) : Bool := decide (i ∈ x.2)
abbrev Del := List Mo × List Mo
def delR (t : Tys) (g : Gr) (e : Edt) (inj : Bool) (p : Gr) : Del :=
  if e.kind = 1 then ((matL (seaA t p (ediG g e) inj)).filter (hasN g.nodes.length), [])
  else if e.kind = 2 then ((matL (seaA t p (ediG g e) inj)).filter (hasE g.edges.length), [])
  else if e.kind = 3 then ([], (matL (seaA t p g inj)).filter (hasN e.idx))
  else ([], (matL (seaA t p g inj)).filter (hasE e.idx))
abbrev zeroW : Wat := ⟨[], ⟨[], []⟩, false, []⟩
abbrev edtE (t : Tys) (g : Gr) (e : Edt) : Int := editE g e (t.nodes.length : Nat) (t.edges.length : Nat)
def applyR (t : Tys) (w : Wat) (e : Edt) : Wat × List Del × Int :=
  if wvalE t w ≠ 0 then (zeroW, [], wvalE t w)
  else if edtE t w.g e ≠ 0 then (zeroW, [], edtE t w.g e)
  else if matsE t w.ps (ediG w.g e) w.inj ≠ 0 then (zeroW, [], matsE t w.ps (ediG w.g e) w.inj)
  else (⟨w.ps, ediG w.g e, w.inj, matsL t w.ps (ediG w.g e) w.inj⟩, w.ps.map (delR t w.g e w.inj), 0)
theorem edit_kind {g : Gr} {e : Edt} {nt et : Int} (h : editE g e nt et = 0) :
    (e.kind = 1 ∧ (0 ≤ e.ty ∧ e.ty < nt) ∧ g.nodes.length ≠ 40) ∨
    (e.kind = 2 ∧ (0 ≤ e.ty ∧ e.ty < et) ∧ (0 ≤ e.fr ∧ e.fr < g.nodes.length) ∧ (0 ≤ e.to ∧ e.to < g.nodes.length) ∧ g.edges.length ≠ 80) ∨
    (e.kind = 3 ∧ (0 ≤ e.idx ∧ e.idx < g.nodes.length) ∧ ∀ y ∈ g.edges, y.fr ≠ e.idx ∧ y.to ≠ e.idx) ∨
    (e.kind = 4 ∧ (0 ≤ e.idx ∧ e.idx < g.edges.length)) := by
  unfold editE at h
  split at h
  · rename_i h1
    split at h
    · rename_i h2
      split at h
      · cases h
      · exact .inl ⟨h1, h2, by omega⟩
    · cases h
  · split at h
    · rename_i h1
      split at h
      · rename_i h2
        split at h
        · rename_i h3
          split at h
          · cases h
          · exact .inr (.inl ⟨h1, h2, h3.1, h3.2, by omega⟩)
        · cases h
      · cases h
    · split at h
      · rename_i h1
        split at h
        · rename_i h2
          split at h
          · cases h
          · rename_i h3
            refine .inr (.inr (.inl ⟨h1, h2, fun y hy => ?_⟩))
            have := List.any_eq_false.1 (Bool.not_eq_true _ ▸ h3) y hy
            unfold touB at this
            simp only [Bool.or_eq_true, decide_eq_true_eq, not_or] at this
            exact this
        · cases h
      · split at h
        · rename_i h1
          split at h
          · rename_i h2
            exact .inr (.inr (.inr ⟨h1, h2⟩))
          · cases h
        · cases h
theorem ediG_gv {g : Gr} {e : Edt} {nt et : Int} (hg : GV g) (h : editE g e nt et = 0) (hnt : nt ≤ 100) (het : et ≤ 100) : GV (ediG g e) := by
  have hn := hg.nl
  have hel := hg.el
  rcases edit_kind h with ⟨hk, a, b⟩ | ⟨hk, a, b, c, d⟩ | ⟨hk, a, b⟩ | ⟨hk, a⟩
  · have e1 : ediG g e = ⟨g.nodes ++ [e.ty], g.edges⟩ := by unfold ediG; rw [if_pos hk]
    rw [e1]
    refine ⟨by simp; omega, hel, fun x hx => ?_, fun x hx => ?_⟩
    · rcases List.mem_append.1 hx with hx | hx
      · exact hg.nodes x hx
      · rw [List.mem_singleton.1 hx]; omega
    · have := hg.edges x hx
      simp only [List.length_append, List.length_singleton]
      omega
  · have e1 : ediG g e = ⟨g.nodes, g.edges ++ [⟨e.ty, e.fr, e.to⟩]⟩ := by unfold ediG; rw [if_neg (by omega), if_pos hk]
    rw [e1]
    refine ⟨hn, by simp; omega, hg.nodes, fun x hx => ?_⟩
    rcases List.mem_append.1 hx with hx | hx
    · exact hg.edges x hx
    · rw [List.mem_singleton.1 hx]
      exact ⟨by show 0 ≤ e.ty ∧ e.ty ≤ 99; omega, b, c⟩
  · have e1 : ediG g e = ⟨g.nodes.eraseIdx e.idx.toNat, g.edges.map (lesE e.idx)⟩ := by unfold ediG; rw [if_neg (by omega), if_neg (by omega), if_pos hk]
    have hl : (g.nodes.eraseIdx e.idx.toNat).length = g.nodes.length - 1 := by rw [List.length_eraseIdx, if_pos (by omega)]
    rw [e1]
    refine ⟨by show (g.nodes.eraseIdx e.idx.toNat).length ≤ 40; omega, by simp; exact hel, fun x hx => hg.nodes x (List.mem_of_mem_eraseIdx hx), fun x hx => ?_⟩
    obtain ⟨y, hy, rfl⟩ := List.mem_map.1 hx
    have h1 := hg.edges y hy
    have h2 := b y hy
    refine ⟨h1.1, ?_, ?_⟩
    · show 0 ≤ les e.idx y.fr ∧ les e.idx y.fr < ((g.nodes.eraseIdx e.idx.toNat).length : Int)
      rw [hl]
      unfold les
      split <;> omega
    · show 0 ≤ les e.idx y.to ∧ les e.idx y.to < ((g.nodes.eraseIdx e.idx.toNat).length : Int)
      rw [hl]
      unfold les
      split <;> omega
  · have e1 : ediG g e = ⟨g.nodes, g.edges.eraseIdx e.idx.toNat⟩ := by unfold ediG; rw [if_neg (by omega), if_neg (by omega), if_neg (by omega)]
    have hl : (g.edges.eraseIdx e.idx.toNat).length = g.edges.length - 1 := by rw [List.length_eraseIdx, if_pos (by omega)]
    rw [e1]
    exact ⟨hn, by show (g.edges.eraseIdx e.idx.toNat).length ≤ 80; omega, hg.nodes, fun x hx => hg.edges x (List.mem_of_mem_eraseIdx hx)⟩
theorem typT_iff {t : Tys} {g : Gr} : typT t g = true ↔ (∀ n ∈ g.nodes, n < t.nodes.length) ∧ ∀ x ∈ g.edges, x.ty < t.edges.length := by
  unfold typT
  simp only [Bool.and_eq_true, Bool.not_eq_true', List.any_eq_false, decide_eq_true_eq]
  constructor
  · rintro ⟨h1, h2⟩
    exact ⟨fun n hn => by have := h1 n hn; omega, fun x hx => by have := h2 x hx; omega⟩
  · rintro ⟨h1, h2⟩
    exact ⟨fun n hn => by have := h1 n hn; omega, fun x hx => by have := h2 x hx; omega⟩
theorem ediG_typ {t : Tys} {g : Gr} {e : Edt} (hg : typT t g = true) (h : edtE t g e = 0) : typT t (ediG g e) = true := by
  rw [typT_iff] at hg ⊢
  unfold ediG
  rcases edit_kind h with ⟨hk, a, b⟩ | ⟨hk, a, b, c, d⟩ | ⟨hk, a, b⟩ | ⟨hk, a⟩
  · rw [if_pos hk]
    refine ⟨fun n hn => ?_, hg.2⟩
    rcases List.mem_append.1 hn with hn | hn
    · exact hg.1 n hn
    · rw [List.mem_singleton.1 hn]; exact a.2
  · rw [if_neg (by omega), if_pos hk]
    refine ⟨hg.1, fun n hn => ?_⟩
    rcases List.mem_append.1 hn with hn | hn
    · exact hg.2 n hn
    · rw [List.mem_singleton.1 hn]; exact a.2
  · rw [if_neg (by omega), if_neg (by omega), if_pos hk]
    refine ⟨fun n hn => hg.1 n (List.mem_of_mem_eraseIdx hn), fun x hx => ?_⟩
    obtain ⟨y, hy, rfl⟩ := List.mem_map.1 hx
    exact hg.2 y hy
  · rw [if_neg (by omega), if_neg (by omega), if_neg (by omega)]
    exact ⟨hg.1, fun x hx => hg.2 x (List.mem_of_mem_eraseIdx hx)⟩
theorem validS_edi {t : Tys} {p g : Gr} {e : Edt} (ht : t.nodes.length ≤ 100 ∧ t.edges.length ≤ 100) (hv : validS t p g = 0) (h : edtE t g e = 0) : validS t p (ediG g e) = 0 := by
  obtain ⟨h1, h2, h3, h4, h5⟩ := zvz hv
  have h6 := ediG_gv h3 h (by omega) (by omega)
  have h7 := ediG_typ h5 h
  unfold validS
  rw [if_neg (Decidable.not_not.2 h1), if_neg (Decidable.not_not.2 (gvalid_zero.2 h2)), if_neg (Decidable.not_not.2 (gvalid_zero.2 h6)), h4, h7]
  rfl
theorem srt_filter {l : List Mo} (q : Mo → Bool) (h : SrtM l) : SrtM (l.filter q) := h.filter q
theorem srt_nodup {l : List Mo} (h : SrtM l) : l.Nodup := h.imp fun {a b} hab e => by
  subst e
  rw [cmpM_self] at hab
  omega
theorem mat_restN {t : Tys} {p g : Gr} {inj : Bool} {ty : Int} : (matL (seaA t p ⟨g.nodes ++ [ty], g.edges⟩ inj)).filter (fun x => !hasN g.nodes.length x) = matL (seaA t p g inj) := by
  refine srtM_ext (srt_filter _ (mat_srt _)) (mat_srt _) fun x => ?_
  rw [List.mem_filter, mat_addN (g := g) (ty := ty)]
  unfold hasN
  simp
theorem mat_restE {t : Tys} {p g : Gr} {inj : Bool} {y : Ed} : (matL (seaA t p ⟨g.nodes, g.edges ++ [y]⟩ inj)).filter (fun x => !hasE g.edges.length x) = matL (seaA t p g inj) := by
  refine srtM_ext (srt_filter _ (mat_srt _)) (mat_srt _) fun x => ?_
  rw [List.mem_filter, mat_addE (g := g) (y := y)]
  unfold hasE
  simp
theorem cmpL_les {d : Int} : ∀ {a b : List Int}, d ∉ a → d ∉ b → Can.cmpL (a.map (les d)) (b.map (les d)) = Can.cmpL a b
  | [], [], _, _ => rfl
  | [], _ :: _, _, _ => rfl
  | _ :: _, [], _, _ => rfl
  | x :: a, y :: b, h1, h2 => by
    have hx : x ≠ d := fun e => h1 (e ▸ List.mem_cons_self ..)
    have hy : y ≠ d := fun e => h2 (e ▸ List.mem_cons_self ..)
    have ih := cmpL_les (d := d) (a := a) (b := b) (fun h => h1 (List.mem_cons_of_mem _ h)) (fun h => h2 (List.mem_cons_of_mem _ h))
    have hc : Can.cmpI (les d x) (les d y) = Can.cmpI x y := by
      have e1 := les_lt hx hy
      have e2 := les_lt hy hx
      unfold Can.cmpI
      simp only [e1, e2]
    rw [List.map_cons, List.map_cons, Can.cmpL, Can.cmpL, hc, ih]
theorem cmpM_lesN {d : Int} {a b : Mo} (h1 : d ∉ a.1) (h2 : d ∉ b.1) : cmpM (lesN d a) (lesN d b) = cmpM a b := by
  unfold cmpM
  rw [cmpL_les h1 h2]
theorem cmpM_lesQ {d : Int} {a b : Mo} (h1 : d ∉ a.2) (h2 : d ∉ b.2) : cmpM (lesQ d a) (lesQ d b) = cmpM a b := by
  unfold cmpM
  rw [cmpL_les h1 h2]
theorem map_les_rai {d : Int} {l : List Int} : (l.map (rai d)).map (les d) = l := by
  rw [List.map_map]
  have : les d ∘ rai d = id := funext fun z => les_rai d z
  rw [this, List.map_id]
theorem not_rai {d : Int} {l : List Int} : d ∉ l.map (rai d) := fun h => by
  obtain ⟨z, _, he⟩ := List.mem_map.1 h
  exact rai_ne d z he
theorem mat_cutN {t : Tys} {p g : Gr} {inj : Bool} {d : Nat} (hp : GV p) (hd : d < g.nodes.length) (hg : ∀ y ∈ g.edges, y.fr ≠ d ∧ y.to ≠ d) :
    ((matL (seaA t p g inj)).filter (fun x => !hasN d x)).map (lesN d) = matL (seaA t p ⟨g.nodes.eraseIdx d, g.edges.map (lesE d)⟩ inj) := by
  have hm : ∀ x, x ∈ (matL (seaA t p g inj)).filter (fun x => !hasN d x) ↔ (x ∈ matL (seaA t p g inj) ∧ (d : Int) ∉ x.1) := fun x => by
    rw [List.mem_filter]
    unfold hasN
    simp
  refine srtM_ext ?_ (mat_srt _) fun x => ?_
  · rw [SrtM, List.pairwise_map]
    refine (srt_filter _ (mat_srt _)).imp_of_mem fun {a b} ha hb h => ?_
    rw [cmpM_lesN ((hm a).1 ha).2 ((hm b).1 hb).2]
    exact h
  · rw [List.mem_map]
    constructor
    · rintro ⟨y, hy, rfl⟩
      obtain ⟨h1, h2⟩ := (hm y).1 hy
      exact (mat_remN hp hd hg h2).2 h1
    · intro hx
      have e : lesN d (x.1.map (rai d), x.2) = x := Prod.ext map_les_rai rfl
      refine ⟨(x.1.map (rai d), x.2), (hm _).2 ⟨?_, not_rai⟩, e⟩
      rw [← mat_remN hp hd hg not_rai, e]
      exact hx
theorem mat_cutE {t : Tys} {p g : Gr} {inj : Bool} {d : Nat} (hd : d < g.edges.length) :
    ((matL (seaA t p g inj)).filter (fun x => !hasE d x)).map (lesQ d) = matL (seaA t p ⟨g.nodes, g.edges.eraseIdx d⟩ inj) := by
  have hm : ∀ x, x ∈ (matL (seaA t p g inj)).filter (fun x => !hasE d x) ↔ (x ∈ matL (seaA t p g inj) ∧ (d : Int) ∉ x.2) := fun x => by
    rw [List.mem_filter]
    unfold hasE
    simp
  refine srtM_ext ?_ (mat_srt _) fun x => ?_
  · rw [SrtM, List.pairwise_map]
    refine (srt_filter _ (mat_srt _)).imp_of_mem fun {a b} ha hb h => ?_
    rw [cmpM_lesQ ((hm a).1 ha).2 ((hm b).1 hb).2]
    exact h
  · rw [List.mem_map]
    constructor
    · rintro ⟨y, hy, rfl⟩
      obtain ⟨h1, h2⟩ := (hm y).1 hy
      exact (mat_remE hd h2).2 h1
    · intro hx
      have e : lesQ d (x.1, x.2.map (rai d)) = x := Prod.ext rfl map_les_rai
      refine ⟨(x.1, x.2.map (rai d)), (hm _).2 ⟨?_, not_rai⟩, e⟩
      rw [← mat_remE hd not_rai, e]
      exact hx
theorem seaP_mem {S : Sea} {a b : List Int} {x : Mo} (hn : S.pn = none) (he : S.pe = none) : x ∈ matL { S with pn := some a, pe := some b } ↔ (x ∈ matL S ∧ (∀ u, u < S.p.nodes.length → 0 ≤ a.getD u (-1) → x.1[u]? = some (a.getD u (-1))) ∧ ∀ u, u < S.p.edges.length → 0 ≤ b.getD u (-1) → x.2[u]? = some (b.getD u (-1))) := by
  rw [mat_mem, mat_mem]
  have o1 : ∀ u k, offN S.pn u k = false := fun u k => by rw [hn]; rfl
  have o2 : ∀ u k, offN S.pe u k = false := fun u k => by rw [he]; rfl
  have off : ∀ (l : List Int) (u k : Nat), offN (some l) u k = false ↔ (0 ≤ l.getD u (-1) → l.getD u (-1) = k) := fun l u k => by
    show (decide (0 ≤ l.getD u (-1)) && decide (l.getD u (-1) ≠ k)) = false ↔ _
    simp
  have cN : ∀ (ns : List Int) (k : Nat), candN { S with pn := some a, pe := some b } ns k = true ↔ (candN S ns k = true ∧ (0 ≤ a.getD ns.length (-1) → a.getD ns.length (-1) = k)) := fun ns k => by
    unfold candN
    rw [o1, ← off]
    show (!offN (some a) ns.length k && _) = true ↔ _
    cases offN (some a) ns.length k <;> simp
  have cE : ∀ (ns es : List Int) (k : Nat), candE { S with pn := some a, pe := some b } ns es k = true ↔ (candE S ns es k = true ∧ (0 ≤ b.getD es.length (-1) → b.getD es.length (-1) = k)) := fun ns es k => by
    unfold candE fitB
    rw [o2, ← off]
    show (!offN (some b) es.length k && eqE S ns es.length k && _) = true ↔ _
    cases offN (some b) es.length k <;> simp
  have hlen : ∀ {l : List Int} {u : Nat} {z : Int}, l[u]? = some z → (l.take u).length = u := fun {l u z} h => by
    have := (List.getElem?_eq_some_iff.1 h).1
    rw [List.length_take]
    omega
  constructor
  · intro h
    refine ⟨⟨h.nl, h.el, fun u h1 h2 => ?_, fun u h1 h2 => ?_⟩, fun u h2 h3 => ?_, fun u h2 h3 => ?_⟩
    · obtain ⟨k, p, q, r⟩ := h.ns u h1 h2
      exact ⟨k, p, q, ((cN _ _).1 r).1⟩
    · obtain ⟨k, p, q, r⟩ := h.es u h1 h2
      exact ⟨k, p, q, ((cE _ _ _).1 r).1⟩
    · obtain ⟨k, p, q, r⟩ := h.ns u (Nat.zero_le _) h2
      have := ((cN _ _).1 r).2
      rw [hlen p] at this
      rw [p, this h3]
    · obtain ⟨k, p, q, r⟩ := h.es u (Nat.zero_le _) h2
      have := ((cE _ _ _).1 r).2
      rw [hlen p] at this
      rw [p, this h3]
  · rintro ⟨h, ha, hb⟩
    refine ⟨h.nl, h.el, fun u h1 h2 => ?_, fun u h1 h2 => ?_⟩
    · obtain ⟨k, p, q, r⟩ := h.ns u h1 h2
      refine ⟨k, p, q, (cN _ _).2 ⟨r, fun h3 => ?_⟩⟩
      rw [hlen p] at h3 ⊢
      have := ha u h2 h3
      rw [p] at this
      simpa using this.symm
    · obtain ⟨k, p, q, r⟩ := h.es u h1 h2
      refine ⟨k, p, q, (cE _ _ _).2 ⟨r, fun h3 => ?_⟩⟩
      rw [hlen p] at h3 ⊢
      have := hb u h2 h3
      rw [p] at this
      simpa using this.symm
end Go.Sj.Inc
end
section
namespace Go.Proofs.YtddohheabpiljaaGreat
open Go.Sj Go.Sj.Typ Go.Sj.Sta Go.Sj.Inc
set_option maxRecDepth 8000
set_option maxHeartbeats 16000000
def srtL (l : List Mo) : List Mo := (Sort.sort ltM l.toArray).toList
theorem allB_of {l : List Mo} (hl : l.length ≤ 1000000) (hb : ∀ x ∈ l, MoB x) : AllB l.toArray := ⟨by simpa using hl, fun i => by
  by_cases h : i < l.toArray.size
  · rw [get_pos _ h]
    exact hb _ (by simp)
  · rw [get_neg _ h]
    exact ⟨Nat.zero_le _, Nat.zero_le _⟩⟩
theorem srtL_perm (l : List Mo) : (srtL l).Perm l := by
  have h := (Sort.sort_sorts ltM swo_ltM l.toArray).1
  have h3 := h.2.2
  have e1 : ∀ a : Array Mo, a.size = l.toArray.size → (a.extract 0 l.toArray.size).toList = a.toList := fun a ha => by rw [← ha]; simp
  rw [e1 _ h.1, e1 _ rfl] at h3
  exact h3
abbrev LeM (l : List Mo) : Prop := l.Pairwise fun a b => cmpM a b ≤ 0
theorem srtL_le (l : List Mo) : LeM (srtL l) := by
  have h := Sort.sort_sorts ltM swo_ltM l.toArray
  unfold srtL
  rw [LeM, List.pairwise_iff_getElem]
  intro i j hi hj hij
  have hs : (Sort.sort ltM l.toArray).size = l.toArray.size := h.1.1
  have hi' : i < (Sort.sort ltM l.toArray).size := by simpa using hi
  have hj' : j < (Sort.sort ltM l.toArray).size := by simpa using hj
  have := ltM_f.1 (h.2 i j (Nat.zero_le _) hij (by omega))
  rw [get_pos _ hi', get_pos _ hj', cmpM_anti] at this
  simp only [Array.getElem_toList]
  omega
theorem ddA_spec : ∀ (p : Mo) (l : List Mo), LeM (p :: l) → (SrtM (p :: ddA p l)) ∧ ∀ x, x ∈ p :: ddA p l ↔ x ∈ p :: l
  | p, [], h => ⟨List.pairwise_singleton _ _, fun x => Iff.rfl⟩
  | p, y :: l, h => by
    have h1 := List.pairwise_cons.1 h
    have hy := h1.1 y (List.mem_cons_self ..)
    have ih := ddA_spec y l h1.2
    by_cases e : y = p
    · subst e
      rw [ddA, if_pos rfl]
      refine ⟨ih.1, fun x => ?_⟩
      rw [ih.2 x]
      simp
    · rw [ddA, if_neg e]
      have hlt : cmpM p y < 0 := by
        have : cmpM p y ≠ 0 := fun h => e (cmpM_eq h).symm
        omega
      refine ⟨List.pairwise_cons.2 ⟨fun z hz => ?_, ih.1⟩, fun x => ?_⟩
      · rcases List.mem_cons.1 hz with rfl | hz
        · exact hlt
        · exact cmpM_lt_trans hlt ((List.pairwise_cons.1 ih.1).1 z hz)
      · rw [List.mem_cons, ih.2 x, List.mem_cons (b := p)]
theorem dd_spec {l : List Mo} (h : LeM l) : SrtM (dd l) ∧ ∀ x, x ∈ dd l ↔ x ∈ l := by
  cases l with
  | nil => exact ⟨List.Pairwise.nil, fun x => Iff.rfl⟩
  | cons p l => exact ddA_spec p l h
theorem le_srt {l : List Mo} (h : LeM l) (hn : l.Nodup) : SrtM l := by
  have := List.Pairwise.and h hn
  exact this.imp fun {a b} hab => by
    have : cmpM a b ≠ 0 := fun e => hab.2 (cmpM_eq e)
    omega
theorem sortL_spec (l : List Mo) (hl : l.length ≤ 1000000) (hb : ∀ x ∈ l, MoB x) (v : Value) :
    ACalls Tryz.prog 98 [.lit v, .fn (.func 63) [] []] [(v, .row 95 2 (l.map cMo))] (fun y M => y = .tup [] ∧ M = [(v, .row 95 2 ((srtL l).map cMo))]) :=
  sortF_spec l.toArray (allB_of hl hb) v
theorem compL_spec (l : List Mo) (hl : l.length ≤ 1000000) (hb : ∀ x ∈ l, MoB x) (v : Value) :
    ACalls Tryz.prog 99 [.lit v, .fn (.func 42) [] []] [(v, .row 95 2 (l.map cMo))] (fun y M => ∃ v', y = .lit v' ∧ M = [(v', .row 95 2 ((dd l).map cMo))]) :=
  compF_spec l.toArray (allB_of hl hb) v
def hasB (edge : Bool) (i : Int) (x : Mo) : Bool := if edge = true then hasE i x else hasN i x
def lastZ (g : Gr) (edge : Bool) : Int := if edge = true then (g.edges.length : Int) - 1 else (g.nodes.length : Int) - 1
def freM (t : Tys) (p g : Gr) (edge inj : Bool) : List Mo := (matL (seaA t p g inj)).filter (hasB edge (lastZ g edge))
def pinB (edge : Bool) (i : Nat) (z : Int) (x : Mo) : Bool := if edge = true then decide (x.2[i]? = some z) else decide (x.1[i]? = some z)
theorem noneL_get (n u : Nat) : (noneL n).getD u (-1) = -1 := by
  unfold noneL
  rw [List.getD_eq_getElem?_getD, List.getElem?_replicate]
  split <;> rfl
theorem noneL_set (n i u : Nat) (z : Int) (hi : i < n) : ((noneL n).set i z).getD u (-1) = if i = u then z else -1 := by
  rw [List.getD_eq_getElem?_getD, List.getElem?_set]
  split
  · rename_i h
    subst h
    rw [if_pos (by simpa [noneL] using hi)]
    rfl
  · rw [← List.getD_eq_getElem?_getD, noneL_get]
theorem openE_none (n N : Nat) : openE (noneL n) N = 0 := by
  unfold openE
  rw [if_neg]
  rw [Bool.not_eq_true, List.any_eq_false]
  intro x hx
  have := List.eq_of_mem_replicate hx
  subst this
  simp [openB]
  omega
theorem openE_set (n i N : Nat) (hN : 1 ≤ N) : openE ((noneL n).set i ((N : Int) - 1)) N = 0 := by
  unfold openE
  rw [if_neg]
  rw [Bool.not_eq_true, List.any_eq_false]
  intro x hx
  rcases List.mem_or_eq_of_mem_set hx with h | h
  · have := List.eq_of_mem_replicate h
    subst this
    simp [openB]
    omega
  · subst h
    simp [openB]
    omega
section
variable {t : Tys} {p g : Gr} {edge inj : Bool}
theorem lastZ_ge (hN : if edge = true then 1 ≤ g.edges.length else 1 ≤ g.nodes.length) : 0 ≤ lastZ g edge := by
  unfold lastZ
  split at hN <;> rename_i h
  · rw [if_pos h]; omega
  · rw [if_neg h]; omega
theorem pin_mat (hN : if edge = true then 1 ≤ g.edges.length else 1 ≤ g.nodes.length) {i : Nat} (hi : i < freN p edge) :
    matL (seaP t p g (parA p g edge i).1 (parA p g edge i).2 inj) = (matL (seaA t p g inj)).filter (pinB edge i (lastZ g edge)) := by
  refine srtM_ext (mat_srt _) (srt_filter _ (mat_srt _)) fun x => ?_
  have h := seaP_mem (S := seaA t p g inj) (a := (parA p g edge i).1) (b := (parA p g edge i).2) (x := x) rfl rfl
  have hl := lastZ_ge hN
  rw [List.mem_filter]
  refine Iff.trans h (and_congr_right fun _ => ?_)
  unfold freN at hi
  unfold parA pinB lastZ at *
  cases edge with
  | true =>
    simp only [if_pos] at hi hl ⊢
    rw [decide_eq_true_iff]
    constructor
    · intro h
      have := h.2 i hi (by rw [noneL_set _ _ _ _ hi, if_pos rfl]; exact hl)
      rwa [noneL_set _ _ _ _ hi, if_pos rfl] at this
    · intro h
      refine ⟨fun u hu h0 => ?_, fun u hu h0 => ?_⟩
      · rw [noneL_get] at h0; omega
      · rw [noneL_set _ _ _ _ hi] at h0 ⊢
        by_cases e : i = u
        · subst e
          rw [if_pos rfl]
          exact h
        · rw [if_neg e] at h0; omega
  | false =>
    simp only [Bool.false_eq_true, if_false] at hi hl ⊢
    rw [decide_eq_true_iff]
    constructor
    · intro h
      have := h.1 i hi (by rw [noneL_set _ _ _ _ hi, if_pos rfl]; exact hl)
      rwa [noneL_set _ _ _ _ hi, if_pos rfl] at this
    · intro h
      refine ⟨fun u hu h0 => ?_, fun u hu h0 => ?_⟩
      · rw [noneL_set _ _ _ _ hi] at h0 ⊢
        by_cases e : i = u
        · subst e
          rw [if_pos rfl]
          exact h
        · rw [if_neg e] at h0; omega
      · rw [noneL_get] at h0; omega
theorem freI_eq (hv : validS t p g = 0) (hN : if edge = true then 1 ≤ g.edges.length else 1 ≤ g.nodes.length) {i : Nat} (hi : i < freN p edge) :
    freI t p g edge inj i = capR ((matL (seaA t p g inj)).filter (pinB edge i (lastZ g edge))) := by
  rw [← pin_mat hN hi]
  unfold freI extR
  rw [if_neg (Decidable.not_not.2 hv)]
  unfold parA
  cases edge with
  | true =>
    simp only [if_pos] at hN ⊢
    rw [if_neg (by simp [noneL]), if_neg (by rw [openE_none]; decide), if_neg (by rw [openE_set _ _ _ hN]; decide)]
  | false =>
    simp only [Bool.false_eq_true, if_false] at hN ⊢
    rw [if_neg (by simp [noneL]), if_neg (by rw [openE_set _ _ _ hN]; decide), if_neg (by rw [openE_none]; decide)]
theorem pin_has {x : Mo} (hx : x ∈ matL (seaA t p g inj)) (z : Int) : hasB edge z x = true ↔ ∃ i, i < freN p edge ∧ pinB edge i z x = true := by
  have hx := mat_mem.1 hx
  have h1 : x.1.length = p.nodes.length := hx.nl
  have h2 : x.2.length = p.edges.length := hx.el
  unfold hasB pinB freN hasE hasN
  cases edge with
  | true =>
    simp only [if_pos, decide_eq_true_iff]
    rw [← h2]
    exact ⟨fun h => mem_ix h, fun ⟨i, _, h⟩ => ix_mem h⟩
  | false =>
    simp only [Bool.false_eq_true, if_false, decide_eq_true_iff]
    rw [← h1]
    exact ⟨fun h => mem_ix h, fun ⟨i, _, h⟩ => ix_mem h⟩
theorem fresh_list (hv : validS t p g = 0) (hN : if edge = true then 1 ≤ g.edges.length else 1 ≤ g.nodes.length) (he : ∀ i, i < freN p edge → (freI t p g edge inj i).2 = 0) : dd (srtL (freC t p g edge inj)) = freM t p g edge inj := by
  obtain ⟨h1, h2⟩ := dd_spec (srtL_le (freC t p g edge inj))
  refine srtM_ext h1 (srt_filter _ (mat_srt _)) fun x => ?_
  rw [h2 x, (srtL_perm _).mem_iff]
  unfold freM freC
  rw [List.mem_filter, List.mem_flatMap]
  have key : ∀ i, i < freN p edge → (x ∈ (freI t p g edge inj i).1 ↔ x ∈ matL (seaA t p g inj) ∧ pinB edge i (lastZ g edge) x = true) := fun i hi => by
    have h3 := he i hi
    rw [freI_eq hv hN hi] at h3 ⊢
    unfold capR at h3 ⊢
    split at h3
    · cases h3
    · rename_i h4
      rw [if_neg h4, List.mem_filter]
  constructor
  · rintro ⟨i, hi, hx⟩
    have hi := List.mem_range.1 hi
    have h5 := (key i hi).1 hx
    exact ⟨h5.1, (pin_has h5.1 _).2 ⟨i, hi, h5.2⟩⟩
  · rintro ⟨hx, hh⟩
    obtain ⟨i, hi, h5⟩ := (pin_has hx _).1 hh
    exact ⟨i, List.mem_range.2 hi, (key i hi).2 ⟨hx, h5⟩⟩
theorem fresh_many (hv : validS t p g = 0) (hN : if edge = true then 1 ≤ g.edges.length else 1 ≤ g.nodes.length) {i : Nat} (hi : i < freN p edge) (he : (freI t p g edge inj i).2 ≠ 0) : freI t p g edge inj i = ([], 3) ∧ 5000 < (matL (seaA t p g inj)).length := by
  rw [freI_eq hv hN hi] at he ⊢
  unfold capR at he ⊢
  split at he
  · rename_i h
    rw [if_pos h]
    refine ⟨rfl, Nat.lt_of_lt_of_le h (List.length_filter_le _ _)⟩
  · exact absurd rfl he
theorem merged_list {m : List Mo} (hm : m = (matL (seaA t p g inj)).filter (fun x => !hasB edge (lastZ g edge) x)) : srtL (m ++ freM t p g edge inj) = matL (seaA t p g inj) := by
  have hs := mat_srt (seaA t p g inj)
  have hnd := srt_nodup hs
  have hperm : (m ++ freM t p g edge inj).Perm (matL (seaA t p g inj)) := by
    rw [hm]
    unfold freM
    refine List.Perm.trans List.perm_append_comm ?_
    exact List.filter_append_perm _ _
  have hp2 := (srtL_perm (m ++ freM t p g edge inj)).trans hperm
  exact srtM_ext (le_srt (srtL_le _) (hp2.nodup_iff.2 hnd)) hs fun x => hp2.mem_iff
theorem merged_len {m : List Mo} (hm : m = (matL (seaA t p g inj)).filter (fun x => !hasB edge (lastZ g edge) x)) : m.length + (freM t p g edge inj).length = (matL (seaA t p g inj)).length := by
  have := (List.filter_append_perm (hasB edge (lastZ g edge)) (matL (seaA t p g inj))).length_eq
  rw [List.length_append] at this
  rw [hm]
  unfold freM
  omega
end
end Go.Proofs.YtddohheabpiljaaGreat
end
