/- Parts of a proof. -/
import Derived.Test.YtddohheabpiljaaGreatU09
import Derived.Test.YtddohheabpiljaaGreatU10
import Derived.Test.YtddohheabpiljaaGreatU11
set_option linter.unusedVariables false
set_option linter.unusedSimpArgs false
section
namespace Go.Sj.Sta
open Go.Sj Go.Sj.Typ
structure Ed where
  ty : Int
  fr : Int
  to : Int
deriving DecidableEq
structure Gr where
  nodes : List Int
  edges : List Ed
def cEd (e : Ed) : List AV := [AI e.ty, AI e.fr, AI e.to]
abbrev edsA (l : List Ed) : AV := .im 3 (l.map cEd)
abbrev grA (g : Gr) : AV := .agg [ints g.nodes, edsA g.edges]
abbrev grP (g : Gr) : AV := .ip [ints g.nodes, edsA g.edges]
structure Cnt where
  ty : Int
  fr : Int
  to : Int
  nu : Int
deriving DecidableEq
structure Sta where
  nodes : List Cnt
  edges : List Cnt
def klt (a b : Cnt) : Prop := a.ty < b.ty ∨ a.ty = b.ty ∧ (a.fr < b.fr ∨ a.fr = b.fr ∧ a.to < b.to)
def keq (a b : Cnt) : Prop := a.ty = b.ty ∧ a.fr = b.fr ∧ a.to = b.to
instance (a b : Cnt) : Decidable (klt a b) := inferInstanceAs (Decidable (_ ∨ _))
instance (a b : Cnt) : Decidable (keq a b) := inferInstanceAs (Decidable (_ ∧ _))
abbrev Srt (l : List Cnt) : Prop := l.Pairwise klt
def kq (k : Cnt) (c : Cnt) : Bool := decide (keq c k)
end Go.Sj.Sta
namespace Go.Sj.Sta
open Go.Sj Go.Sj.Typ
def typB (x : Int) : Bool := decide (0 ≤ x ∧ x ≤ 99)
def edB (n : Nat) (e : Ed) : Bool := decide ((0 ≤ e.ty ∧ e.ty ≤ 99) ∧ (0 ≤ e.fr ∧ e.fr < n) ∧ (0 ≤ e.to ∧ e.to < n))
def gvalid (g : Gr) : Int := if 40 < g.nodes.length ∨ 80 < g.edges.length then 3 else if (g.nodes.any fun x => !typB x) = true then 6 else if (g.edges.any fun e => !edB g.nodes.length e) = true then 6 else 0
structure GV (g : Gr) : Prop where
  nl : g.nodes.length ≤ 40
  el : g.edges.length ≤ 80
  nodes : ∀ x ∈ g.nodes, 0 ≤ x ∧ x ≤ 99
  edges : ∀ e ∈ g.edges, (0 ≤ e.ty ∧ e.ty ≤ 99) ∧ (0 ≤ e.fr ∧ e.fr < g.nodes.length) ∧ (0 ≤ e.to ∧ e.to < g.nodes.length)
theorem gvalid_zero {g : Gr} : gvalid g = 0 ↔ GV g := by
  unfold gvalid
  constructor
  · intro h
    split at h
    · cases h
    · rename_i h1
      split at h
      · cases h
      · rename_i h2
        split at h
        · cases h
        · rename_i h3
          simp only [List.any_eq_true, not_exists, not_and, Bool.not_eq_true', Bool.not_eq_false, typB, edB, decide_eq_true_eq] at h2 h3
          exact ⟨by omega, by omega, h2, h3⟩
  · intro h
    rw [if_neg (by have := h.nl; have := h.el; omega), if_neg, if_neg]
    · simp only [List.any_eq_true, not_exists, not_and, Bool.not_eq_true', Bool.not_eq_false, edB, decide_eq_true_eq]
      exact h.edges
    · simp only [List.any_eq_true, not_exists, not_and, Bool.not_eq_true', Bool.not_eq_false, typB, decide_eq_true_eq]
      exact h.nodes
def nodeAt (g : Gr) (i : Int) : Int := g.nodes.getD i.toNat 0
structure TV (t : Tys) (g : Gr) : Prop where
  types : (validR t).2 = 0
  graph : GV g
  nodes : ∀ x ∈ g.nodes, 0 ≤ x ∧ x < t.nodes.length
  edges : ∀ e ∈ g.edges, (0 ≤ e.ty ∧ e.ty < t.edges.length) ∧ fitsR t e.ty (nodeAt g e.fr) (nodeAt g e.to) = true
def nodeOk (n : Nat) (c : Cnt) : Prop := (0 ≤ c.ty ∧ c.ty < n) ∧ c.fr = 0 ∧ c.to = 0 ∧ 1 ≤ c.nu ∧ c.nu ≤ 40
instance (n : Nat) (c : Cnt) : Decidable (nodeOk n c) := inferInstanceAs (Decidable (_ ∧ _))
def edgeOk (n m : Nat) (c : Cnt) : Prop := (0 ≤ c.ty ∧ c.ty < m) ∧ (0 ≤ c.fr ∧ c.fr < n) ∧ (0 ≤ c.to ∧ c.to < n) ∧ 1 ≤ c.nu ∧ c.nu ≤ 80
instance (n m : Nat) (c : Cnt) : Decidable (edgeOk n m c) := inferInstanceAs (Decidable (_ ∧ _))
def hasB (l : List Cnt) (k : Int) : Bool := l.any fun c => decide (c.ty = k)
structure SN (n : Nat) (l : List Cnt) : Prop where
  ok : ∀ c ∈ l, nodeOk n c
  srt : Srt l
structure SE' (t : Tys) (s : Sta) : Prop where
  ok : ∀ c ∈ s.edges, edgeOk t.nodes.length t.edges.length c
  fits : ∀ c ∈ s.edges, fitsR t c.ty c.fr c.to = true
  has : ∀ c ∈ s.edges, hasB s.nodes c.fr = true ∧ hasB s.nodes c.to = true
  srt : Srt s.edges
end Go.Sj.Sta
namespace Go.Sj.Sta
open Go.Sj Go.Sj.Typ
theorem SN.pos {n : Nat} {l : List Cnt} (h : SN n l) : ∀ c ∈ l, 1 ≤ c.nu := fun c hc => (h.ok c hc).2.2.2.1
theorem SE'.pos {t : Tys} {s : Sta} (h : SE' t s) : ∀ c ∈ s.edges, 1 ≤ c.nu := fun c hc => (h.ok c hc).2.2.2.1
end Go.Sj.Sta
namespace Go.Sj.Sta
open Go.Sj Go.Sj.Typ
section
variable {ns : List Nod} (hp : PR ns ns.length)
def cE (l : List Int) (i : Int) : Int := ((l.filter fun v => decide (v = i)).length : Int)
omit hp in
end
end Go.Sj.Sta
namespace Go.Sj.Sta
open Go.Sj Go.Sj.Typ
abbrev rngI (n : Nat) : List Int := (List.range n).map fun (i : Nat) => (i : Int)
structure Prm (p : List Int) (n : Nat) : Prop where
  perm : p.Perm (rngI n)
theorem Prm.len {p : List Int} {n : Nat} (h : Prm p n) : p.length = n := by rw [h.perm.length_eq]; simp
theorem Prm.rng {p : List Int} {n : Nat} (h : Prm p n) : ∀ x ∈ p, 0 ≤ x ∧ x < n := fun x hx => by
  obtain ⟨i, hi, rfl⟩ := List.mem_map.1 (h.perm.mem_iff.1 hx)
  have := List.mem_range.1 hi
  omega
theorem rngI_nodup (n : Nat) : (rngI n).Nodup := by
  rw [List.nodup_iff_pairwise_ne, List.pairwise_map]
  exact (List.nodup_iff_pairwise_ne.1 List.nodup_range).imp fun h x => h (by omega)
theorem Prm.nodup {p : List Int} {n : Nat} (h : Prm p n) : p.Nodup := h.perm.nodup_iff.2 (rngI_nodup n)
theorem Prm.get {p : List Int} {n i : Nat} (h : Prm p n) (hi : i < n) : ∃ x : Nat, p[i]? = some (x : Int) ∧ x < n := by
  have hl := h.len
  have hx := List.getElem?_eq_getElem (l := p) (i := i) (by omega)
  have := h.rng _ (List.getElem_mem (l := p) (n := i) (by omega))
  exact ⟨p[i].toNat, by rw [hx]; congr 1; omega, by omega⟩
theorem Prm.inj {p : List Int} {n i j : Nat} (h : Prm p n) {x : Int} (hi : p[i]? = some x) (hj : p[j]? = some x) : i = j := by
  obtain ⟨h1, e1⟩ := List.getElem?_eq_some_iff.1 hi
  obtain ⟨h2, e2⟩ := List.getElem?_eq_some_iff.1 hj
  have hn := List.pairwise_iff_getElem.1 (List.nodup_iff_pairwise_ne.1 h.nodup)
  rcases Nat.lt_trichotomy i j with hij | hij | hij
  · exact absurd (e1.trans e2.symm) (hn i j h1 h2 hij)
  · exact hij
  · exact absurd (e2.trans e1.symm) (hn j i h2 h1 hij)
instance : Inhabited Ed := ⟨⟨0, 0, 0⟩⟩
section
variable {t : Tys} {g : Gr} {p q : List Int} (h : TV t g) (hp : Prm p g.nodes.length) (hq : Prm q g.edges.length)
include h hp hq
end
section
variable {t : Tys} {g : Gr} (h : TV t g)
include h
end
end Go.Sj.Sta
namespace Go.Sj.Sta
open Go.Sj Go.Sj.Typ
def OkG (g : Gr) : Prop := g.nodes.length ≤ 140737488355328 ∧ g.edges.length ≤ 140737488355328
def c83 (c : Int × Int × Int) : List AV := [A8 c.1, A8 c.2.1, A8 c.2.2]
def toC3 : List Int → Int × Int × Int
  | [a, b, c] => (a, b, c)
  | _ => (0, 0, 0)
def In3 (c : Int × Int × Int) : Prop := (0 ≤ c.1 ∧ c.1 ≤ 255) ∧ (0 ≤ c.2.1 ∧ c.2.1 ≤ 255) ∧ (0 ≤ c.2.2 ∧ c.2.2 ≤ 255)
theorem toC3_c {l : List Int} (h : l.length = 3) : (l.map fun m => AV.lit (.int .u8 m)) = c83 (toC3 l) := by
  match l, h with
  | [a, b, c], _ => rfl
theorem toC3_ok {l : List Int} (h : Okn 3 l) : In3 (toC3 l) := by
  obtain ⟨h1, h2⟩ := h
  match l, h1, h2 with
  | [a, b, c], _, h2 => exact ⟨wf_n8 (h2 a (by simp)), wf_n8 (h2 b (by simp)), wf_n8 (h2 c (by simp))⟩
abbrev c8 (n : Int) : List AV := [A8 n]
abbrev bytesA (l : List Int) : AV := .im 1 (l.map c8)
def g8s (l : List Int) : List AV := l.map fun m => .lit (.int .u8 m)
end Go.Sj.Sta
namespace Go.Sj.Sta
open Go.Sj Go.Sj.Typ
end Go.Sj.Sta
end
section
namespace Go.Proofs.YtddohheabpiljaaGreat
open Go.Sj Go.Sj.Typ
set_option maxRecDepth 8000
set_option maxHeartbeats 4000000
def idxN (l : List Nod) (p : Nod → Bool) : Int := match l.findIdx? p with | some i => i | none => -1
theorem idxN_any (l : List Nod) (p : Nod → Bool) : (l.any p = true ∧ 0 ≤ idxN l p) ∨ (l.any p = false ∧ idxN l p = -1) := by
  unfold idxN
  cases hf : l.findIdx? p with
  | none =>
    right
    rw [List.findIdx?_eq_none_iff] at hf
    exact ⟨by simpa using hf, rfl⟩
  | some i =>
    left
    rw [List.findIdx?_eq_some_iff_getElem] at hf
    obtain ⟨h1, h2, _⟩ := hf
    exact ⟨List.any_eq_true.2 ⟨_, List.getElem_mem h1, h2⟩, by simp only; omega⟩
theorem idxN_at {l : List Nod} {p : Nod → Bool} {k : Nat} {a : Nod} (h : ∀ x ∈ l.take k, p x = false) (hk : l[k]? = some a) (hp : p a = true) : idxN l p = k := by
  have : l.findIdx? p = some k := by
    rw [List.findIdx?_eq_some_iff_getElem]
    obtain ⟨hlt, he⟩ := List.getElem?_eq_some_iff.1 hk
    refine ⟨hlt, by rw [he]; exact hp, fun j hj => ?_⟩
    have := h l[j] (by rw [List.mem_take_iff_getElem]; exact ⟨j, by omega, rfl⟩)
    simp [this]
  unfold idxN
  rw [this]
theorem IndexFuncN_spec (l : List Nod) (hl : l.length ≤ 1000000) (g : FuncId) (caps : List AV) (p : Nod → Bool) (hg : ∀ a ∈ l, Pure Tryz.prog g (.agg (cNod a) :: caps) (AB (p a))) :
    Pure Tryz.prog 167 [.im 4 (l.map cNod), .fn (.func g) [] caps] (AI (idxN l p)) := by
  have ll : (l.map cNod).length = l.length := by simp
  refine zen Tryz.func167 (by kernel_rfl) rfl Tryz.ntmps167 rfl (by simp) ?_
  repeat (first | refine gA pk ?_)
  rw [ll]
  refine zlx (fun k : Nat => [(0, .im 4 (l.map cNod)), (1, .fn (.func g) [] caps), (7, AI l.length), (8, AI k)]) (fun _ => []) (fun k => k ≤ l.length ∧ ∀ x ∈ l.take k, p x = false) (fun k => l.length - k) 0 ⟨Nat.zero_le _, by simp⟩ ?_ (OSub.refl _) ?_
  · exact subQ
  · rintro k ⟨hk, hp⟩
    rcases Nat.lt_or_ge k l.length with h | h
    · have hx := List.getElem?_eq_getElem h
      have ht := List.take_succ_eq_append_getElem h
      have hc := hg _ (List.getElem_mem h)
      generalize l[k] = y at hx ht hc
      have xk : (l.map cNod)[(k : Int).toNat]? = some (cNod y) := zmp hx
      cases hpy : p y with
      | true =>
        rw [hpy] at hc
        repeat (first | refine gA pk ?_ | (show AL _ _ _ _ _ _ _; first | refine jX tok xk ?_ | refine jP hc ?_))
        rw [← idxN_at hp hx hpy]
        refine finQ ?_
        exact ⟨rfl, rfl⟩
      | false =>
        rw [hpy] at hc
        repeat (first | refine gA pk ?_ | (show AL _ _ _ _ _ _ _; first | refine jX tok xk ?_ | refine jP hc ?_))
        refine ⟨k + 1, ⟨by omega, fun x hx' => ?_⟩, by omega, ?_, OSub.none _⟩
        · rw [ht] at hx'
          rcases List.mem_append.1 hx' with h1 | h1
          · exact hp x h1
          · obtain rfl := List.mem_singleton.1 h1
            exact hpy
        · exact subQ
    · obtain rfl : k = l.length := by omega
      rw [List.take_length] at hp
      repeat (first | refine gA pk ?_)
      rw [show (-1 : Int) = idxN l p from by
        rcases idxN_any l p with ⟨h1, _⟩ | ⟨_, h2⟩
        · obtain ⟨x, hx, hpx⟩ := List.any_eq_true.1 h1
          rw [hp x hx] at hpx; cases hpx
        · exact h2.symm]
      refine finQ ?_
      exact ⟨rfl, rfl⟩
theorem ContainsFuncN_spec (l : List Nod) (hl : l.length ≤ 1000000) (g : FuncId) (caps : List AV) (p : Nod → Bool) (hg : ∀ a ∈ l, Pure Tryz.prog g (.agg (cNod a) :: caps) (AB (p a))) :
    Pure Tryz.prog 145 [.im 4 (l.map cNod), .fn (.func g) [] caps] (AB (l.any p)) := by
  have h := IndexFuncN_spec l hl g caps p hg
  have hc := idxN_any l p
  generalize idxN l p = i at *
  rcases hc with ⟨h1, h2⟩ | ⟨h1, h2⟩
  · rw [h1]
    refine zen Tryz.func145 (by kernel_rfl) rfl Tryz.ntmps145 rfl (by simp) ?_
    repeat (first | refine gA pk ?_ | (show AL _ _ _ _ _ _ _; first | refine jP h ?_))
    refine finQ ?_
    exact ⟨rfl, rfl⟩
  · rw [h1]
    refine zen Tryz.func145 (by kernel_rfl) rfl Tryz.ntmps145 rfl (by simp) ?_
    repeat (first | refine gA pk ?_ | (show AL _ _ _ _ _ _ _; first | refine jP h ?_))
    refine finQ ?_
    exact ⟨rfl, rfl⟩
def idxE (l : List Edg) (p : Edg → Bool) : Int := match l.findIdx? p with | some i => i | none => -1
theorem idxE_any (l : List Edg) (p : Edg → Bool) : (l.any p = true ∧ 0 ≤ idxE l p) ∨ (l.any p = false ∧ idxE l p = -1) := by
  unfold idxE
  cases hf : l.findIdx? p with
  | none =>
    right
    rw [List.findIdx?_eq_none_iff] at hf
    exact ⟨by simpa using hf, rfl⟩
  | some i =>
    left
    rw [List.findIdx?_eq_some_iff_getElem] at hf
    obtain ⟨h1, h2, _⟩ := hf
    exact ⟨List.any_eq_true.2 ⟨_, List.getElem_mem h1, h2⟩, by simp only; omega⟩
theorem idxE_at {l : List Edg} {p : Edg → Bool} {k : Nat} {a : Edg} (h : ∀ x ∈ l.take k, p x = false) (hk : l[k]? = some a) (hp : p a = true) : idxE l p = k := by
  have : l.findIdx? p = some k := by
    rw [List.findIdx?_eq_some_iff_getElem]
    obtain ⟨hlt, he⟩ := List.getElem?_eq_some_iff.1 hk
    refine ⟨hlt, by rw [he]; exact hp, fun j hj => ?_⟩
    have := h l[j] (by rw [List.mem_take_iff_getElem]; exact ⟨j, by omega, rfl⟩)
    simp [this]
  unfold idxE
  rw [this]
theorem IndexFuncE_spec (l : List Edg) (hl : l.length ≤ 1000000) (g : FuncId) (caps : List AV) (p : Edg → Bool) (hg : ∀ a ∈ l, Pure Tryz.prog g (.agg (cEdg a) :: caps) (AB (p a))) :
    Pure Tryz.prog 171 [.im 7 (l.map cEdg), .fn (.func g) [] caps] (AI (idxE l p)) := by
  have ll : (l.map cEdg).length = l.length := by simp
  refine zen Tryz.func171 (by kernel_rfl) rfl Tryz.ntmps171 rfl (by simp) ?_
  repeat (first | refine gA pk ?_)
  rw [ll]
  refine zlx (fun k : Nat => [(0, .im 7 (l.map cEdg)), (1, .fn (.func g) [] caps), (7, AI l.length), (8, AI k)]) (fun _ => []) (fun k => k ≤ l.length ∧ ∀ x ∈ l.take k, p x = false) (fun k => l.length - k) 0 ⟨Nat.zero_le _, by simp⟩ ?_ (OSub.refl _) ?_
  · exact subQ
  · rintro k ⟨hk, hp⟩
    rcases Nat.lt_or_ge k l.length with h | h
    · have hx := List.getElem?_eq_getElem h
      have ht := List.take_succ_eq_append_getElem h
      have hc := hg _ (List.getElem_mem h)
      generalize l[k] = y at hx ht hc
      have xk : (l.map cEdg)[(k : Int).toNat]? = some (cEdg y) := zmp hx
      cases hpy : p y with
      | true =>
        rw [hpy] at hc
        repeat (first | refine gA pk ?_ | (show AL _ _ _ _ _ _ _; first | refine jX tok xk ?_ | refine jP hc ?_))
        rw [← idxE_at hp hx hpy]
        refine finQ ?_
        exact ⟨rfl, rfl⟩
      | false =>
        rw [hpy] at hc
        repeat (first | refine gA pk ?_ | (show AL _ _ _ _ _ _ _; first | refine jX tok xk ?_ | refine jP hc ?_))
        refine ⟨k + 1, ⟨by omega, fun x hx' => ?_⟩, by omega, ?_, OSub.none _⟩
        · rw [ht] at hx'
          rcases List.mem_append.1 hx' with h1 | h1
          · exact hp x h1
          · obtain rfl := List.mem_singleton.1 h1
            exact hpy
        · exact subQ
    · obtain rfl : k = l.length := by omega
      rw [List.take_length] at hp
      repeat (first | refine gA pk ?_)
      rw [show (-1 : Int) = idxE l p from by
        rcases idxE_any l p with ⟨h1, _⟩ | ⟨_, h2⟩
        · obtain ⟨x, hx, hpx⟩ := List.any_eq_true.1 h1
          rw [hp x hx] at hpx; cases hpx
        · exact h2.symm]
      refine finQ ?_
      exact ⟨rfl, rfl⟩
theorem ContainsFuncE_spec (l : List Edg) (hl : l.length ≤ 1000000) (g : FuncId) (caps : List AV) (p : Edg → Bool) (hg : ∀ a ∈ l, Pure Tryz.prog g (.agg (cEdg a) :: caps) (AB (p a))) :
    Pure Tryz.prog 150 [.im 7 (l.map cEdg), .fn (.func g) [] caps] (AB (l.any p)) := by
  have h := IndexFuncE_spec l hl g caps p hg
  have hc := idxE_any l p
  generalize idxE l p = i at *
  rcases hc with ⟨h1, h2⟩ | ⟨h1, h2⟩
  · rw [h1]
    refine zen Tryz.func150 (by kernel_rfl) rfl Tryz.ntmps150 rfl (by simp) ?_
    repeat (first | refine gA pk ?_ | (show AL _ _ _ _ _ _ _; first | refine jP h ?_))
    refine finQ ?_
    exact ⟨rfl, rfl⟩
  · rw [h1]
    refine zen Tryz.func150 (by kernel_rfl) rfl Tryz.ntmps150 rfl (by simp) ?_
    repeat (first | refine gA pk ?_ | (show AL _ _ _ _ _ _ _; first | refine jP h ?_))
    refine finQ ?_
    exact ⟨rfl, rfl⟩
def idxA (l : List Att) (p : Att → Bool) : Int := match l.findIdx? p with | some i => i | none => -1
theorem idxA_any (l : List Att) (p : Att → Bool) : (l.any p = true ∧ 0 ≤ idxA l p) ∨ (l.any p = false ∧ idxA l p = -1) := by
  unfold idxA
  cases hf : l.findIdx? p with
  | none =>
    right
    rw [List.findIdx?_eq_none_iff] at hf
    exact ⟨by simpa using hf, rfl⟩
  | some i =>
    left
    rw [List.findIdx?_eq_some_iff_getElem] at hf
    obtain ⟨h1, h2, _⟩ := hf
    exact ⟨List.any_eq_true.2 ⟨_, List.getElem_mem h1, h2⟩, by simp only; omega⟩
theorem idxA_at {l : List Att} {p : Att → Bool} {k : Nat} {a : Att} (h : ∀ x ∈ l.take k, p x = false) (hk : l[k]? = some a) (hp : p a = true) : idxA l p = k := by
  have : l.findIdx? p = some k := by
    rw [List.findIdx?_eq_some_iff_getElem]
    obtain ⟨hlt, he⟩ := List.getElem?_eq_some_iff.1 hk
    refine ⟨hlt, by rw [he]; exact hp, fun j hj => ?_⟩
    have := h l[j] (by rw [List.mem_take_iff_getElem]; exact ⟨j, by omega, rfl⟩)
    simp [this]
  unfold idxA
  rw [this]
theorem IndexFuncA_spec (l : List Att) (hl : l.length ≤ 1000000) (g : FuncId) (caps : List AV) (p : Att → Bool) (hg : ∀ a ∈ l, Pure Tryz.prog g (.agg (cAtt a) :: caps) (AB (p a))) :
    Pure Tryz.prog 181 [.im 4 (l.map cAtt), .fn (.func g) [] caps] (AI (idxA l p)) := by
  have ll : (l.map cAtt).length = l.length := by simp
  refine zen Tryz.func181 (by kernel_rfl) rfl Tryz.ntmps181 rfl (by simp) ?_
  repeat (first | refine gA pk ?_)
  rw [ll]
  refine zlx (fun k : Nat => [(0, .im 4 (l.map cAtt)), (1, .fn (.func g) [] caps), (7, AI l.length), (8, AI k)]) (fun _ => []) (fun k => k ≤ l.length ∧ ∀ x ∈ l.take k, p x = false) (fun k => l.length - k) 0 ⟨Nat.zero_le _, by simp⟩ ?_ (OSub.refl _) ?_
  · exact subQ
  · rintro k ⟨hk, hp⟩
    rcases Nat.lt_or_ge k l.length with h | h
    · have hx := List.getElem?_eq_getElem h
      have ht := List.take_succ_eq_append_getElem h
      have hc := hg _ (List.getElem_mem h)
      generalize l[k] = y at hx ht hc
      have xk : (l.map cAtt)[(k : Int).toNat]? = some (cAtt y) := zmp hx
      cases hpy : p y with
      | true =>
        rw [hpy] at hc
        repeat (first | refine gA pk ?_ | (show AL _ _ _ _ _ _ _; first | refine jX tok xk ?_ | refine jP hc ?_))
        rw [← idxA_at hp hx hpy]
        refine finQ ?_
        exact ⟨rfl, rfl⟩
      | false =>
        rw [hpy] at hc
        repeat (first | refine gA pk ?_ | (show AL _ _ _ _ _ _ _; first | refine jX tok xk ?_ | refine jP hc ?_))
        refine ⟨k + 1, ⟨by omega, fun x hx' => ?_⟩, by omega, ?_, OSub.none _⟩
        · rw [ht] at hx'
          rcases List.mem_append.1 hx' with h1 | h1
          · exact hp x h1
          · obtain rfl := List.mem_singleton.1 h1
            exact hpy
        · exact subQ
    · obtain rfl : k = l.length := by omega
      rw [List.take_length] at hp
      repeat (first | refine gA pk ?_)
      rw [show (-1 : Int) = idxA l p from by
        rcases idxA_any l p with ⟨h1, _⟩ | ⟨_, h2⟩
        · obtain ⟨x, hx, hpx⟩ := List.any_eq_true.1 h1
          rw [hp x hx] at hpx; cases hpx
        · exact h2.symm]
      refine finQ ?_
      exact ⟨rfl, rfl⟩
theorem ContainsFuncA_spec (l : List Att) (hl : l.length ≤ 1000000) (g : FuncId) (caps : List AV) (p : Att → Bool) (hg : ∀ a ∈ l, Pure Tryz.prog g (.agg (cAtt a) :: caps) (AB (p a))) :
    Pure Tryz.prog 168 [.im 4 (l.map cAtt), .fn (.func g) [] caps] (AB (l.any p)) := by
  have h := IndexFuncA_spec l hl g caps p hg
  have hc := idxA_any l p
  generalize idxA l p = i at *
  rcases hc with ⟨h1, h2⟩ | ⟨h1, h2⟩
  · rw [h1]
    refine zen Tryz.func168 (by kernel_rfl) rfl Tryz.ntmps168 rfl (by simp) ?_
    repeat (first | refine gA pk ?_ | (show AL _ _ _ _ _ _ _; first | refine jP h ?_))
    refine finQ ?_
    exact ⟨rfl, rfl⟩
  · rw [h1]
    refine zen Tryz.func168 (by kernel_rfl) rfl Tryz.ntmps168 rfl (by simp) ?_
    repeat (first | refine gA pk ?_ | (show AL _ _ _ _ _ _ _; first | refine jP h ?_))
    refine finQ ?_
    exact ⟨rfl, rfl⟩
def idxI (l : List Int) (p : Int → Bool) : Int := match l.findIdx? p with | some i => i | none => -1
theorem idxI_any (l : List Int) (p : Int → Bool) : (l.any p = true ∧ 0 ≤ idxI l p) ∨ (l.any p = false ∧ idxI l p = -1) := by
  unfold idxI
  cases hf : l.findIdx? p with
  | none =>
    right
    rw [List.findIdx?_eq_none_iff] at hf
    exact ⟨by simpa using hf, rfl⟩
  | some i =>
    left
    rw [List.findIdx?_eq_some_iff_getElem] at hf
    obtain ⟨h1, h2, _⟩ := hf
    exact ⟨List.any_eq_true.2 ⟨_, List.getElem_mem h1, h2⟩, by simp only; omega⟩
theorem idxI_at {l : List Int} {p : Int → Bool} {k : Nat} {a : Int} (h : ∀ x ∈ l.take k, p x = false) (hk : l[k]? = some a) (hp : p a = true) : idxI l p = k := by
  have : l.findIdx? p = some k := by
    rw [List.findIdx?_eq_some_iff_getElem]
    obtain ⟨hlt, he⟩ := List.getElem?_eq_some_iff.1 hk
    refine ⟨hlt, by rw [he]; exact hp, fun j hj => ?_⟩
    have := h l[j] (by rw [List.mem_take_iff_getElem]; exact ⟨j, by omega, rfl⟩)
    simp [this]
  unfold idxI
  rw [this]
theorem IndexFuncI_spec (l : List Int) (hl : l.length ≤ 1000000) (g : FuncId) (caps : List AV) (p : Int → Bool) (hg : ∀ a ∈ l, Pure Tryz.prog g (AI a :: caps) (AB (p a))) :
    Pure Tryz.prog 101 [.im 1 (l.map cI), .fn (.func g) [] caps] (AI (idxI l p)) := by
  have ll : (l.map cI).length = l.length := by simp
  refine zen Tryz.func101 (by kernel_rfl) rfl Tryz.ntmps101 rfl (by simp) ?_
  repeat (first | refine gA pk ?_)
  rw [ll]
  refine zlx (fun k : Nat => [(0, .im 1 (l.map cI)), (1, .fn (.func g) [] caps), (7, AI l.length), (8, AI k)]) (fun _ => []) (fun k => k ≤ l.length ∧ ∀ x ∈ l.take k, p x = false) (fun k => l.length - k) 0 ⟨Nat.zero_le _, by simp⟩ ?_ (OSub.refl _) ?_
  · exact subQ
  · rintro k ⟨hk, hp⟩
    rcases Nat.lt_or_ge k l.length with h | h
    · have hx := List.getElem?_eq_getElem h
      have ht := List.take_succ_eq_append_getElem h
      have hc := hg _ (List.getElem_mem h)
      generalize l[k] = y at hx ht hc
      have xk : (l.map cI)[(k : Int).toNat]? = some (cI y) := zmp hx
      cases hpy : p y with
      | true =>
        rw [hpy] at hc
        repeat (first | refine gA pk ?_ | (show AL _ _ _ _ _ _ _; first | refine jX tok xk ?_ | refine jP hc ?_))
        rw [← idxI_at hp hx hpy]
        refine finQ ?_
        exact ⟨rfl, rfl⟩
      | false =>
        rw [hpy] at hc
        repeat (first | refine gA pk ?_ | (show AL _ _ _ _ _ _ _; first | refine jX tok xk ?_ | refine jP hc ?_))
        refine ⟨k + 1, ⟨by omega, fun x hx' => ?_⟩, by omega, ?_, OSub.none _⟩
        · rw [ht] at hx'
          rcases List.mem_append.1 hx' with h1 | h1
          · exact hp x h1
          · obtain rfl := List.mem_singleton.1 h1
            exact hpy
        · exact subQ
    · obtain rfl : k = l.length := by omega
      rw [List.take_length] at hp
      repeat (first | refine gA pk ?_)
      rw [show (-1 : Int) = idxI l p from by
        rcases idxI_any l p with ⟨h1, _⟩ | ⟨_, h2⟩
        · obtain ⟨x, hx, hpx⟩ := List.any_eq_true.1 h1
          rw [hp x hx] at hpx; cases hpx
        · exact h2.symm]
      refine finQ ?_
      exact ⟨rfl, rfl⟩
theorem ContainsFuncI_spec (l : List Int) (hl : l.length ≤ 1000000) (g : FuncId) (caps : List AV) (p : Int → Bool) (hg : ∀ a ∈ l, Pure Tryz.prog g (AI a :: caps) (AB (p a))) :
    Pure Tryz.prog 73 [.im 1 (l.map cI), .fn (.func g) [] caps] (AB (l.any p)) := by
  have h := IndexFuncI_spec l hl g caps p hg
  have hc := idxI_any l p
  generalize idxI l p = i at *
  rcases hc with ⟨h1, h2⟩ | ⟨h1, h2⟩
  · rw [h1]
    refine zen Tryz.func73 (by kernel_rfl) rfl Tryz.ntmps73 rfl (by simp) ?_
    repeat (first | refine gA pk ?_ | (show AL _ _ _ _ _ _ _; first | refine jP h ?_))
    refine finQ ?_
    exact ⟨rfl, rfl⟩
  · rw [h1]
    refine zen Tryz.func73 (by kernel_rfl) rfl Tryz.ntmps73 rfl (by simp) ?_
    repeat (first | refine gA pk ?_ | (show AL _ _ _ _ _ _ _; first | refine jP h ?_))
    refine finQ ?_
    exact ⟨rfl, rfl⟩
end Go.Proofs.YtddohheabpiljaaGreat
end
section
namespace Go.Proofs.YtddohheabpiljaaGreat
open Go.Sj Go.Sj.Typ Go.Sj.Sta
set_option maxRecDepth 8000
set_option maxHeartbeats 4000000
def idxG (l : List Ed) (p : Ed → Bool) : Int := match l.findIdx? p with | some i => i | none => -1
theorem idxG_any (l : List Ed) (p : Ed → Bool) : (l.any p = true ∧ 0 ≤ idxG l p) ∨ (l.any p = false ∧ idxG l p = -1) := by
  unfold idxG
  cases hf : l.findIdx? p with
  | none =>
    right
    rw [List.findIdx?_eq_none_iff] at hf
    exact ⟨by simpa using hf, rfl⟩
  | some i =>
    left
    rw [List.findIdx?_eq_some_iff_getElem] at hf
    obtain ⟨h1, h2, _⟩ := hf
    exact ⟨List.any_eq_true.2 ⟨_, List.getElem_mem h1, h2⟩, by simp only; omega⟩
theorem idxG_at {l : List Ed} {p : Ed → Bool} {k : Nat} {a : Ed} (h : ∀ x ∈ l.take k, p x = false) (hk : l[k]? = some a) (hp : p a = true) : idxG l p = k := by
  have : l.findIdx? p = some k := by
    rw [List.findIdx?_eq_some_iff_getElem]
    obtain ⟨hlt, he⟩ := List.getElem?_eq_some_iff.1 hk
    refine ⟨hlt, by rw [he]; exact hp, fun j hj => ?_⟩
    have := h l[j] (by rw [List.mem_take_iff_getElem]; exact ⟨j, by omega, rfl⟩)
    simp [this]
  unfold idxG
  rw [this]
theorem IndexFuncG_spec (l : List Ed) (hl : l.length ≤ 1000000) (g : FuncId) (caps : List AV) (p : Ed → Bool) (hg : ∀ a ∈ l, Pure Tryz.prog g (.agg (cEd a) :: caps) (AB (p a))) :
    Pure Tryz.prog 102 [.im 3 (l.map cEd), .fn (.func g) [] caps] (AI (idxG l p)) := by
  have ll : (l.map cEd).length = l.length := by simp
  refine zen Tryz.func102 (by kernel_rfl) rfl Tryz.ntmps102 rfl (by simp) ?_
  repeat (first | refine gA pk ?_)
  rw [ll]
  refine zlx (fun k : Nat => [(0, .im 3 (l.map cEd)), (1, .fn (.func g) [] caps), (7, AI l.length), (8, AI k)]) (fun _ => []) (fun k => k ≤ l.length ∧ ∀ x ∈ l.take k, p x = false) (fun k => l.length - k) 0 ⟨Nat.zero_le _, by simp⟩ ?_ (OSub.refl _) ?_
  · exact subQ
  · rintro k ⟨hk, hp⟩
    rcases Nat.lt_or_ge k l.length with h | h
    · have hx := List.getElem?_eq_getElem h
      have ht := List.take_succ_eq_append_getElem h
      have hc := hg _ (List.getElem_mem h)
      generalize l[k] = y at hx ht hc
      have xk : (l.map cEd)[(k : Int).toNat]? = some (cEd y) := zmp hx
      cases hpy : p y with
      | true =>
        rw [hpy] at hc
        repeat (first | refine gA pk ?_ | (show AL _ _ _ _ _ _ _; first | refine jX tok xk ?_ | refine jP hc ?_))
        rw [← idxG_at hp hx hpy]
        refine finQ ?_
        exact ⟨rfl, rfl⟩
      | false =>
        rw [hpy] at hc
        repeat (first | refine gA pk ?_ | (show AL _ _ _ _ _ _ _; first | refine jX tok xk ?_ | refine jP hc ?_))
        refine ⟨k + 1, ⟨by omega, fun x hx' => ?_⟩, by omega, ?_, OSub.none _⟩
        · rw [ht] at hx'
          rcases List.mem_append.1 hx' with h1 | h1
          · exact hp x h1
          · obtain rfl := List.mem_singleton.1 h1
            exact hpy
        · exact subQ
    · obtain rfl : k = l.length := by omega
      rw [List.take_length] at hp
      repeat (first | refine gA pk ?_)
      rw [show (-1 : Int) = idxG l p from by
        rcases idxG_any l p with ⟨h1, _⟩ | ⟨_, h2⟩
        · obtain ⟨x, hx, hpx⟩ := List.any_eq_true.1 h1
          rw [hp x hx] at hpx; cases hpx
        · exact h2.symm]
      refine finQ ?_
      exact ⟨rfl, rfl⟩
theorem ContainsFuncG_spec (l : List Ed) (hl : l.length ≤ 1000000) (g : FuncId) (caps : List AV) (p : Ed → Bool) (hg : ∀ a ∈ l, Pure Tryz.prog g (.agg (cEd a) :: caps) (AB (p a))) :
    Pure Tryz.prog 76 [.im 3 (l.map cEd), .fn (.func g) [] caps] (AB (l.any p)) := by
  have h := IndexFuncG_spec l hl g caps p hg
  have hc := idxG_any l p
  generalize idxG l p = i at *
  rcases hc with ⟨h1, h2⟩ | ⟨h1, h2⟩
  · rw [h1]
    refine zen Tryz.func76 (by kernel_rfl) rfl Tryz.ntmps76 rfl (by simp) ?_
    repeat (first | refine gA pk ?_ | (show AL _ _ _ _ _ _ _; first | refine jP h ?_))
    refine finQ ?_
    exact ⟨rfl, rfl⟩
  · rw [h1]
    refine zen Tryz.func76 (by kernel_rfl) rfl Tryz.ntmps76 rfl (by simp) ?_
    repeat (first | refine gA pk ?_ | (show AL _ _ _ _ _ _ _; first | refine jP h ?_))
    refine finQ ?_
    exact ⟨rfl, rfl⟩
def orL (l : List Int) : Int := (l.find? fun x => decide (x ≠ 0)).getD 0
theorem none_takeP {A : Type} {l : List A} {p : A → Bool} {k : Nat} {x : A} (h : ∀ x ∈ l.take k, p x = false) (hx : l[k]? = some x) (hp : p x = false) : ∀ x ∈ l.take (k + 1), p x = false := fun y hy => by
  obtain ⟨hk, rfl⟩ := List.getElem?_eq_some_iff.1 hx
  rw [List.take_succ_eq_append_getElem hk] at hy
  rcases List.mem_append.1 hy with h1 | h1
  · exact h y h1
  · obtain rfl := List.mem_singleton.1 h1; exact hp
theorem find_atP {A : Type} {l : List A} {p : A → Bool} {k : Nat} {x : A} (h : ∀ x ∈ l.take k, p x = false) (hx : l[k]? = some x) (hp : p x = true) : l.find? p = some x := by
  obtain ⟨hk, rfl⟩ := List.getElem?_eq_some_iff.1 hx
  have e : l = l.take k ++ l[k] :: l.drop (k + 1) := by rw [← List.drop_eq_getElem_cons hk, List.take_append_drop]
  rw [congrArg (List.find? p) e, List.find?_append, List.find?_eq_none.2 (fun y hy => by simpa using h y hy), List.find?_cons, hp]
  rfl
theorem Or_spec (l : List Int) (hl : l.length ≤ 1000) : Pure Tryz.prog 89 [ints l] (AI (orL l)) := by
  have ll : (rowI l).length = l.length := by simp
  refine zen Tryz.func89 (by kernel_rfl) rfl Tryz.ntmps89 rfl (by simp) ?_
  repeat (first | refine gA pk ?_)
  rw [ll]
  refine zlx (fun k : Nat => [(3, AI 0), (6, ints l), (7, AI l.length), (8, AI k)]) (fun _ => []) (fun k => k ≤ l.length ∧ ∀ x ∈ l.take k, decide (x ≠ 0) = false) (fun k => l.length - k) 0 ⟨Nat.zero_le _, by simp⟩ ?_ (OSub.refl _) ?_
  · exact subQ
  · rintro k ⟨hk, hno⟩
    rcases Nat.lt_or_ge k l.length with h | h
    · have hx := List.getElem?_eq_getElem h
      generalize l[k] = x at hx
      have xk : (rowI l)[(k : Int).toNat]? = some [AI x] := zmp (f := cI) hx
      by_cases h1 : x = 0
      · have hn := none_takeP (p := fun x => decide (x ≠ 0)) hno hx (by simp [h1])
        repeat (first | refine gA pk ?_ | (show AL _ _ _ _ _ _ _; first | refine jX tok xk ?_))
        refine ⟨k + 1, ⟨by omega, hn⟩, by omega, ?_, OSub.refl _⟩
        exact subQ
      · have hf := find_atP (p := fun x => decide (x ≠ 0)) hno hx (by simp [h1])
        rw [orL, hf]
        repeat (first | refine gA pk ?_ | (show AL _ _ _ _ _ _ _; first | refine jX tok xk ?_))
        refine finQ ?_
        exact ⟨rfl, rfl⟩
    · obtain rfl : k = l.length := by omega
      rw [List.take_length] at hno
      rw [orL, List.find?_eq_none.2 (fun x hx => by simpa using hno x hx)]
      repeat (first | refine gA pk ?_)
      refine finQ ?_
      exact ⟨rfl, rfl⟩
end Go.Proofs.YtddohheabpiljaaGreat
end
section
namespace Go.Proofs.YtddohheabpiljaaGreat
open Go.Sj Go.Sj.Typ Go.Sj.Sta
set_option maxRecDepth 8000
set_option maxHeartbeats 8000000
theorem take_snoc {A : Type} {l : List A} {k : Nat} {c : A} (hc : l[k]? = some c) : l.take (k + 1) = l.take k ++ [c] := by
  obtain ⟨hk, rfl⟩ := List.getElem?_eq_some_iff.1 hc
  exact List.take_succ_eq_append_getElem hk
end Go.Proofs.YtddohheabpiljaaGreat
end
