/-
  Graphs that drafts describe; what reordering and another type do to a code: plain mathematics.
-/
import Derived.Test.YtoaenbfidlgjhaaSjM33
namespace Go.Sj.Can
open Go.Sj Go.Sj.Sta Go.Sj.Typ
set_option linter.unusedVariables false
set_option linter.unusedSimpArgs false
set_option linter.unusedSectionVars false

structure Dr5 where
  nodes : List Int
  edges : List (Int × Int × Int)
abbrev RDr5 := List Int × List (List Int) × Unit
def toDr5 (x : RDr5) : Dr5 := ⟨x.1, x.2.1.map toC3⟩
abbrev dr5L (d : Dr5) : List AV := [bytesA d.nodes, .im 3 (d.edges.map c83)]
abbrev dr5A (d : Dr5) : AV := .agg (dr5L d)
def gDr5 (x : RDr5) : List AV := [.im 1 (x.1.map fun n => [.lit (.int .u8 n)])] ++ ([.im 3 (x.2.1.map g8s)] ++ [])
structure OkD5 (d : Dr5) : Prop where
  nodes : ∀ n ∈ d.nodes, 0 ≤ n ∧ n ≤ 255
  edges : ∀ c ∈ d.edges, In3 c
  nl : d.nodes.length ≤ 140737488355328
  gl : d.edges.length ≤ 140737488355328
abbrev okRD5 (x : RDr5) : Prop := ((∀ m ∈ x.1, (Lit.int .u8 m).wf = true) ∧ x.1.length ≤ reachBytes) ∧ ((∀ a ∈ x.2.1, a.length = 3 ∧ ∀ m ∈ a, (Lit.int .u8 m).wf = true) ∧ x.2.1.length ≤ reachBytes) ∧ True
theorem dr5_vr {σ : Hp} {v : Value} {x : RDr5} (hx : okRD5 x) (h : VR σ (.agg (gDr5 x)) v) : VR σ (dr5A (toDr5 x)) v := by
  have e3 : x.2.1.map g8s = (x.2.1.map toC3).map c83 := by rw [List.map_map]; exact List.map_congr_left fun a ha => toC3_c (hx.2.1.1 a ha).1
  have e : gDr5 x = dr5L (toDr5 x) := by
    show [AV.im 1 (x.1.map fun n => [.lit (.int .u8 n)]), AV.im 3 (x.2.1.map g8s)] = _
    rw [e3]; rfl
  rw [e] at h
  exact h
theorem dr5_ok {x : RDr5} (hx : okRD5 x) : OkD5 (toDr5 x) := by
  have r3 := hx.1.2
  have r4 := hx.2.1.2
  unfold reachBytes at r3 r4
  refine ⟨fun n hn => wf_n8 (hx.1.1 n hn), fun c hc => ?_, ?_, ?_⟩
  · obtain ⟨a, ha, rfl⟩ := List.mem_map.1 hc
    exact toC3_ok (hx.2.1.1 a ha)
  · show x.1.length ≤ _
    omega
  · show (x.2.1.map toC3).length ≤ _
    rw [List.length_map]; omega

def made5N (l : List Int) : List Int := (l.take 8).map fun x => x % 3
def in5 (n : Nat) (c : Int × Int × Int) : Ed := ⟨c.1 % 2, c.2.1 % (n : Int), c.2.2 % (n : Int)⟩
def made5M (n : Nat) (es : List (Int × Int × Int)) : List (Int × Int × Int) := if n = 0 then [] else es.take 10
def made5 (d : Dr5) : Gr := ⟨made5N d.nodes, (made5M (made5N d.nodes).length d.edges).map (in5 (made5N d.nodes).length)⟩
theorem made5_len (d : Dr5) : (made5 d).nodes.length = min 8 d.nodes.length ∧ (made5 d).edges.length ≤ 10 := by
  refine ⟨by simp [made5, made5N], ?_⟩
  show ((made5M _ _).map _).length ≤ 10
  rw [List.length_map]
  unfold made5M
  split
  · simp
  · rw [List.length_take]; omega
theorem made5_n (d : Dr5) : ∀ x ∈ (made5 d).nodes, 0 ≤ x ∧ x < 3 := fun x hx => by
  obtain ⟨y, _, rfl⟩ := List.mem_map.1 (show x ∈ (d.nodes.take 8).map fun x => x % 3 from hx)
  omega
theorem made5_e (d : Dr5) : ∀ e ∈ (made5 d).edges, (0 ≤ e.ty ∧ e.ty < 2) ∧ (0 ≤ e.fr ∧ e.fr < (made5 d).nodes.length) ∧ (0 ≤ e.to ∧ e.to < (made5 d).nodes.length) := fun e he => by
  obtain ⟨c, hc, rfl⟩ := List.mem_map.1 (show e ∈ (made5M (made5N d.nodes).length d.edges).map (in5 (made5N d.nodes).length) from he)
  have h0 : (made5N d.nodes).length ≠ 0 := fun h => by
    unfold made5M at hc
    rw [if_pos h] at hc
    cases hc
  show (0 ≤ c.1 % 2 ∧ c.1 % 2 < 2) ∧ (0 ≤ c.2.1 % ((made5N d.nodes).length : Int) ∧ _ < ((made5N d.nodes).length : Int)) ∧ (0 ≤ c.2.2 % ((made5N d.nodes).length : Int) ∧ _ < ((made5N d.nodes).length : Int))
  have h1 : (0 : Int) < ((made5N d.nodes).length : Int) := by omega
  exact ⟨by omega, ⟨Int.emod_nonneg _ (by omega), Int.emod_lt_of_pos _ h1⟩, ⟨Int.emod_nonneg _ (by omega), Int.emod_lt_of_pos _ h1⟩⟩
theorem made5_gv (d : Dr5) : GV (made5 d) := by
  obtain ⟨l1, l2⟩ := made5_len d
  refine ⟨by omega, by omega, fun x hx => ?_, fun e he => ?_⟩
  · have := made5_n d x hx; omega
  · have := made5_e d e he; omega
section
variable {g : Gr} {p q : List Int} (h : GV g) (hp : Prm p g.nodes.length) (hq : Prm q g.edges.length)
include h hp hq
theorem reG_n : (reG g p q).nodes.Perm g.nodes := reK_perm hp rfl (by simp [zN])
theorem reG_e : (reG g p q).edges.Perm (g.edges.map (mvE p)) := reK_perm hq (by simp) (by simp [zE])
theorem reG_nN {x : Int} (hx : 0 ≤ x ∧ x < g.nodes.length) : (0 ≤ p.getD x.toNat 0 ∧ p.getD x.toNat 0 < g.nodes.length) ∧ nN (reG g p q) (p.getD x.toNat 0) = nN g x := by
  have hl := hp.len
  have hx1 := List.getElem?_eq_getElem (l := p) (i := x.toNat) (by omega)
  have hr := hp.rng _ (List.getElem_mem (l := p) (n := x.toNat) (by omega))
  have e : p.getD x.toNat 0 = p[x.toNat]'(by omega) := by rw [List.getD_eq_getElem?_getD, hx1]; rfl
  have := reK_get hp rfl (z := zN g.nodes.length) (by simp [zN]) _ (Nat.le_refl _) x.toNat _ (by omega) hx1
  refine ⟨by rw [e]; exact hr, ?_⟩
  rw [e]
  unfold nN nodeAt
  rw [List.getD_eq_getElem?_getD, List.getD_eq_getElem?_getD]
  show ((reK p g.nodes _ _)[_]?).getD 0 = _
  rw [this]
theorem reG_gv : GV (reG g p q) := by
  have n1 := reG_n h hp hq
  have e1 := reG_e h hp hq
  have hl := n1.length_eq
  have hel := e1.length_eq
  rw [List.length_map] at hel
  refine ⟨by rw [hl]; exact h.nl, by rw [hel]; exact h.el, fun x hx => h.nodes x (n1.mem_iff.1 hx), fun e he => ?_⟩
  obtain ⟨f, hf, rfl⟩ := List.mem_map.1 (e1.mem_iff.1 he)
  obtain ⟨k1, k2, k3⟩ := h.edges f hf
  rw [hl]
  exact ⟨k1, (reG_nN h hp hq k2).1, (reG_nN h hp hq k3).1⟩
theorem reG_code : codG (reG g p q) = codG g := by
  have n1 := (reG_n h hp hq).length_eq
  exact codG_move h (reG_gv h hp hq) n1 hp (reG_e h hp hq) fun x hx => (reG_nN h hp hq hx).2
theorem reG_can : canG (reG g p q) = canG g := (canG_of_code (reG_n h hp hq).length_eq (reG_code h hp hq).symm).symm
end
theorem canM_id {g : Gr} (h : GV g) : ms g.nodes.length (ordG (canG g)) = rngI g.nodes.length := by
  rw [canG_ord h]
  have hp : Prm (rngI g.nodes.length) g.nodes.length := ⟨.refl _⟩
  refine List.ext_getElem? fun i => ?_
  rcases Nat.lt_or_ge i g.nodes.length with hi | hi
  · have h1 : (rngI g.nodes.length)[i]? = some (i : Int) := by simp [rngI, List.getElem?_range hi]
    have := ms_get (prm_po hp) h1
    rw [Int.toNat_natCast] at this
    rw [this, h1]
  · rw [List.getElem?_eq_none (by rw [ms_len]; omega), List.getElem?_eq_none (by simp [rngI]; omega)]

/-- One element of another type. -/
def dif5 (g : Gr) (i : Nat) : Gr := if i < g.nodes.length then ⟨g.nodes.set i 7, g.edges⟩ else ⟨g.nodes, g.edges.modify (i - g.nodes.length) fun e => ⟨7, e.fr, e.to⟩⟩
theorem dif5_len (g : Gr) (i : Nat) : (dif5 g i).nodes.length = g.nodes.length ∧ (dif5 g i).edges.length = g.edges.length := by
  unfold dif5
  split <;> simp
theorem dif5_gv {g : Gr} (h : GV g) (i : Nat) : GV (dif5 g i) := by
  obtain ⟨l1, l2⟩ := dif5_len g i
  refine ⟨by rw [l1]; exact h.nl, by rw [l2]; exact h.el, fun x hx => ?_, fun e he => ?_⟩
  · unfold dif5 at hx
    split at hx
    · rcases List.mem_or_eq_of_mem_set hx with h1 | rfl
      · exact h.nodes x h1
      · omega
    · exact h.nodes x hx
  · rw [l1]
    unfold dif5 at he
    split at he
    · exact h.edges e he
    · obtain ⟨k, hk, rfl⟩ := List.mem_iff_getElem.1 he
      simp only [List.length_modify] at hk
      have := h.edges _ (List.getElem_mem hk)
      simp only [List.getElem_modify]
      split
      · show (0 ≤ 7 ∧ 7 ≤ 99) ∧ _
        exact ⟨by omega, this.2⟩
      · exact this
theorem dif5_code {g : Gr} (h : GV g) (hn : ∀ x ∈ g.nodes, x < 7) (he : ∀ e ∈ g.edges, e.ty < 7) {i : Nat} (hi : i < g.nodes.length + g.edges.length) : codG g ≠ codG (dif5 g i) := fun e => by
  obtain ⟨h1, h2⟩ := codG_diff h (dif5_gv h i) e
  unfold dif5 at h1 h2
  split at h1
  · rename_i hlt
    have : (7 : Int) ∈ g.nodes := h1.mem_iff.2 (List.mem_of_getElem? (i := i) (List.getElem?_set_self hlt))
    have := hn _ this
    omega
  · rename_i hge
    rw [if_neg hge] at h2
    have hk : i - g.nodes.length < (g.edges.modify (i - g.nodes.length) fun e => ⟨7, e.fr, e.to⟩).length := by rw [List.length_modify]; omega
    have : (7 : Int) ∈ (g.edges.modify (i - g.nodes.length) fun e => ⟨7, e.fr, e.to⟩).map (·.ty) := List.mem_map.2 ⟨_, List.getElem_mem hk, by simp [List.getElem_modify]⟩
    obtain ⟨f, hf, hf2⟩ := List.mem_map.1 (h2.mem_iff.2 this)
    have := he f hf
    omega
end Go.Sj.Can
