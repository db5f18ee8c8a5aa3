/-
  Part F: new memory, append, calls, what no longer changes, what is lent.
  No condition; nothing here names a program.
-/
import Derived.Test.YtebmopjobmjhmaaSjE
namespace Go.Sj
set_option linter.unusedVariables false
set_option linter.unusedSimpArgs false

/-! ### A row that never changes, as cells -/

theorem VR.im_cells {σ : Hp} {sz : Nat} {es : List (List AV)} {v : Value} (h : VR σ (.im sz es) v) (hne : es ≠ []) :
    ∃ b off cap c E fr, v = .slice (some ⟨b, off, none⟩) es.length cap ∧ es.length ≤ cap ∧ σ b = some (.cells c E fr) ∧ (∀ e ∈ es, e.length = sz) ∧ VRs σ es.flatten ((c.toList.drop off).take (es.length * sz)) := by
  cases h with
  | imNil _ a cap => exact absurd rfl hne
  | im _ _ b off cap c E fr f h1 h2 h3 h4 h5 h6 =>
    have hl : ∀ e ∈ es, e.length = sz := fun e he => by obtain ⟨i, hi⟩ := List.getElem?_of_mem he; exact h4 i e hi
    have hfl : es.flatten.length = es.length * sz := flatten_len hl
    have key : ∀ i x, es.flatten[i]? = some x → ∃ y, c[off + i]? = some y ∧ VR σ x y := by
      intro i x hx
      have hi : i < es.length * sz := by rw [← hfl]; exact (List.getElem?_eq_some_iff.1 hx).1
      have hsz : 0 < sz := by
        rcases Nat.eq_zero_or_pos sz with h0 | h0
        · rw [h0] at hi; simp at hi
        · exact h0
      have hq : i / sz < es.length := Nat.div_lt_of_lt_mul (by rw [Nat.mul_comm]; exact hi)
      have he : es[i / sz]? = some es[i / sz] := List.getElem?_eq_getElem hq
      have hr : i % sz < (es[i / sz]).length := by rw [h4 _ _ he]; exact Nat.mod_lt _ hsz
      have hii : i / sz * sz + i % sz = i := by rw [Nat.mul_comm]; exact Nat.div_add_mod i sz
      have hg := flatten_get hl he hr
      rw [hii, hx] at hg
      have h7 := h5 _ _ (i % sz) x he hg.symm
      rw [hii] at h7
      exact ⟨_, h7, h6 _ _ _ x he hg.symm⟩
    refine ⟨b, off, cap, c, E, fr, rfl, h3, h1, hl, ?_, fun j x y hx hy => ?_⟩
    · rw [List.length_take, List.length_drop, Array.length_toList (xs := c), hfl]
      rcases Nat.eq_zero_or_pos (es.length * sz) with h0 | h0
      · omega
      · have hlast : es.length * sz - 1 < es.flatten.length := by omega
        obtain ⟨y, hy, _⟩ := key _ _ (List.getElem?_eq_getElem hlast)
        have := (Array.getElem?_eq_some_iff.1 hy).1
        omega
    · obtain ⟨u, hu, hxu⟩ := key j x hx
      rw [List.getElem?_take] at hy
      split at hy
      · rw [List.getElem?_drop, Array.getElem?_toList, hu] at hy
        cases hy
        exact hxu
      · cases hy

theorem VR.im_of {σ : Hp} {sz : Nat} {es : List (List AV)} {b off cap : Nat} {c : Array Value} {E : TypeId} {fr : Nat × Nat} (hb : σ b = some (.cells c E fr)) (hne : es ≠ []) (hcap : es.length ≤ cap) (hl : ∀ e ∈ es, e.length = sz)
    (h : VRs σ es.flatten ((c.toList.drop off).take (es.length * sz))) : VR σ (.im sz es) (.slice (some ⟨b, off, none⟩) es.length cap) := by
  have key : ∀ i e j x, es[i]? = some e → e[j]? = some x → c[off + (i * sz + j)]? = some (c.getD (off + (i * sz + j)) undef) ∧ VR σ x (c.getD (off + (i * sz + j)) undef) := by
    intro i e j x he hx
    have hg := flatten_get hl he (List.getElem?_eq_some_iff.1 hx).1
    rw [hx] at hg
    obtain ⟨y, hy, hxy⟩ := h.get hg
    rw [List.getElem?_take] at hy
    split at hy
    · rw [List.getElem?_drop, Array.getElem?_toList] at hy
      simp only [Array.getD_eq_getD_getElem?, hy, Option.getD_some]
      exact ⟨trivial, hxy⟩
    · cases hy
  exact .im sz es b off cap c E fr (fun i j => c.getD (off + (i * sz + j)) undef) hb hne hcap (fun i e he => hl e (List.mem_of_getElem? he)) (fun i e j x he hx => (key i e j x he hx).1) (fun i e j x he hx => (key i e j x he hx).2)

/-! ### What append takes its elements from -/

def SrcA (σ : Hp) (w : World) (v : Value) (sz : Nat) (es : List (List AV)) : Prop :=
  ∃ a cap, v = .slice a es.length cap ∧ (es ≠ [] → ∃ ad news, a = some ad ∧ news.length = es.length * sz ∧ (∀ j u, news[j]? = some u → w.cell? (ad.add j) = some u) ∧ VRs σ es.flatten news ∧ ∀ e ∈ es, e.length = sz)

theorem SrcA.im {σ : Hp} {w : World} {v : Value} {sz : Nat} {es : List (List AV)} (hw : Agree σ w) (h : VR σ (.im sz es) v) : SrcA σ w v sz es := by
  obtain ⟨a, cap, hv, _⟩ := VR.im_len h
  refine ⟨a, cap, hv, fun hne => ?_⟩
  obtain ⟨b, off, cap', c, E, fr, hv', _, hb, hl, hr⟩ := h.im_cells hne
  rw [hv] at hv'
  cases hv'
  refine ⟨_, _, rfl, by rw [hr.1, flatten_len hl], fun j u hu => ?_, hr, hl⟩
  rw [cell_at (hw b _ hb)]
  rw [List.getElem?_take] at hu
  split at hu
  · rw [List.getElem?_drop, Array.getElem?_toList] at hu; exact hu
  · cases hu

theorem SrcA.own {σ : Hp} {w : World} {v : Value} {E sz : Nat} {es : List (List AV)} (h : Own1 σ w (v, .row E sz es)) : SrcA σ w v sz es := by
  obtain ⟨a, cap, hv, _⟩ := own_row_val h
  refine ⟨a, cap, hv, fun hne => ?_⟩
  obtain ⟨g, cap', cur, hv', h0, hg, hn, hm, hc, hl, hr⟩ := own_row_cells h hne
  rw [hv] at hv'
  cases hv'
  refine ⟨_, _, rfl, by rw [hr.1, flatten_len hl], fun j u hu => ?_, hr, hl⟩
  rw [cell_at hg]
  rw [List.getElem?_take] at hu
  split at hu
  · simpa using hu
  · cases hu

theorem run_append_zero {P : Program} (w : World) (t ty e : TypeId) (i : TypeInfo) (ht : P.underlying t = some (.slice e)) (hi : P.info? e = some i) (base : Option Addr) (n cap : Nat) (hn : n ≤ cap) (a : Option Addr) (c : Nat) :
    (Builtin.append_ #[t, t] ty #[.slice base n cap, .slice a 0 c]).run P w = .ok (.slice base n cap) w := by
  cases base <;> cases a <;> simp [Builtin.append_, run_underlying ht, sizeOf, typeInfo, hi, Builtin.lenOf, Builtin.firstCells, loadCells, loadCellsFrom, storeCells, hn]

theorem own_append {P : Program} {σ : Hp} {w : World} {v u : Value} {E sz : Nat} {es es2 : List (List AV)} {t ty : TypeId} {d : TD} (h : Own1 σ w (v, .row E sz es)) (hs : SrcA σ w u sz es2) (ht : P.underlying t = some (.slice E)) (hd : TI P E d) (hsz : sz = d.size) (hpos : 0 < d.size)
    (hcell : es2.all (fun e => e.all AV.cell) = true) (h63 : es.length + es2.length ≤ maxLen) (hby : (es.length + es2.length) * d.bytes ≤ 140737488355328) :
    ∃ v' w', (Builtin.append_ #[t, t] ty #[v, u]).run P w = .ok v' w' ∧ Own1 σ w' (v', .row E sz (es ++ es2)) ∧ w.heap.size ≤ w'.heap.size ∧ (∀ i, i < w.heap.size → some i ≠ blk v → w'.heap[i]? = w.heap[i]?) ∧ w'.os = w.os ∧ w'.output = w.output ∧
      (∀ b, blk v' = some b → blk v = some b ∨ w.heap.size ≤ b) := by
  subst hsz
  obtain ⟨i, z, hi, his, hib, hz, hzz⟩ := hd.get
  obtain ⟨a, c, hu, hsrc⟩ := hs
  by_cases hne : es2 = []
  · subst hne
    obtain ⟨a0, cap, hv, hcap⟩ := own_row_val h
    refine ⟨v, w, ?_, by simpa using h, Nat.le_refl _, fun _ _ _ => rfl, rfl, rfl, fun b hb => .inl hb⟩
    rw [hu, hv]
    exact run_append_zero w t ty E i ht hi a0 es.length cap hcap a c
  · obtain ⟨ad, news, rfl, hnl, hnews, hnr, hl2⟩ := hsrc hne
    have hm : 0 < es2.length := List.length_pos_iff.2 hne
    have hone : ∀ u ∈ news, u.oneCell' = true := hnr.oneCell (by
      rw [List.all_eq_true]
      intro x hx
      obtain ⟨e, he, hxe⟩ := List.mem_flatten.1 hx
      exact List.all_eq_true.1 (List.all_eq_true.1 hcell e he) x hxe)
    have hsmall : es.length + es2.length ≤ 9223372036854775807 := by simp only [maxLen] at h63; omega
    obtain ⟨xs, hrow, hlen, hvr⟩ := h
    have hxl : xs.length = es.length * d.size := by rw [hvr.1, flatten_len hlen]
    have hlen' : ∀ e ∈ es ++ es2, e.length = d.size := fun e he => by
      rcases List.mem_append.1 he with h1 | h1
      · exact hlen e h1
      · exact hl2 e h1
    have grown : ∀ (old : Nat), old < es.length + es2.length →
        Own1 σ (w.drew.alloc (.cells (xs.toArray ++ news.toArray ++ Builtin.zeroCells z.cells (grownCap w (es.length + es2.length) old E - (es.length + es2.length))) E))
          (.slice (some ⟨w.heap.size, 0, none⟩) (es.length + es2.length) (grownCap w (es.length + es2.length) old E), .row E d.size (es ++ es2)) := by
      intro old ho
      have hge := grownCap_ge w (es.length + es2.length) old E
      have hcm := grownCap_le_maxLen w (es.length + es2.length) old E h63
      refine ⟨xs ++ news, .inr ⟨w.heap.size, _, _, by simp, by omega, heap_alloc_new w.drew _, by simpa using hge, hcm, ?_, ?_⟩, hlen', ?_⟩
      · have hzs : z.cells.size = d.size := by have := congrArg List.length hzz; rw [hd.zlen] at this; simpa using this
        simp only [Array.size_append, List.size_toArray, size_zeroCells, hzs, hxl, hnl, ← Nat.add_mul]
        congr 1
        omega
      · simp only [Array.toList_append, List.append_assoc, List.length_append]
        rw [← List.append_assoc, show (es.length + es2.length) * d.size = (xs ++ news).length by rw [List.length_append, hxl, hnl, Nat.add_mul]]
        exact List.take_left
      · rw [List.flatten_append]
        exact hvr.append hnr
    have hkeep : ∀ (o : Obj) (j : Nat), j < w.heap.size → (w.drew.alloc o).heap[j]? = w.heap[j]? := fun o j hj => heap_alloc_old w.drew o hj
    rcases hrow with ⟨h0, a0, rfl⟩ | ⟨g, cap, cur, rfl, h0, hg, hn, hcm, hcs, htake⟩
    · obtain rfl := List.eq_nil_of_length_eq_zero h0
      have hx : xs = [] := List.eq_nil_of_length_eq_zero (by simpa using hxl)
      subst hx
      have hgr := grown 0 (by simpa using hm)
      simp only [List.length_nil, Nat.zero_add, List.nil_append] at hgr h63 hby hsmall ⊢
      cases a0 with
      | none =>
        have hr := run_append_nil (P := P) w t ty E i z ht hi hz ad es2.length c news (by rw [hnl, his]) hnews hm (by omega) (by rw [hib]; omega)
        rw [hu]
        simp only [Array.empty_append] at hgr
        exact ⟨_, _, hr, hgr, by simp, fun j hj _ => hkeep _ j hj, rfl, rfl, fun b hb => .inr (by simp [blk] at hb; omega)⟩
      | some b0 =>
        have hr := run_append_grow (P := P) w t ty E i z ht hi hz b0 0 0 [] (by simp) (by simp) ad es2.length c news (by rw [hnl, his]) hnews (by omega) (by omega) (growslice_fits (by omega) (by rw [hib, Nat.zero_add]; omega))
        rw [hu]
        simp only [Nat.zero_add] at hr
        exact ⟨_, _, hr, hgr, by simp, fun j hj _ => hkeep _ j hj, rfl, rfl, fun b hb => .inr (by simp [blk] at hb; omega)⟩
    · have hblk : blk (.slice (some ⟨g, 0, none⟩) es.length cap) = some g := by simp [blk]; omega
      by_cases hroom : es.length + es2.length ≤ cap
      · have hfit : es.length * i.size + news.length ≤ cur.size := by rw [hnl, hcs, his, ← Nat.add_mul]; exact Nat.mul_le_mul_right _ hroom
        have hr := run_append_room (P := P) w t ty E i ht hi g es.length cap cur hg ad es2.length c news (by rw [hnl, his]) hnews hone hroom hfit
        rw [hu]
        refine ⟨_, _, hr, ⟨xs ++ news, .inr ⟨g, cap, _, by simp, h0, setRow_heap w g cur _ E _ hg, by simpa using hroom, hcm, ?_, ?_⟩, hlen', ?_⟩, by simp, fun j _ hk => setRow_other w g j _ (fun e => hk (by rw [hblk, e])), rfl, rfl, fun b hb => .inl (by simp [blk] at hb ⊢; exact hb)⟩
        · simp only [List.size_toArray, List.length_append, List.length_take, List.length_drop, Array.length_toList]
          omega
        · simp only [List.toList_toArray, List.length_append]
          rw [his, htake, show (es.length + es2.length) * d.size = (xs ++ news).length by rw [List.length_append, hxl, hnl, Nat.add_mul]]
          exact List.take_left
        · rw [List.flatten_append]
          exact hvr.append hnr
      · have holds : ∀ j u, xs[j]? = some u → w.cell? ((⟨g, 0, none⟩ : Addr).add j) = some u := by
          intro j u hj
          rw [cell_at hg]
          rw [← htake, List.getElem?_take] at hj
          split at hj
          · simpa using hj
          · cases hj
        have hr := run_append_grow (P := P) w t ty E i z ht hi hz ⟨g, 0, none⟩ es.length cap xs (by rw [hxl, his]) holds ad es2.length c news (by rw [hnl, his]) hnews (by omega) (by omega) (growslice_fits (by omega) (by rw [hib]; omega))
        rw [hu]
        exact ⟨_, _, hr, grown cap (by omega), by simp, fun j hj _ => hkeep _ j hj, rfl, rfl, fun b hb => .inr (by simp [blk] at hb; omega)⟩

end Go.Sj
