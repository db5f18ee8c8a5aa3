/- Parts of a proof. -/
import Derived.ProofKit
import Derived.WideKeyArgs
import Derived.OpenShut
import Derived.SizedLaws
import Derived.Test.YtimfponihbfimaaGreatP03
set_option linter.unusedVariables false
set_option linter.unusedSimpArgs false
section
namespace Go.Sj
open Go.ChangeShapes Go.WideShapes Go.ChangeAt Go.RowKit
def heapOf (w : World) : Hp := fun b => w.heap[b]?
structure Reads (P : Program) (e sz : Nat) {A : Type} (g : A → List AV) (ok : A → Prop) : Prop where
  cells : P.cellsOf e = sz
  pos : 0 < sz
  len : ∀ a, ok a → (g a).length = sz
  out : ∀ {H : Type} {enc : TypeId × Value → H} {w : World} {base : Nat} {sp : Nat → Bool} {held : Bool} {fuel : Nat} {cs : List Value} {x : DataW H × List MemPlace},
    DataW.trod enc P w base sp held fuel e cs = some x → ∃ a, ok a ∧ VRs (heapOf w) (g a) cs
theorem reads_int {P : Program} {e : Nat} {k : IntKind} (he : P.underlying e = some (.int k)) (hc : P.cellsOf e = 1) : Reads P e 1 (fun n : Int => [.lit (.int k n)]) (fun n => (Lit.int k n).wf = true) :=
  ⟨hc, by decide, fun _ _ => rfl, fun h => by
    obtain ⟨n, rfl, _, hw⟩ := DataW.trod_int he h
    exact ⟨n, hw, .cons (.lit _) .nil⟩⟩
theorem reads_string {P : Program} {e : Nat} (he : P.underlying e = some .string) (hc : P.cellsOf e = 1) : Reads P e 1 (fun s : ByteArray => [.lit (.string s)]) (fun s => s.size ≤ maxLen) :=
  ⟨hc, by decide, fun _ _ => rfl, fun h => by
    obtain ⟨s, rfl, _, hw⟩ := DataW.trod_string he h
    exact ⟨s, hw, .cons (.lit _) .nil⟩⟩
theorem list_of {A : Type} {R : Nat → A → Prop} : ∀ (n : Nat), (∀ i, i < n → ∃ a, R i a) → ∃ l : List A, l.length = n ∧ ∀ (i : Nat) (a : A), l[i]? = some a → R i a
  | 0, _ => ⟨[], rfl, fun i a h => by simp at h⟩
  | n + 1, h => by
    obtain ⟨l, hl, hr⟩ := list_of n (fun i hi => h i (by omega))
    obtain ⟨a, ha⟩ := h n (by omega)
    refine ⟨l ++ [a], by simp [hl], fun i b hb => ?_⟩
    by_cases hi : i < n
    · rw [List.getElem?_append_left (by omega)] at hb
      exact hr i b hb
    · rw [List.getElem?_append_right (by omega)] at hb
      have : i = n := by
        have := (List.getElem?_eq_some_iff.1 hb).1
        simp at this; omega
      subst this
      simp [hl] at hb
      subst hb
      exact ha
variable {H : Type} {enc : TypeId × Value → H} {P : Program}
theorem trodAll_stays (hl : laidOutB P = true) {W W' : World} (hk : ∀ i, i < W.heap.size → W'.heap[i]? = W.heap[i]?) : ∀ {ts : List TypeId} {vs : List Value} {ds : List (DataW H)} {p : List MemPlace} {sp : Nat → Bool},
    (∀ t ∈ ts, P.readableRec t = true ∧ t < P.types.size) → DataW.TrodAll enc P W 0 (fun _ => true) true ts vs ds p → (∀ x ∈ p, x.block < W.heap.size) → (∀ x ∈ p, sp x.block = true) → DataW.TrodAll enc P W' 0 sp true ts vs ds p
  | [], [], [], p, sp, _, h, _, _ => h
  | t :: ts, v :: vs, d :: ds, p, sp, ht, h, hlt, hs => by
    obtain ⟨p1, q1, h1, h2, rfl⟩ := h
    have hsame : ∀ x : MemPlace, x.block < W.heap.size → W.sameAt W' x := by
      intro x hx
      cases x with
      | cell b o => exact World.cell?_of_block (w := W) (hk b hx)
      | map b => exact hk b hx
    refine ⟨p1, q1, WideElems.Trod_stays hl (ht t (by simp)).1 (ht t (by simp)).2 h1 (fun x hx => hsame x (hlt x (by simp [hx]))) (fun x hx => hs x (by simp [hx])), ?_, rfl⟩
    exact trodAll_stays hl hk (fun u hu => ht u (by simp [hu])) h2 (fun x hx => hlt x (by simp [hx])) (fun x hx => hs x (by simp [hx]))
  | [], [], _ :: _, _, _, _, h, _, _ => h.elim
  | [], _ :: _, _, _, _, _, h, _, _ => h.elim
  | _ :: _, [], _, _, _, _, h, _, _ => h.elim
  | _ :: _, _ :: _, [], _, _, _, h, _, _ => h.elim
theorem law_post {f : Func} {s : ChangeSpec} {W W' : World} {args : Array Value} {ds : List (DataW H)} {before : List MemPlace} {B : TypeId} (hl : laidOutB P = true)
    (hts : ∀ t ∈ f.params.toList, P.readableRec t = true ∧ t < P.types.size) (hvars : s.vars = []) (hW : DataW.Whole enc P f.params.toList s.vars false W args.toList ds [] before)
    (hres : (s.fn H (ds ++ [])).results = [.lit (.bool true)]) (hargs : (s.fn H (ds ++ [])).args = ds) (hvs : (s.fn H (ds ++ [])).vars = []) (hrt : f.resultTypes = #[B]) (hB : P.underlying B = some .bool)
    (hk : ∀ i, i < W.heap.size → W'.heap[i]? = W.heap[i]?) (ho : W'.os = W.os) (hout : W'.output = W.output) :
    s.post enc P f false true false false W args (.bool true) W' := by
  have hlt : ∀ x ∈ before, x.block < W.heap.size := fun x hx => hW.lt x hx
  have hW0 := hW
  obtain ⟨p, q, hA, hV, rfl, hfz, hnd⟩ := hW
  rw [hvars] at hV
  obtain rfl : q = [] := hV
  simp only [List.append_nil] at hlt hfz hW0
  have stays : ∀ sp : Nat → Bool, (∀ x ∈ p, sp x.block = true) → DataW.TrodAll enc P W' 0 sp true f.params.toList args.toList ds p := fun sp hs => trodAll_stays hl hk hts hA hlt hs
  have res : ∀ (b : Nat) (sp : Nat → Bool) (hd : Bool), DataW.TrodAll enc P W' b sp hd f.resultTypes.toList ((Value.bool true).resultList f.resultTypes.size) (s.fn H (ds ++ [])).results [] := by
    intro b sp hd
    rw [hres, hrt]
    exact ⟨[], [], shut_bool hB true, rfl, rfl⟩
  have hold : ∀ x ∈ p, (fun b => decide (b < W.heap.size)) x.block = true := fun x hx => by simpa using hlt x hx
  have hframe : W.keptBut W' (fun _ => False) := ⟨ho, hout, fun i hi => by rw [hk i hi]; split <;> simp_all⟩
  refine ⟨ds, [], p, [], p, [], hW0, res _ _ _, ?_, ?_, World.keptBut_mono (fun _ h => h.elim) hframe, fun hag => by cases hag⟩
  · rw [hargs]; exact stays _ hold
  · rw [hvars, hvs]; rfl
theorem law_call {f : Func} {fid : FuncId} {s : ChangeSpec} {W : World} {args : Array Value} {ds : List (DataW H)} {before : List MemPlace} {B : TypeId} {as : List AV} (hc : Pure P fid as (.lit (.bool true))) (hl : laidOutB P = true)
    (hts : ∀ t ∈ f.params.toList, P.readableRec t = true ∧ t < P.types.size) (hvars : s.vars = []) (hW : DataW.Whole enc P f.params.toList s.vars false W args.toList ds [] before)
    (hres : (s.fn H (ds ++ [])).results = [.lit (.bool true)]) (hargs : (s.fn H (ds ++ [])).args = ds) (hvs : (s.fn H (ds ++ [])).vars = []) (hrt : f.resultTypes = #[B]) (hB : P.underlying B = some .bool)
    (hv : VRs (heapOf W) as args.toList) :
    Calls P fid args W fun e W' => ∃ v, e = .returned v ∧ s.post enc P f false true false false W args v W' := by
  have h := hc.out (heapOf W) ⟨fun _ => none, W.os, W.output⟩ W args.toList ⟨fun b o hb => hb, fun b o hb => (by cases hb), rfl, rfl, (by simp), fun _ _ _ => rfl, by simp, by simp⟩ hv
  simp only [Array.toArray_toList] at h
  refine h.mono fun e W' ⟨v, he, τ, x, L', h1, h2, h3, hx, hL⟩ => ?_
  subst hx
  have hvb := h3.lit_inv
  subst hvb
  refine ⟨_, he, law_post hl hts hvars hW hres hargs hvs hrt hB (fun i hi => ?_) h2.os h2.out⟩
  have := h2.agree i _ (h1 i _ (show heapOf W i = some _ from Array.getElem?_eq_getElem hi))
  rw [this, Array.getElem?_eq_getElem hi]
end Go.Sj
namespace Go.Sj
open Go.ChangeShapes Go.WideShapes Go.ChangeAt Go.RowKit
theorem reads_bool {P : Program} {e : Nat} (he : P.underlying e = some .bool) (hc : P.cellsOf e = 1) : Reads P e 1 (fun b : Bool => [.lit (.bool b)]) (fun _ => True) :=
  ⟨hc, by decide, fun _ _ => rfl, fun h => by
    obtain ⟨b, rfl, _⟩ := DataW.trod_bool he h
    exact ⟨b, trivial, .cons (.lit _) .nil⟩⟩
end Go.Sj
namespace Go.Sj
open Go.ChangeShapes Go.WideShapes Go.ChangeAt Go.RowKit
theorem weightsAll_mem {H : Type} {P : Program} {e : TypeId} : ∀ {ds : List (DataW H)} {d : DataW H}, d ∈ ds → ∀ n ∈ d.weights P e, n ∈ DataW.weightsAll P e ds
  | d0 :: ds, d, hd, n, hn => by
    simp only [DataW.weightsAll, List.mem_append]
    rcases List.mem_cons.1 hd with rfl | hd
    · exact .inl hn
    · exact .inr (weightsAll_mem hd n hn)
  | [], _, hd, _, _ => by cases hd
def Wgt {H : Type} (P : Program) (e : TypeId) (d : DataW H) : Prop := ∀ n ∈ d.weights P e, n ≤ reachBytes
structure ReadsW (P : Program) (e sz : Nat) {A : Type} (g : A → List AV) (ok : A → Prop) : Prop where
  cells : P.cellsOf e = sz
  pos : 0 < sz
  len : ∀ a, ok a → (g a).length = sz
  out : ∀ {H : Type} {enc : TypeId × Value → H} {w : World} {base : Nat} {sp : Nat → Bool} {held : Bool} {fuel : Nat} {cs : List Value} {x : DataW H × List MemPlace},
    DataW.trod enc P w base sp held fuel e cs = some x → Wgt P e x.1 → ∃ a, ok a ∧ VRs (heapOf w) (g a) cs
theorem Reads.w {P : Program} {e sz : Nat} {A : Type} {g : A → List AV} {ok : A → Prop} (h : Reads P e sz g ok) : ReadsW P e sz g ok := ⟨h.cells, h.pos, h.len, fun a _ => h.out a⟩
theorem slice_readsW {P : Program} {t e sz : Nat} {A : Type} {g : A → List AV} {ok : A → Prop} (hr : ReadsW P e sz g ok) (ht : P.underlying t = some (.slice e)) (hbt : Nat.blt 0 (P.bytesOf e) = true)
    {H : Type} {enc : TypeId × Value → H} {w : World} {base : Nat} {sp : Nat → Bool} {held : Bool} {fuel : Nat} {cs : List Value} {x : DataW H × List MemPlace} (h : DataW.trod enc P w base sp held fuel t cs = some x) (hw : Wgt P t x.1) :
    ∃ as : List A, (∀ a ∈ as, ok a) ∧ as.length ≤ reachBytes ∧ ∃ v, cs = [v] ∧ VR (heapOf w) (.im sz (as.map g)) v := by
  have hb1 : 0 < P.bytesOf e := Nat.le_of_ble_eq_true hbt
  rcases DataW.trod_slice ht h with ⟨rfl, _⟩ | ⟨a, len, cap, elems, rest, n, _, rfl, rfl, hb, hl, hm, hlen, hel, hsp, hns⟩
  · exact ⟨[], by simp, by simp, _, rfl, .imNil _ _ _⟩
  · have hwe : ∀ n ∈ (DataW.slice (elems.map (·.1)) (rest.map (·.1))).weights P t, n ≤ reachBytes := hw
    simp only [DataW.weights, ht] at hwe
    have hbound : len ≤ reachBytes := by
      have h1 := hwe _ (List.mem_cons_self ..)
      simp only [List.length_map, hlen] at h1
      have h2 : len ≤ (len + rest.length) * P.bytesOf e := Nat.le_trans (Nat.le_add_right _ _) (Nat.le_mul_of_pos_right _ hb1)
      omega
    have hwi : ∀ (i : Nat) (y : DataW H × List MemPlace), elems[i]? = some y → Wgt P e y.1 := fun i y hy n hn =>
      hwe n (List.mem_cons_of_mem _ (List.mem_append.2 (.inl (weightsAll_mem (List.mem_map.2 ⟨y, List.mem_of_getElem? hy, rfl⟩) n hn))))
    have each : ∀ i, i < len → ∃ z : A, ok z ∧ VRs (heapOf w) (g z) ((List.range sz).map fun j => (w.cell? (a.add (i * sz + j))).getD undef) ∧ ∀ j, j < sz → ∃ u, w.cell? ((a.add (i * sz)).add j) = some u ∧ w.cell? (a.add (i * sz + j)) = some u := by
      intro i hi
      have h1 := hel i hi
      have hgi := List.getElem?_eq_getElem (l := elems) (i := i) (by omega)
      rw [hgi, hr.cells] at h1
      cases hc : w.cells? base (a.add (i * sz)) sz with
      | none => rw [hc] at h1; cases h1
      | some csi =>
        rw [hc] at h1
        simp only [Option.bind_some] at h1
        obtain ⟨z, hz, hv⟩ := hr.out h1 (hwi i _ hgi)
        obtain ⟨_, hcl, hcs⟩ := World.cells?_some hc
        have hadd : ∀ j, j < sz → w.cell? (a.add (i * sz + j)) = w.cell? ((a.add (i * sz)).add j) := by
          intro j hj
          by_cases hj0 : j = 0
          · subst hj0; simp [Addr.add]
          · by_cases hi0 : i * sz = 0
            · simp [hi0, Addr.add]
            · simp [Addr.add, hj0, hi0, Nat.add_assoc]
        refine ⟨z, hz, ?_, fun j hj => ?_⟩
        · have : (List.range sz).map (fun j => (w.cell? (a.add (i * sz + j))).getD undef) = csi := by
            apply List.ext_getElem?
            intro j
            by_cases hj : j < sz
            · rw [List.getElem?_map, List.getElem?_range hj]
              simp only [Option.map_some]
              rw [hadd j hj, hcs j hj, List.getElem?_eq_getElem (by omega)]
              rfl
            · rw [List.getElem?_eq_none (by simp; omega), List.getElem?_eq_none (by omega)]
          rw [this]; exact hv
        · refine ⟨csi[j]'(by omega), ?_, ?_⟩
          · rw [hcs j hj, List.getElem?_eq_getElem (by omega)]
          · rw [hadd j hj, hcs j hj, List.getElem?_eq_getElem (by omega)]
    obtain ⟨as, hal, hal2⟩ := list_of len each
    refine ⟨as, fun z hz => ?_, by omega, _, rfl, ?_⟩
    · obtain ⟨i, hi, rfl⟩ := List.mem_iff_getElem.1 hz
      exact (hal2 i _ (List.getElem?_eq_getElem hi)).1
    · by_cases h0 : len = 0
      · have : as = [] := List.length_eq_zero_iff.1 (by omega)
        subst this
        subst h0
        exact .imNil _ _ _
      · have hpos := hr.pos
        obtain ⟨u0, hu0, _⟩ := (hal2 0 _ (List.getElem?_eq_getElem (by omega))).2.2 0 hpos
        have hu0' : w.cell? a = some u0 := by simpa [Addr.add] using hu0
        obtain ⟨b, off, spot⟩ := a
        unfold World.cell? at hu0'
        simp only at hu0'
        cases hb0 : w.heap[b]? with
        | none => rw [hb0] at hu0'; cases hu0'
        | some o =>
          rw [hb0] at hu0'
          cases o with
          | cells c E fr =>
            simp only at hu0'
            cases spot with
            | some sp => simp at hu0'
            | none =>
              have hcell : ∀ k u, w.cell? (Addr.add ⟨b, off, none⟩ k) = some u → c[off + k]? = some u := by
                intro k u hk
                unfold World.cell? Addr.add at hk
                by_cases hk0 : k = 0
                · subst hk0; simpa [hb0] using hk
                · simpa [hk0, hb0] using hk
              rw [show len = (as.map g).length by simp [hal]]
              refine .im sz (as.map g) b off cap c E fr (fun i j => (w.cell? (Addr.add ⟨b, off, none⟩ (i * sz + j))).getD undef) hb0 (fun e => ?_) (by simp; omega) (fun i y hy => ?_) (fun i y j z hy hz => ?_) (fun i y j z hy hz => ?_)
              · have := congrArg List.length e
                simp at this; subst this; simp at hal; omega
              · rw [List.getElem?_map] at hy
                cases ha : as[i]? with
                | none => rw [ha] at hy; cases hy
                | some q =>
                  rw [ha] at hy; cases hy
                  exact hr.len q (hal2 i q ha).1
              · rw [List.getElem?_map] at hy
                cases ha : as[i]? with
                | none => rw [ha] at hy; cases hy
                | some q =>
                  rw [ha] at hy; cases hy
                  have hj : j < sz := by rw [← hr.len q (hal2 i q ha).1]; exact (List.getElem?_eq_some_iff.1 hz).1
                  obtain ⟨u, _, hu⟩ := (hal2 i q ha).2.2 j hj
                  rw [hcell _ _ hu, hu]; rfl
              · rw [List.getElem?_map] at hy
                cases ha : as[i]? with
                | none => rw [ha] at hy; cases hy
                | some q =>
                  rw [ha] at hy; cases hy
                  have hj : j < sz := by rw [← hr.len q (hal2 i q ha).1]; exact (List.getElem?_eq_some_iff.1 hz).1
                  exact (hal2 i q ha).2.1.2 j z _ hz (by simp [hj])
          | map es clock => simp at hu0'
          | _ => simp at hu0'
theorem readsW_slice {P : Program} {t e sz : Nat} {A : Type} {g : A → List AV} {ok : A → Prop} (hr : ReadsW P e sz g ok) (ht : P.underlying t = some (.slice e)) (hc : P.cellsOf t = 1) (hbt : Nat.blt 0 (P.bytesOf e) = true) :
    ReadsW P t 1 (fun l : List A => [.im sz (l.map g)]) (fun l => (∀ a ∈ l, ok a) ∧ l.length ≤ reachBytes) :=
  ⟨hc, by decide, fun _ _ => rfl, fun h hw => by
    obtain ⟨l, h1, h2, v, rfl, hv⟩ := slice_readsW hr ht hbt h hw
    exact ⟨l, ⟨h1, h2⟩, .cons hv .nil⟩⟩
structure RFW (P : Program) (fs : List Field) (off total : Nat) {A : Type} (g : A → List AV) (ok : A → Prop) : Prop where
  len : ∀ a, ok a → off + (g a).length = total
  out : ∀ {H : Type} {enc : TypeId × Value → H} {w : World} {base : Nat} {sp : Nat → Bool} {held : Bool} {cs : List Value},
    (∀ f ∈ fs, ∃ n x, DataW.trod enc P w base sp held n f.type ((cs.drop f.offset).take (P.cellsOf f.type)) = some x ∧ Wgt P f.type x.1) → cs.length = total → ∃ a, ok a ∧ VRs (heapOf w) (g a) (cs.drop off)
theorem rfw_nil {P : Program} {total : Nat} : RFW P [] total total (fun _ : Unit => []) (fun _ => True) :=
  ⟨fun _ _ => rfl, fun {H enc w base sp held cs} _ hl => ⟨(), trivial, by rw [List.drop_of_length_le (by omega)]; exact .nil⟩⟩
theorem rfw_cons {P : Program} {f : Field} {fs : List Field} {off total sz : Nat} {A B : Type} {g : A → List AV} {h : B → List AV} {ok : A → Prop} {okh : B → Prop} (hr : ReadsW P f.type sz g ok) (ho : f.offset = off) (hs : RFW P fs (off + sz) total h okh) :
    RFW P (f :: fs) off total (fun x : A × B => g x.1 ++ h x.2) (fun x => ok x.1 ∧ okh x.2) :=
  ⟨fun x hx => by
    have h1 := hr.len x.1 hx.1
    have h2 := hs.len x.2 hx.2
    simp only [List.length_append]
    omega, fun {H enc w base sp held cs} hf hl => by
    obtain ⟨n, x, hx, hxw⟩ := hf f (by simp)
    obtain ⟨a, ha, hva⟩ := hr.out hx hxw
    obtain ⟨b, hb, hvb⟩ := hs.out (fun f' hf' => hf f' (by simp [hf'])) hl
    refine ⟨(a, b), ⟨ha, hb⟩, ?_⟩
    rw [ho, hr.cells] at hva
    have e : cs.drop off = (cs.drop off).take sz ++ cs.drop (off + sz) := by
      rw [← List.drop_drop, List.take_append_drop]
    rw [e]
    exact hva.append hvb⟩
theorem readsW_struct {P : Program} {t total : Nat} {fs : Array Field} {A : Type} {g : A → List AV} {ok : A → Prop} (ht : P.underlying t = some (.struct fs)) (hc : P.cellsOf t = total) (hpos : 0 < total) (hf : RFW P fs.toList 0 total g ok) : ReadsW P t total g ok :=
  ⟨hc, hpos, fun a ha => by have := hf.len a ha; omega, fun h hw => by
    obtain ⟨xs, n, _, rfl, hl, hlen, hx⟩ := DataW.trod_struct ht h
    rw [hc] at hl
    have hwe : ∀ n ∈ (DataW.agg (xs.map (·.1))).weights P t, n ≤ reachBytes := hw
    simp only [DataW.weights, ht] at hwe
    have := hf.out (cs := _) (fun f hfm => by
      obtain ⟨i, hi⟩ := List.getElem?_of_mem hfm
      have h1 := hx i f (by simpa using hi)
      have hi2 : i < fs.size := by have := (List.getElem?_eq_some_iff.1 hi).1; simpa using this
      have hgi := List.getElem?_eq_getElem (l := xs) (i := i) (by omega)
      rw [hgi] at h1
      exact ⟨n, _, h1, fun m hm => hwe m (DataW.weights_mem_each (j := i) (t := f.type) (d := (xs[i]).1) (by rw [List.getElem?_map, hi]; rfl) (by rw [List.getElem?_map, hgi]; rfl) m hm)⟩) hl
    simpa using this⟩
theorem arg_readsW {P : Program} {t : Nat} {A : Type} {g : A → AV} {ok : A → Prop} (hr : ReadsW P t 1 (fun a => [g a]) ok) {H : Type} {enc : TypeId × Value → H} {w : World} {base : Nat} {sp : Nat → Bool} {held : Bool} {v : Value} {d : DataW H} {ps : List MemPlace}
    (hv : v.cells = #[v]) (hw : Wgt P t d) (h : DataW.Trod enc P w base sp held t v d ps) : ∃ a, ok a ∧ VR (heapOf w) (g a) v := by
  obtain ⟨fuel, hf⟩ := h
  obtain ⟨a, ha, hv'⟩ := hr.out hf hw
  rw [hv] at hv'
  obtain ⟨y, ys, he, hy, _⟩ := hv'.cons_inv
  simp at he
  rw [← he.1] at hy
  exact ⟨a, ha, hy⟩
theorem arg_readsWS {P : Program} {t sz : Nat} {A : Type} {g : A → List AV} {ok : A → Prop} (hr : ReadsW P t sz g ok) {H : Type} {enc : TypeId × Value → H} {w : World} {base : Nat} {sp : Nat → Bool} {held : Bool} {cs : Array Value} {d : DataW H} {ps : List MemPlace}
    (hw : Wgt P t d) (h : DataW.Trod enc P w base sp held t (.agg cs) d ps) : ∃ a, ok a ∧ VR (heapOf w) (.agg (g a)) (.agg cs) := by
  obtain ⟨fuel, hf⟩ := h
  obtain ⟨a, ha, hv⟩ := hr.out hf hw
  have := VR.agg_of hv
  exact ⟨a, ha, by simpa [Value.cells] using this⟩
theorem wgt_at {H : Type} {P : Program} {ts : List TypeId} {ds : List (DataW H)} (h : (DataW.weightsEach P ts ds).all (· ≤ reachBytes) = true) {j : Nat} {t : TypeId} {d : DataW H} (ht : ts[j]? = some t) (hd : ds[j]? = some d) : Wgt P t d := fun n hn => by
  have := List.all_eq_true.1 h n (DataW.weights_mem_each ht hd n hn)
  simpa using this
end Go.Sj
end
