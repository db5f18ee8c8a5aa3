/-
  Structs and truth values among the arguments of a call, as trees.
-/
import Derived.Test.YtebmopjobmjhmaaSjT
namespace Go.Sj
open Go.ChangeShapes Go.WideShapes Go.ChangeAt Go.RowKit
set_option linter.unusedVariables false

theorem reads_bool {P : Program} {e : Nat} (he : P.underlying e = some .bool) (hc : P.cellsOf e = 1) : Reads P e 1 (fun b : Bool => [.lit (.bool b)]) (fun _ => True) :=
  ⟨hc, by decide, fun _ _ => rfl, fun h => by
    obtain ⟨b, rfl, _⟩ := DataW.trod_bool he h
    exact ⟨b, trivial, .cons (.lit _) .nil⟩⟩

/-- The fields of a struct, from a place on. -/
structure RF (P : Program) (fs : List Field) (off total : Nat) {A : Type} (g : A → List AV) (ok : A → Prop) : Prop where
  len : ∀ a, ok a → off + (g a).length = total
  out : ∀ {H : Type} {enc : TypeId × Value → H} {w : World} {base : Nat} {sp : Nat → Bool} {held : Bool} {cs : List Value},
    (∀ f ∈ fs, ∃ n x, DataW.trod enc P w base sp held n f.type ((cs.drop f.offset).take (P.cellsOf f.type)) = some x) → cs.length = total → ∃ a, ok a ∧ VRs (heapOf w) (g a) (cs.drop off)
theorem rf_nil {P : Program} {total : Nat} : RF P [] total total (fun _ : Unit => []) (fun _ => True) :=
  ⟨fun _ _ => rfl, fun {H enc w base sp held cs} _ hl => ⟨(), trivial, by rw [List.drop_of_length_le (by omega)]; exact .nil⟩⟩
theorem rf_cons {P : Program} {f : Field} {fs : List Field} {off total sz : Nat} {A B : Type} {g : A → List AV} {h : B → List AV} {ok : A → Prop} {okh : B → Prop} (hr : Reads P f.type sz g ok) (ho : f.offset = off) (hs : RF P fs (off + sz) total h okh) :
    RF P (f :: fs) off total (fun x : A × B => g x.1 ++ h x.2) (fun x => ok x.1 ∧ okh x.2) :=
  ⟨fun x hx => by
    have h1 := hr.len x.1 hx.1
    have h2 := hs.len x.2 hx.2
    simp only [List.length_append]
    omega, fun {H enc w base sp held cs} hf hl => by
    obtain ⟨n, x, hx⟩ := hf f (by simp)
    obtain ⟨a, ha, hva⟩ := hr.out hx
    obtain ⟨b, hb, hvb⟩ := hs.out (fun f' hf' => hf f' (by simp [hf'])) hl
    refine ⟨(a, b), ⟨ha, hb⟩, ?_⟩
    rw [ho, hr.cells] at hva
    have e : cs.drop off = (cs.drop off).take sz ++ cs.drop (off + sz) := by
      rw [← List.drop_drop, List.take_append_drop]
    rw [e]
    exact hva.append hvb⟩
theorem reads_struct {P : Program} {t total : Nat} {fs : Array Field} {A : Type} {g : A → List AV} {ok : A → Prop} (ht : P.underlying t = some (.struct fs)) (hc : P.cellsOf t = total) (hpos : 0 < total) (hf : RF P fs.toList 0 total g ok) : Reads P t total g ok :=
  ⟨hc, hpos, fun a ha => by have := hf.len a ha; omega, fun h => by
    obtain ⟨xs, n, _, rfl, hl, hlen, hx⟩ := DataW.trod_struct ht h
    rw [hc] at hl
    have := hf.out (cs := _) (fun f hfm => by
      obtain ⟨i, hi⟩ := List.getElem?_of_mem hfm
      have h1 := hx i f (by simpa using hi)
      have hi2 : i < fs.size := by have := (List.getElem?_eq_some_iff.1 hi).1; simpa using this
      rw [List.getElem?_eq_getElem (by omega)] at h1
      exact ⟨n, _, h1⟩) hl
    simpa using this⟩

/-- An argument that is a struct or an array. -/
theorem arg_readsS {P : Program} {t sz : Nat} {A : Type} {g : A → List AV} {ok : A → Prop} (hr : Reads P t sz g ok) {H : Type} {enc : TypeId × Value → H} {w : World} {base : Nat} {sp : Nat → Bool} {held : Bool} {cs : Array Value} {d : DataW H} {ps : List MemPlace}
    (h : DataW.Trod enc P w base sp held t (.agg cs) d ps) : ∃ a, ok a ∧ VR (heapOf w) (.agg (g a)) (.agg cs) := by
  obtain ⟨fuel, hf⟩ := h
  obtain ⟨a, ha, hv⟩ := hr.out hf
  have := VR.agg_of hv
  exact ⟨a, ha, by simpa [Value.cells] using this⟩
end Go.Sj
