/- Parts of a proof. -/
import Derived.Lib.AppendZerosOnto
import Derived.Lib.Overlaps
import Derived.Test.YtimfponihbfimaaGreatP07
set_option linter.unusedVariables false
set_option linter.unusedSimpArgs false
section
namespace Go.Sj
section
variable {P : Program} {N : Nat} {ops : List Oper} {Q : St → Own → Prop} {L : Own} {rest : List (Oper × Kd)} {l : List (Nat × AV)} {k : Kd} {q : Nat}
theorem addr0 (g j : Nat) : (⟨g, 0, none⟩ : Addr).add j = ⟨g, j, none⟩ := by unfold Addr.add; split <;> simp_all
theorem SrcA.part {σ : Hp} {w : World} {v : Value} {E sz : Nat} {es : List (List AV)} (h : Own1 σ w (v, .row E sz es)) {lo hi : Nat} (h1 : lo ≤ hi) (h2 : hi ≤ es.length) : SrcA σ w (subV v sz lo hi) sz ((es.take hi).drop lo) := by
  obtain ⟨av, cap, hv, hcap⟩ := own_row_val h
  have hlen : ((es.take hi).drop lo).length = hi - lo := by simp; omega
  refine ⟨if cap = lo then av else av.map (·.add (lo * sz)), cap - lo, by rw [hv, hlen]; rfl, fun hne => ?_⟩
  have hlt : lo < hi := by
    rcases Nat.lt_or_ge lo hi with h | h
    · exact h
    · exact absurd (List.eq_nil_of_length_eq_zero (by rw [hlen]; omega)) hne
  have hne' : es ≠ [] := fun e => by rw [e] at h2; simp at h2; omega
  obtain ⟨g, cap', cur, hv', hc0, hg, hnc, hcm, hcs, hl, hvr⟩ := own_row_cells h hne'
  rw [hv] at hv'
  cases hv'
  have hfl : es.flatten.length = es.length * sz := flatten_len hl
  have hsz : es.length * sz ≤ cur.size := by rw [hcs]; exact Nat.mul_le_mul_right _ hnc
  have hhs : hi * sz ≤ es.length * sz := Nat.mul_le_mul_right _ h2
  have hls : lo * sz ≤ hi * sz := Nat.mul_le_mul_right _ h1
  refine ⟨⟨g, lo * sz, none⟩, (cur.toList.take (hi * sz)).drop (lo * sz), by rw [if_neg (by omega), Option.map_some, addr0], ?_, fun j u hu => ?_, ?_, fun e he => hl e (List.mem_of_mem_take (List.mem_of_mem_drop he))⟩
  · rw [List.length_drop, List.length_take, Array.length_toList, hlen, Nat.min_eq_left (by omega), Nat.sub_mul]
  · rw [List.getElem?_drop, List.getElem?_take] at hu
    rw [cell_at hg]
    split at hu
    · simpa using hu
    · cases hu
  · have e1 : ((es.take hi).drop lo).flatten = (es.flatten.take (hi * sz)).drop (lo * sz) := by
      rw [flatten_take hl h2]
      have hl' : ∀ e ∈ es.take hi, e.length = sz := fun e he => hl e (List.mem_of_mem_take he)
      have h6 : (es.take hi).flatten = ((es.take hi).take lo).flatten ++ ((es.take hi).drop lo).flatten := by rw [← List.flatten_append, List.take_append_drop]
      rw [h6, show lo * sz = ((es.take hi).take lo).flatten.length from (flatten_take_len hl' (by simp; omega)).symm, List.drop_left]
    rw [e1]
    have h7 := (hvr.take (hi * sz)).drop (lo * sz)
    rwa [List.take_take, Nat.min_eq_left hhs] at h7
end
end Go.Sj
namespace Go.Sj
inductive OX where
  | stop
  | nd (is : List Nat) (kid sib : OX)
def OX.len : OX → Nat
  | .stop => 0
  | .nd is kid _ => is.length + kid.len
def OX.all (n : Nat) : OX → Bool
  | .stop => true
  | .nd is kid sib => (is.all fun i => Nat.blt i n) && kid.all n && sib.all n
def OX.heads : OX → List Nat
  | .stop => []
  | .nd is _ sib => is.headD 0 :: sib.heads
def chkX (ops : Array Oper) (ks : List Kd) : Nat → OX → Array Bool → Bool
  | _, .stop, _ => true
  | m, .nd [] _ _, _ => false
  | m, .nd (i :: is) kid sib, li => (ks.getD i .eff == .eff) && (Nat.beq (is.length + 1 + kid.len) m) && (match chkP ops ks is (li.setIfInBounds i true) with
    | some li' => (Region.ready .any ops li' == kid.heads) && chkX ops ks kid.len kid li'
    | none => false) && chkX ops ks m sib li
def AX (ks : List Kd) (P : Program) (N : Nat) (l : List Oper) (Q : St → Own → Prop) : Bool → OX → St → Own → Prop
  | true, .stop, st, L => Q st L
  | false, .stop, _, _ => True
  | _, .nd is kid sib, st, L => AL P N l (fun st' L' => AX ks P N l Q true kid st' L') (mkLK ks l is) st L ∧ AX ks P N l Q false sib st L
section
variable {ks : List Kd} {P : Program} {N : Nat} {l : List Oper} {Q : St → Own → Prop}
theorem ax_stop {st : St} {L : Own} (h : Q st L) : AX ks P N l Q true .stop st L := h
theorem ax_none {st : St} {L : Own} : AX ks P N l Q false .stop st L := trivial
theorem ax_nd {b : Bool} {is : List Nat} {kid sib : OX} {st : St} {L : Own} (h : AL P N l (fun st' L' => AX ks P N l Q true kid st' L') (mkLK ks l is) st L) (k : AX ks P N l Q false sib st L) : AX ks P N l Q b (.nd is kid sib) st L := by
  cases b <;> exact ⟨h, k⟩
theorem AAny_x : ∀ (t : OX) (li : Array Bool) (st : St) (L : Own) (m : Nat), t.all l.length = true → AX ks P N l Q false t st L → chkX l.toArray ks m t li = true → ∀ i ∈ t.heads, ∀ o, l[i]? = some o →
    ks.getD i .eff = .eff ∧ ∃ m', m = m' + 1 ∧ AK P N l .eff o (AAny P N l ks Q m' (li.setIfInBounds i true)) st L
  | .stop, li, st, L, m, _, _, _, i, hi, o, ho => by cases hi
  | .nd [] kid sib, li, st, L, m, _, _, hc, i, hi, o, ho => by cases hc
  | .nd (i0 :: is) kid sib, li, st, L, m, hall, h, hc, i, hi, o, ho => by
    simp only [OX.all, Bool.and_eq_true] at hall
    obtain ⟨⟨hall1, hall2⟩, hall3⟩ := hall
    simp only [chkX, Bool.and_eq_true] at hc
    obtain ⟨⟨⟨c1, c2⟩, c3⟩, c4⟩ := hc
    have c2 := Nat.eq_of_beq_eq_true c2
    rcases List.mem_cons.1 hi with hi | hi
    · have hi : i = i0 := hi
      subst hi
      have ho : l[i]? = some o := ho
      have hk : ks.getD i .eff = .eff := by simpa using c1
      refine ⟨hk, is.length + kid.len, by omega, ?_⟩
      have h1 := h.1
      rw [mkLK_cons ho, hk] at h1
      simp only [List.all_cons, Bool.and_eq_true] at hall1
      obtain ⟨g1, g2⟩ := mkLK_facts (ks := ks) hall1.2
      split at c3
      · rename_i li' hli
        simp only [Bool.and_eq_true, beq_iff_eq] at c3
        obtain ⟨r1, r2⟩ := c3
        have part : ∀ st' L', AX ks P N l Q true kid st' L' → AAny P N l ks Q kid.len li' st' L' := fun st' L' hA => by
          cases kid with
          | stop => exact ⟨r1, hA⟩
          | nd is' kid' sib' =>
            have hpos : ∃ q, (OX.nd is' kid' sib').len = q + 1 := by
              cases is' with
              | nil => cases r2
              | cons a is' => exact ⟨is'.length + kid'.len, by simp only [OX.len, List.length_cons]; omega⟩
            obtain ⟨q, hq⟩ := hpos
            rw [hq] at r2 ⊢
            refine ⟨fun h0 => (by rw [r1] at h0; cases h0), fun j hj oj hoj => ?_⟩
            rw [r1] at hj
            obtain ⟨hkj, m', e1, e2⟩ := AAny_x (.nd is' kid' sib') li' st' L' (q + 1) hall2 hA r2 j hj oj hoj
            obtain rfl : q = m' := by omega
            rw [hkj]; exact e2
        refine (AL_head h1).mono fun st' L' h' => ?_
        have := AAny_pre (ks := ks) (Q := Q) (fuel := kid.len) (li := li') h' part is _ g1 g2 hli
        rw [← g1] at this
        exact this
      · cases c3
    · exact AAny_x sib li st L m hall3 h.2 c4 i hi o ho
end
theorem a_regX {P : Program} {N : Nat} {Q : Exit → St → Own → Prop} {st : St} {L : Own} {id : Nat} {l : List Oper} (ks : List Kd) (is : List Nat) (t : OX) (hm : P.follows .mixedOrders = true) (hlen : Nat.beq (is.length + t.len) l.length = true) (hin : (is.all (fun i => Nat.blt i l.length) && t.all l.length) = true)
    (hc : (match chkP l.toArray ks is (Array.replicate l.length false) with
      | some li => (Region.ready .any l.toArray li == t.heads) && chkX l.toArray ks t.len t li
      | none => false) = true)
    (h : AL P N l (fun st' L' => AX ks P N l (fun st' L' => Q .normal st' L') true t st' L') (mkLK ks l is) st L) : AWp P N (.region id l.toArray true) Q st L :=
  ⟨fun σ F w a hr ht => wp_region_any hm (by
    simp only [Bool.and_eq_true] at hin
    have hlen := Nat.eq_of_beq_eq_true hlen
    obtain ⟨g1, g2⟩ := mkLK_facts (ks := ks) hin.1
    split at hc
    · rename_i li hli
      simp only [Bool.and_eq_true, beq_iff_eq] at hc
      obtain ⟨r1, r2⟩ := hc
      have part : ∀ st' L', AX ks P N l (fun st' L' => Q .normal st' L') true t st' L' → AAny P N l ks (fun st' L' => Q .normal st' L') t.len li st' L' := fun st' L' hA => by
        cases t with
        | stop => exact ⟨r1, hA⟩
        | nd is' kid' sib' =>
          have hpos : ∃ q, (OX.nd is' kid' sib').len = q + 1 := by
            cases is' with
            | nil => cases r2
            | cons a is' => exact ⟨is'.length + kid'.len, by simp only [OX.len, List.length_cons]; omega⟩
          obtain ⟨q, hq⟩ := hpos
          rw [hq] at r2 ⊢
          refine ⟨fun h0 => (by rw [r1] at h0; cases h0), fun j hj oj hoj => ?_⟩
          rw [r1] at hj
          obtain ⟨hkj, m', e1, e2⟩ := AAny_x (.nd is' kid' sib') li st' L' (q + 1) hin.2 hA r2 j hj oj hoj
          obtain rfl : q = m' := by omega
          rw [hkj]; exact e2
      have h1 := AAny_pre (ks := ks) (Q := fun st' L' => Q .normal st' L') (fuel := t.len) (li := li) h part is (Array.replicate l.length false) g1 g2 hli
      rw [← g1, hlen] at h1
      have := AAny_wp (F := F) (Q' := Post σ N F Q) l.length _ st L σ a { w with drawn := w.drawn + 1 } h1 (hr.grow (fun _ _ => rfl) rfl rfl) ht (fun τ st' L' a' w' a1 a2 a3 a4 => ⟨τ, st', L', a1, a2, a3, a4⟩)
      simpa using this
    · cases hc)⟩
theorem a_regXP {P : Program} {N : Nat} {Q : Exit → St → Own → Prop} {st : St} {L : Own} {id : Nat} {l : List Oper} (is : List Nat) (t : OX) (hm : P.follows .mixedOrders = true) (hlen : Nat.beq (is.length + t.len) l.length = true) (hin : (is.all (fun i => Nat.blt i l.length) && t.all l.length) = true)
    (hc : (match chkP l.toArray (l.map fun o => kdOf o.op) is (Array.replicate l.length false) with
      | some li => (Region.ready .any l.toArray li == t.heads) && chkX l.toArray (l.map fun o => kdOf o.op) t.len t li
      | none => false) = true)
    (h : AL P N l (fun st' L' => AX (l.map fun o => kdOf o.op) P N l (fun st' L' => Q .normal st' L') true t st' L') (mkLK (l.map fun o => kdOf o.op) l is) st L) : AWp P N (.region id l.toArray true) Q st L := a_regX _ is t hm hlen hin hc h
end Go.Sj
namespace Go.Sj
section
variable {P : Program} {N : Nat} {ops : List Oper} {Q : St → Own → Prop} {L : Own} {rest : List (Oper × Kd)} {l : List (Nat × AV)} {k : Kd} {q : Nat}
theorem lk_self (q : Nat) (x : AV) (l : List (Nat × AV)) : lk ((q, x) :: l) q = x := by
  have : Nat.beq q q = true := Nat.beq_refl q
  simp only [lk, this, cond_true]
theorem s_appendImF {tt : List (TypeId × TD)} (ok : TOK P tt) (i : Nat) {o : Oper} {T : TypeId} {x y : Operand} {E s1 b1 : Nat} {z1 : List Value} {d : TD} {sz : Nat} {v : Value} {es es2 : List (List AV)} (ho : o.op = .call ⟨.builtin .append, #[x, y], #[T, T]⟩) (hdst : o.dst = some q) (hd : Nat.blt q N = true) (hg : guardA ops o (lk l) = some true)
    (hT : lkT tt T = some ⟨.slice E, s1, b1, z1⟩) (hE : lkT tt E = some d) (hpos : 0 < d.size) (hx : ev (lk l) x = .lit v) (hL : L[i]? = some (v, .row E sz es)) (hs : sz = d.size) (hy : ev (lk l) y = .im sz es2)
    (hcell : es2.all (fun e => e.all AV.cell) = true) (hlen : es.length + es2.length ≤ 140737488355328) (hby : (es.length + es2.length) * d.bytes ≤ 140737488355328)
    (nx : AL P N ops Q rest (lk ((q, .im sz (es ++ es2)) :: l)) (L.eraseIdx i)) : AL P N ops Q ((o, .eff) :: rest) (lk l) L :=
  s_frzNow (E := E) i hdst hd hg (s_appendIm ok i ho hdst hd hg hT hE hpos hx hL hs hy hcell hlen hby (fun v' => AL.nil ⟨v', lk_self _ _ _, List.getElem?_set_self (List.getElem?_eq_some_iff.1 hL).1, List.eraseIdx_set_eq⟩)) nx
end
end Go.Sj
end
