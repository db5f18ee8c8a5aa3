/-
  General parts: L21, L22. No condition; nothing here names a program.
-/
import Derived.Test.YtcacbdohlfljfaaGreatSjQ7
import Derived.Handy
set_option linter.unusedVariables false
set_option linter.unusedSimpArgs false
/-
  Boxes of which less is said.
-/
namespace Go.Sj
set_option linter.unusedVariables false
set_option linter.unusedSimpArgs false
def OWk : Own → Own → Prop
  | [], [] => True
  | (v, .box c) :: L, (v', .box c') :: M => v = v' ∧ SubL c c' ∧ OWk L M
  | p :: L, p' :: M => p = p' ∧ OWk L M
  | _, _ => False
theorem OWk.refl : ∀ L : Own, OWk L L
  | [] => trivial
  | (v, .box c) :: L => ⟨rfl, SubL.refl c, OWk.refl L⟩
  | (v, .row E s e) :: L => ⟨rfl, OWk.refl L⟩
  | (v, .mp m) :: L => ⟨rfl, OWk.refl L⟩
theorem OWk.own {σ : Hp} {w : World} : ∀ {L M : Own}, OWk L M → (∀ p ∈ L, Own1 σ w p) → (∀ p ∈ M, Own1 σ w p) ∧ M.filterMap (blk ∘ Prod.fst) = L.filterMap (blk ∘ Prod.fst)
  | [], [], _, _ => ⟨fun p hp => (by cases hp), rfl⟩
  | [], _ :: _, h, _ => by cases h
  | (v, .box c) :: L, [], h, _ => by cases h
  | (v, .row E s e) :: L, [], h, _ => by cases h
  | (v, .mp m) :: L, [], h, _ => by cases h
  | (v, .box c) :: L, (v', .box c') :: M, h, hL => by
    obtain ⟨rfl, h2, h3⟩ := h
    obtain ⟨k1, k2⟩ := OWk.own h3 (fun p hp => hL p (List.mem_cons_of_mem _ hp))
    refine ⟨fun p hp => ?_, by rw [List.filterMap_cons, List.filterMap_cons, k2]; rfl⟩
    rcases List.mem_cons.1 hp with rfl | hp
    · obtain ⟨b, cc, E, e1, e2, e3⟩ := hL _ (List.mem_cons_self ..)
      exact ⟨b, cc, E, e1, e2, h2.vrs e3⟩
    · exact k1 p hp
  | (v, .box c) :: L, (v', .row E' s' e') :: M, h, _ => by cases h.1
  | (v, .box c) :: L, (v', .mp m') :: M, h, _ => by cases h.1
  | (v, .row E s e) :: L, p' :: M, h, hL => by
    obtain ⟨rfl, h3⟩ := h
    obtain ⟨k1, k2⟩ := OWk.own h3 (fun p hp => hL p (List.mem_cons_of_mem _ hp))
    refine ⟨fun p hp => ?_, by rw [List.filterMap_cons, List.filterMap_cons, k2]⟩
    rcases List.mem_cons.1 hp with rfl | hp
    · exact hL _ (List.mem_cons_self ..)
    · exact k1 p hp
  | (v, .mp m) :: L, p' :: M, h, hL => by
    obtain ⟨rfl, h3⟩ := h
    obtain ⟨k1, k2⟩ := OWk.own h3 (fun p hp => hL p (List.mem_cons_of_mem _ hp))
    refine ⟨fun p hp => ?_, by rw [List.filterMap_cons, List.filterMap_cons, k2]⟩
    rcases List.mem_cons.1 hp with rfl | hp
    · exact hL _ (List.mem_cons_self ..)
    · exact k1 p hp
theorem HRel.weak {σ : Hp} {F : Fr} {w : World} {L M : Own} (h : HRel σ L F w) (k : OWk L M) : HRel σ M F w := by
  obtain ⟨k1, k2⟩ := k.own h.own
  exact ⟨h.agree, h.frame, h.os, h.out, k1, h.sep, by rw [k2]; exact h.nodup, by rw [k2]; exact h.apart⟩
theorem GoTo.weak {N : Nat} {st st' : St} {L L' : Own} (h : SubS st st') (k : OWk L L') : GoTo N st L st' L' := fun σ F w a hr ht => ⟨σ, σ.le_refl, hr.weak k, ht.sub h⟩
end Go.Sj

/-
  The steps once more, with the plain conditions found by themselves: shorter texts.
-/
namespace Go.Sj
set_option linter.unusedVariables false
section
variable {P : Program} {N : Nat} {ops : List Oper} {Q : St → Own → Prop} {L : Own} {rest : List (Oper × Kd)} {l : List (Nat × AV)} {k : Kd} {q : Nat}
theorem cT {o : Oper} {op : BinOp} {T T' : TypeId} {x y : Operand} {kk : IntKind} {a b : Int} (ho : o.op = .binOp op T x y T') (hdst : o.dst = some q) (hd : Nat.blt q N = true) (hg : guardA ops o (lk l) = some true)
    (hx : ev (lk l) x = .lit (.int kk a)) (hy : ev (lk l) y = .lit (.int kk b)) (hc : isCmp op = true)
    (n : AL P N ops Q rest (lk ((q, .lit (.bool true)) :: l)) L) (h : cmpP op a b := by first | (simp only [cmpP]; omega) | exact rfl) : AL P N ops Q ((o, k) :: rest) (lk l) L := s_cmpT ho hdst hd hg hx hy hc h n
theorem cF {o : Oper} {op : BinOp} {T T' : TypeId} {x y : Operand} {kk : IntKind} {a b : Int} (ho : o.op = .binOp op T x y T') (hdst : o.dst = some q) (hd : Nat.blt q N = true) (hg : guardA ops o (lk l) = some true)
    (hx : ev (lk l) x = .lit (.int kk a)) (hy : ev (lk l) y = .lit (.int kk b)) (hc : isCmp op = true)
    (n : AL P N ops Q rest (lk ((q, .lit (.bool false)) :: l)) L) (h : ¬ cmpP op a b := by first | (simp only [cmpP]; omega) | exact rfl) : AL P N ops Q ((o, k) :: rest) (lk l) L := s_cmpF ho hdst hd hg hx hy hc h n
theorem cA {o : Oper} {op : BinOp} {T T' : TypeId} {x y : Operand} {kk : IntKind} {a b r : Int} (ho : o.op = .binOp op T x y T') (hdst : o.dst = some q) (hd : Nat.blt q N = true) (hg : guardA ops o (lk l) = some true)
    (hx : ev (lk l) x = .lit (.int kk a)) (hy : ev (lk l) y = .lit (.int kk b)) (hc : arI op a b = some r)
    (n : AL P N ops Q rest (lk ((q, .lit (.int kk r)) :: l)) L) (h : kk.wrap r = r := by first | (exact IntWalk.i64_in _ (by omega)) | (exact IntWalk.u8_in _ (by omega))) : AL P N ops Q ((o, k) :: rest) (lk l) L := s_arith ho hdst hd hg hx hy hc h n
section heads
variable {tt : List (TypeId × TD)} (ok : TOK P tt) {o : Oper}
include ok
theorem tL {v : Value} (n : AL P N ops Q rest (lk ((q, .lit v) :: l)) L) (hdst : o.dst = some q := by exact rfl) (hd : Nat.blt q N = true := by exact rfl) (hg : guardA ops o (lk l) = some true := by exact rfl) (h : pe tt (lk l) o.op = some (.lit v) := by exact rfl) : AL P N ops Q ((o, k) :: rest) (lk l) L := s_pe ok hdst hd hg h n
theorem tI {sz : Nat} {es : List (List AV)} (n : AL P N ops Q rest (lk ((q, .im sz es) :: l)) L) (hdst : o.dst = some q := by exact rfl) (hd : Nat.blt q N = true := by exact rfl) (hg : guardA ops o (lk l) = some true := by exact rfl) (h : pe tt (lk l) o.op = some (.im sz es) := by exact rfl) : AL P N ops Q ((o, k) :: rest) (lk l) L := s_pe ok hdst hd hg h n
theorem tP {c : List AV} (n : AL P N ops Q rest (lk ((q, .ip c) :: l)) L) (hdst : o.dst = some q := by exact rfl) (hd : Nat.blt q N = true := by exact rfl) (hg : guardA ops o (lk l) = some true := by exact rfl) (h : pe tt (lk l) o.op = some (.ip c) := by exact rfl) : AL P N ops Q ((o, k) :: rest) (lk l) L := s_pe ok hdst hd hg h n
theorem tQ {v : Value} {sz j off : Nat} (n : AL P N ops Q rest (lk ((q, .pt v sz j off) :: l)) L) (hdst : o.dst = some q := by exact rfl) (hd : Nat.blt q N = true := by exact rfl) (hg : guardA ops o (lk l) = some true := by exact rfl) (h : pe tt (lk l) o.op = some (.pt v sz j off) := by exact rfl) : AL P N ops Q ((o, k) :: rest) (lk l) L := s_pe ok hdst hd hg h n
theorem tA {c : List AV} (n : AL P N ops Q rest (lk ((q, .agg c) :: l)) L) (hdst : o.dst = some q := by exact rfl) (hd : Nat.blt q N = true := by exact rfl) (hg : guardA ops o (lk l) = some true := by exact rfl) (h : pe tt (lk l) o.op = some (.agg c) := by exact rfl) : AL P N ops Q ((o, k) :: rest) (lk l) L := s_pe ok hdst hd hg h n
theorem tU {c : List AV} (n : AL P N ops Q rest (lk ((q, .tup c) :: l)) L) (hdst : o.dst = some q := by exact rfl) (hd : Nat.blt q N = true := by exact rfl) (hg : guardA ops o (lk l) = some true := by exact rfl) (h : pe tt (lk l) o.op = some (.tup c) := by exact rfl) : AL P N ops Q ((o, k) :: rest) (lk l) L := s_pe ok hdst hd hg h n
theorem tF {f : Fn} {a b : List AV} (n : AL P N ops Q rest (lk ((q, .fn f a b) :: l)) L) (hdst : o.dst = some q := by exact rfl) (hd : Nat.blt q N = true := by exact rfl) (hg : guardA ops o (lk l) = some true := by exact rfl) (h : pe tt (lk l) o.op = some (.fn f a b) := by exact rfl) : AL P N ops Q ((o, k) :: rest) (lk l) L := s_pe ok hdst hd hg h n
end heads
end
section fins
variable {rs : List ResultVar} {R : AV → Own → Prop} {st : St} {L : Own}
theorem zL {v : Value} (hx : resA st rs = some (.lit v)) (hr : R (.lit v) []) : FinP rs R .ret st L := fin (.inr rfl) hx (Sub.refl _) hr (OSub.none _)
theorem zI {s : Nat} {es : List (List AV)} (hx : resA st rs = some (.im s es)) (hr : R (.im s es) []) : FinP rs R .ret st L := fin (.inr rfl) hx (Sub.refl _) hr (OSub.none _)
theorem zT {v w : Value} (hx : resA st rs = some (.tup [.lit v, .lit w])) (hr : R (.tup [.lit v, .lit w]) []) : FinP rs R .ret st L := fin (.inr rfl) hx (Sub.refl _) hr (OSub.none _)
theorem zU {s : Nat} {es : List (List AV)} {w : Value} (hx : resA st rs = some (.tup [.im s es, .lit w])) (hr : R (.tup [.im s es, .lit w]) []) : FinP rs R .ret st L := fin (.inr rfl) hx (Sub.refl _) hr (OSub.none _)
theorem zV {v w u : Value} (hx : resA st rs = some (.tup [.lit v, .lit w, .lit u])) (hr : R (.tup [.lit v, .lit w, .lit u]) []) : FinP rs R .ret st L := fin (.inr rfl) hx (Sub.refl _) hr (OSub.none _)
theorem zA {c : List AV} (hx : resA st rs = some (.agg c)) (hr : R (.agg c) []) : FinP rs R .ret st L := fin (.inr rfl) hx (Sub.refl _) hr (OSub.none _)
end fins
end Go.Sj
