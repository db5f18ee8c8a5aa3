/- Parts of a proof. -/
import Derived.Laws.Bits64
import Derived.Laws.Bits64b
import Derived.Test.YtimfponihbfimaaGreatP09
import Derived.Test.YtimfponihbfimaaGreatP10
import Derived.Test.YtimfponihbfimaaGreatP11
set_option linter.unusedVariables false
set_option linter.unusedSimpArgs false
section
namespace Go.Proofs.YtimfponihbfimaaGreat
open Go.Sj Go.Sj.Typ
set_option maxRecDepth 8000
set_option maxHeartbeats 4000000
def OkT (t : Tys) : Prop := ∀ n ∈ t.nodes, n.attrs.length ≤ 140737488355328
def AttO (a : Att) : Prop := a.name.size ≤ 40 ∧ a.names.length ≤ 25 ∧ ∀ s ∈ a.names, s.size ≤ 40
def NodO (n : Nod) : Prop := n.name.size ≤ 40 ∧ n.attrs.length ≤ 30 ∧ ∀ a ∈ n.attrs, AttO a
theorem take_allQ {α : Type} {p : α → Prop} {l : List α} {k : Nat} {x : α} (hx : l[k]? = some x) (h : ∀ y ∈ l.take k, p y) (hp : p x) : ∀ y ∈ l.take (k + 1), p y := by
  obtain ⟨hk, he⟩ := List.getElem?_eq_some_iff.1 hx
  intro y hy
  rw [List.take_succ_eq_append_getElem hk] at hy
  rcases List.mem_append.1 hy with h1 | h1
  · exact h y h1
  · obtain rfl := List.mem_singleton.1 h1
    rw [he]; exact hp
theorem Few_spec (t : Tys) (ht : OkT t) : ACalls Tryz.prog 37 [tysA t] [] (fun y L => (∃ b, y = AB b ∧ (b = true → Small t)) ∧ L = []) := by
  have ln : (t.nodes.map cNod).length = t.nodes.length := by simp
  have le : (t.edges.map cEdg).length = t.edges.length := by simp
  by_cases h1 : 20 < t.nodes.length ∨ 30 < t.edges.length
  · refine zen Tryz.func37 (by kernel_rfl) rfl Tryz.ntmps37 rfl (by simp) ?_; refine a_seq ?_; refine a_reg ?_; (repeat (first | refine gZ pk ?_ | (show AL _ _ _ _ _ _ _; first | refine jB (fun u => ?_)))); refine zfb 0 1 rfl rfl ?_
    repeat' (first | refine gA pk ?_ | (show AL _ _ _ _ _ _ _; first | (refine s_cmp rfl rfl rfl rfl rfl rfl rfl (fun hb => ?_) (fun hb => ?_) <;> simp only [cmpP] at hb)) | fail)
    all_goals first | (exfalso; omega) | skip
    all_goals refine finQ ?_
    all_goals exact ⟨⟨false, rfl, by simp⟩, rfl⟩
  · refine zen Tryz.func37 (by kernel_rfl) rfl Tryz.ntmps37 rfl (by simp) ?_; refine a_seq ?_; refine a_reg ?_; (repeat (first | refine gZ pk ?_ | (show AL _ _ _ _ _ _ _; first | refine jB (fun u => ?_)))); refine zfb 0 1 rfl rfl ?_
    repeat (first | refine gA pk ?_)
    refine a_loop2 (fun (i : Nat) (m : Int) => [(1, tysP t), (3, AI m), (4, AI i)]) (fun _ _ => []) (fun i m => i ≤ t.nodes.length ∧ (0 ≤ m ∧ m ≤ 30) ∧ ∀ n ∈ t.nodes.take i, NodO n) (fun i _ => t.nodes.length - i) 0 0 ⟨Nat.zero_le _, by omega, by simp⟩ ?_ (OSub.none _) ?_
    · exact subQ
    · rintro i m ⟨hi, ⟨hm0, hm1⟩, hinv⟩
      rcases Nat.lt_or_ge i t.nodes.length with h | h
      · have hx := List.getElem?_eq_getElem h
        have hat := ht _ (List.getElem_mem h)
        generalize t.nodes[i] = n at hx hat
        have xk : (t.nodes.map cNod)[(i : Int).toNat]? = some (cNod n) := zmp hx
        have la : (n.attrs.map cAtt).length = n.attrs.length := by simp
        by_cases h2 : 30 < m + n.attrs.length ∨ 40 < n.name.size
        · repeat' (first | refine gA pk ?_ | (show AL _ _ _ _ _ _ _; first | refine jX tok xk ?_ | (refine s_cmp rfl rfl rfl rfl rfl rfl rfl (fun hb => ?_) (fun hb => ?_) <;> simp only [cmpP] at hb)) | fail)
          all_goals first | (exfalso; omega) | skip
          all_goals refine finQ ?_
          all_goals exact ⟨⟨false, rfl, by simp⟩, rfl⟩
        · have h3 : m + n.attrs.length ≤ 30 := by omega
          repeat (first | refine gA pk ?_ | (show AL _ _ _ _ _ _ _; first | refine jX tok xk ?_))
          refine zlx (fun k : Nat => [(1, tysP t), (3, AI (m + (n.attrs.map cAtt).length)), (4, AI i), (5, AI k)]) (fun _ => []) (fun k => k ≤ n.attrs.length ∧ ∀ a ∈ n.attrs.take k, AttO a) (fun k => n.attrs.length - k) 0 ⟨Nat.zero_le _, by simp⟩ ?_ (OSub.none _) ?_
          · exact subQ
          · rintro k ⟨hk, hinv2⟩
            rcases Nat.lt_or_ge k n.attrs.length with h' | h'
            · have hy := List.getElem?_eq_getElem h'
              generalize n.attrs[k] = a at hy
              have yk : (n.attrs.map cAtt)[(k : Int).toNat]? = some (cAtt a) := zmp hy
              have lnm : (a.names.map cS).length = a.names.length := by simp
              by_cases h4 : 40 < a.name.size ∨ 25 < a.names.length
              · repeat' (first | refine gA pk ?_ | (show AL _ _ _ _ _ _ _; first | refine jX tok xk ?_ | refine jX tok yk ?_ | refine jL tok (fun u => ?_) | refine jS tok 0 ?_ | refine jO tok 0 ?_ | (refine s_cmp rfl rfl rfl rfl rfl rfl rfl (fun hb => ?_) (fun hb => ?_) <;> simp only [cmpP] at hb)) | fail)
                all_goals first | (exfalso; omega) | skip
                all_goals refine finQ ?_
                all_goals exact ⟨⟨false, rfl, by simp⟩, rfl⟩
              · (repeat (first | refine a_seq ?_ | refine a_block ?_)); refine a_reg ?_
                repeat (first | refine gZ pk ?_ | (show AL _ _ _ _ _ _ _; first | refine jX tok xk ?_))
                (repeat (first | refine a_seq ?_ | refine a_block ?_)); refine a_reg ?_
                repeat (first | refine gZ pk ?_ | (show AL _ _ _ _ _ _ _; first | refine jX tok xk ?_ | refine jX tok yk ?_ | refine jL tok (fun u => ?_) | refine jS tok 0 ?_))
                refine zfb 0 6 rfl rfl ?_
                repeat (first | refine gA pk ?_)
                refine zlx (fun j : Nat => [(1, tysP t), (3, AI (m + (n.attrs.map cAtt).length)), (4, AI i), (5, AI k), (6, .ip (cAtt a)), (7, AI j)]) (fun _ => []) (fun j => j ≤ a.names.length ∧ ∀ s ∈ a.names.take j, s.size ≤ 40) (fun j => a.names.length - j) 0 ⟨Nat.zero_le _, by simp⟩ ?_ (OSub.none _) ?_
                · exact subQ
                · rintro j ⟨hj, hinv3⟩
                  rcases Nat.lt_or_ge j a.names.length with h5 | h5
                  · have hz := List.getElem?_eq_getElem h5
                    generalize a.names[j] = s at hz
                    have zk : (a.names.map cS)[(j : Int).toNat]? = some (cS s) := zmp hz
                    by_cases h6 : 40 < s.size
                    · repeat (first | refine gA pk ?_ | (show AL _ _ _ _ _ _ _; first | refine jX tok zk ?_))
                      refine finQ ?_
                      exact ⟨⟨false, rfl, by simp⟩, rfl⟩
                    · repeat (first | refine gA pk ?_ | (show AL _ _ _ _ _ _ _; first | refine jX tok zk ?_))
                      exact ⟨j + 1, ⟨by omega, take_allQ hz hinv3 (by omega)⟩, by omega, by exact subQ, OSub.none _⟩
                  · obtain rfl : j = a.names.length := by omega
                    rw [List.take_length] at hinv3
                    repeat (first | refine gA pk ?_)
                    exact ⟨k + 1, ⟨by omega, take_allQ hy hinv2 ⟨by omega, by omega, hinv3⟩⟩, by omega, by exact subQ, OSub.none _⟩
            · obtain rfl : k = n.attrs.length := by omega
              rw [List.take_length] at hinv2
              repeat (first | refine gA pk ?_ | (show AL _ _ _ _ _ _ _; first | refine jX tok xk ?_))
              exact ⟨i + 1, m + ((n.attrs.map cAtt).length : Int), ⟨by omega, by omega, take_allQ hx hinv ⟨by omega, by omega, hinv2⟩⟩, by omega, by exact subQ, OSub.none _⟩
      · obtain rfl : i = t.nodes.length := by omega
        rw [List.take_length] at hinv
        repeat (first | refine gA pk ?_)
        refine zlx (fun i : Nat => [(1, tysP t), (8, AI i)]) (fun _ => []) (fun i => i ≤ t.edges.length ∧ ∀ n ∈ t.edges.take i, n.name.size ≤ 40) (fun i => t.edges.length - i) 0 ⟨Nat.zero_le _, by simp⟩ ?_ (OSub.none _) ?_
        · exact subQ
        · rintro i ⟨hi, hinv2⟩
          rcases Nat.lt_or_ge i t.edges.length with h' | h'
          · have hx := List.getElem?_eq_getElem h'
            generalize t.edges[i] = n at hx
            have xk : (t.edges.map cEdg)[(i : Int).toNat]? = some (cEdg n) := zmp hx
            by_cases h2 : 40 < n.name.size
            · repeat (first | refine gA pk ?_ | (show AL _ _ _ _ _ _ _; first | refine jX tok xk ?_))
              refine finQ ?_
              exact ⟨⟨false, rfl, by simp⟩, rfl⟩
            · repeat (first | refine gA pk ?_ | (show AL _ _ _ _ _ _ _; first | refine jX tok xk ?_))
              exact ⟨i + 1, ⟨by omega, take_allQ hx hinv2 (by omega)⟩, by omega, by exact subQ, OSub.none _⟩
          · obtain rfl : i = t.edges.length := by omega
            rw [List.take_length] at hinv2
            repeat (first | refine gA pk ?_)
            refine finQ ?_
            exact ⟨⟨true, rfl, fun _ => ⟨by omega, by omega, hinv, hinv2⟩⟩, rfl⟩
end Go.Proofs.YtimfponihbfimaaGreat
end
section
namespace Go.Proofs.YtimfponihbfimaaGreat
open Go.Sj
set_option maxRecDepth 8000
set_option maxHeartbeats 1000000
theorem Mul64_spec (c : Nat) (hc : c ≤ 1000000) : Pure Tryz.prog 120 [.lit (.int .u64 1), .lit (.int .u64 c)] (.tup [.lit (.int .u64 0), .lit (.int .u64 c)]) := by
  refine zen Tryz.func120 (by kernel_rfl) rfl Tryz.ntmps120 rfl (by simp) ?_
  repeat (first | refine gA pk ?_ | (show AL _ _ _ _ _ _ _; first | refine s_and32 rfl rfl rfl rfl rfl rfl (by omega) ?_ | refine s_shr32 rfl rfl rfl rfl rfl rfl (by omega) ?_ | refine s_arith rfl rfl rfl rfl rfl rfl rfl (IntWalk.u64_in _ (by omega)) ?_))
  refine fin (x := .tup [.lit _, .lit _]) (y := .tup [.lit (.int .u64 0), .lit (.int .u64 c)]) (.inr rfl) rfl (Sub.tup ⟨Sub.of_eq ?_, Sub.of_eq ?_, trivial⟩) ⟨rfl, rfl⟩ (OSub.refl _)
  · congr 2 <;> omega
  · congr 2 <;> omega
theorem Mul_spec (c : Nat) (hc : c ≤ 1000000) : Pure Tryz.prog 75 [.lit (.int .u64 1), .lit (.int .u64 c)] (.tup [.lit (.int .u64 0), .lit (.int .u64 c)]) := by
  refine zen Tryz.func75 (by kernel_rfl) rfl Tryz.ntmps75 rfl (by simp) ?_
  repeat (first | refine gA pk ?_ | (show AL _ _ _ _ _ _ _; first | refine jP (Mul64_spec c hc) ?_))
  refine finR ?_
  exact ⟨rfl, rfl⟩
theorem rep_step {α : Type} (x z : α) {n c m : Nat} (hn : n ≤ c) (hm : m = min n (c - n)) :
    (List.replicate n x ++ List.replicate (c - n) z).take n ++ (List.replicate n x ++ List.replicate (c - n) z).take m ++ (List.replicate n x ++ List.replicate (c - n) z).drop (n + m) = List.replicate (n + m) x ++ List.replicate (c - (n + m)) z := by
  have a1 : (List.replicate n x ++ List.replicate (c - n) z).take n = List.replicate n x := by
    rw [List.take_append_of_le_length (by simp)]; simp
  have a2 : (List.replicate n x ++ List.replicate (c - n) z).take m = List.replicate m x := by
    rw [List.take_append_of_le_length (by simp; omega), List.take_replicate, Nat.min_eq_left (by omega)]
  have a3 : (List.replicate n x ++ List.replicate (c - n) z).drop (n + m) = List.replicate (c - (n + m)) z := by
    rw [List.drop_append, List.drop_of_length_le (by simp), List.nil_append, List.length_replicate, List.drop_replicate, show c - n - (n + m - n) = c - (n + m) by omega]
  rw [a1, a2, a3, List.replicate_append_replicate]
theorem Repeat_spec (x : Int) (c : Nat) (hc : c ≤ 1000000) : Gives Tryz.prog 41 [ints [x], AI c] 3 1 (rowI (List.replicate c x)) := by
  refine zen Tryz.func41 (by kernel_rfl) rfl Tryz.ntmps41 rfl (by simp) ?_
  repeat (first | refine gA pk ?_ | (show AL _ _ _ _ _ _ _; first | refine jP (Mul_spec c hc) ?_ | refine zcv tok rfl rfl rfl rfl rfl rfl rfl (IntWalk.u64_in _ (by first | omega | (simp only [List.length_map, List.length_cons, List.length_nil]; omega))) ?_ | refine zcv tok rfl rfl rfl rfl rfl rfl rfl (IntWalk.i64_in _ (by omega)) ?_))
  refine s_make tok rfl rfl rfl rfl rfl rfl rfl rfl (by omega) (by omega) (by simp; omega) (by omega) (fun v => ?_)
  rw [show List.replicate (c : Int).toNat ([Value.int .i64 0].map AV.lit) = rowI (List.replicate c 0) by rw [Int.toNat_natCast]; simp [rowI, cI]]
  repeat (first | refine gA pk ?_)
  refine s_copyIm tok 0 (min 1 c) rfl rfl rfl rfl rfl rfl (by decide) rfl rfl rfl rfl (rowI_cell _) (by simp) ?_
  rw [show (rowI [x]).take (min 1 c) ++ (rowI (List.replicate c 0)).drop (min 1 c) = rowI (List.replicate (min 1 c) x ++ List.replicate (c - min 1 c) 0) by
    rcases Nat.eq_zero_or_pos c with h | h
    · subst h; rfl
    · rw [show min 1 c = 1 by omega]; simp [rowI]]
  repeat (first | refine gA pk ?_)
  refine zlx (fun n : Nat => [(7, .lit v), (8, AI n)]) (fun n => [(v, .row 3 1 (rowI (List.replicate n x ++ List.replicate (c - n) 0)))]) (fun n => n ≤ c ∧ (n = 0 → c = 0)) (fun n => c - n) (min 1 c) ⟨by omega, by omega⟩ ?_ (OSub.refl _) ?_
  · exact subQ
  · rintro n ⟨hn, h0⟩
    have lr : (rowI (List.replicate n x ++ List.replicate (c - n) (0 : Int))).length = c := by simp; omega
    rcases Nat.lt_or_ge n c with h1 | h1
    · obtain ⟨m, hm⟩ : ∃ m, m = min n (c - n) := ⟨_, rfl⟩
      have hs := rep_step x (0 : Int) hn hm
      repeat (first | (show AWp _ _ _ _ _ _; first | refine a_regD [.pure, .pure, .pure, .read, .pure, .pure, .read, .eff, .pure, .pure] mixed rfl (by decide +kernel) ?_) | refine gN pk ?_ | (show AL _ _ _ _ _ _ _; first | refine zol tok 0 rfl rfl rfl rfl (by decide) rfl rfl rfl ?_))
      refine s_ownPart tok 0 (a := n) (b := c) rfl rfl rfl rfl (by decide) rfl rfl rfl rfl rfl (by exact ⟨_, rfl⟩) (by exact lr.symm) (by omega) (by omega) ?_
      repeat (first | refine gA pk ?_)
      refine s_ownPart tok 0 (a := 0) (b := n) rfl rfl rfl rfl (by decide) rfl rfl rfl rfl rfl rfl (by exact ⟨_, rfl⟩) (by omega) (by omega) ?_
      refine s_copyOwn tok 0 (n := c) m rfl rfl rfl rfl rfl rfl (by decide) rfl rfl lr.symm rfl rfl (by omega) (by omega) (rowI_cell _) (by rw [lr]; exact hm) ?_
      rw [show (rowI (List.replicate n x ++ List.replicate (c - n) 0)).take n ++ (rowI (List.replicate n x ++ List.replicate (c - n) 0)).take m ++ (rowI (List.replicate n x ++ List.replicate (c - n) 0)).drop (n + m) = rowI (List.replicate (n + m) x ++ List.replicate (c - (n + m)) 0) by
        rw [← hs]; simp only [rowI, List.map_append, List.map_take, List.map_drop]]
      repeat (first | refine gA pk ?_)
      refine ⟨n + m, ⟨by omega, by omega⟩, by omega, ?_, OSub.refl _⟩
      exact subQ
    · obtain rfl : n = c := by omega
      repeat (first | refine gA pk ?_ | (show AL _ _ _ _ _ _ _; first | refine zol tok 0 rfl rfl rfl rfl (by decide) rfl rfl rfl ?_))
      refine finR ?_
      exact ⟨v, rfl, by simp⟩
end Go.Proofs.YtimfponihbfimaaGreat
end
section
namespace Go.Sj
set_option maxRecDepth 8000
section
variable {P : Program} {N : Nat} {ops : List Oper} {Q : St → Own → Prop} {L : Own} {rest : List (Oper × Kd)} {l : List (Nat × AV)} {k : Kd} {q : Nat}
theorem s_xorU {o : Oper} {T T' : TypeId} {x y : Operand} {a b : Nat} (ho : o.op = .binOp .xor T x y T') (hdst : o.dst = some q) (hd : Nat.blt q N = true) (hg : guardA ops o (lk l) = some true)
    (hx : ev (lk l) x = .lit (.int .u64 (a : Int))) (hy : ev (lk l) y = .lit (.int .u64 (b : Int))) (ha : a < 18446744073709551616) (hb : b < 18446744073709551616)
    (n : AL P N ops Q rest (lk ((q, .lit (.int .u64 ((a ^^^ b : Nat) : Int))) :: l)) L) : AL P N ops Q ((o, k) :: rest) (lk l) L := by
  obtain ⟨dst, op', ty, pos, after, g⟩ := o
  simp only at ho
  subst ho
  refine s_pure hdst hd hg ⟨fun σ F w ρ hR hρ => ⟨.int .u64 ((a ^^^ b : Nat) : Int), ?_, .lit _⟩⟩ n
  have h1 := hρ x (by simp [Op.operands])
  have h2 := hρ y (by simp [Op.operands])
  rw [hx] at h1
  rw [hy] at h2
  have e := bits_xor_u64_nat a b ha hb
  have e2 : IntKind.u64.wrap ((a ^^^ b : Nat) : Int) = ((a ^^^ b : Nat) : Int) := IntWalk.u64_in _ (by
    have := Nat.xor_lt_two_pow (n := 64) (x := a) (y := b) (by omega) (by omega)
    omega)
  simp [execOp, h1.lit_inv, h2.lit_inv, eqGuard, binOp, Op.intArith, Op.intBits]
  first | exact e | (rw [e]; exact e2) | exact (congrArg IntKind.u64.wrap e).trans e2
theorem s_andU {o : Oper} {T T' : TypeId} {x y : Operand} {a b : Nat} (ho : o.op = .binOp .and T x y T') (hdst : o.dst = some q) (hd : Nat.blt q N = true) (hg : guardA ops o (lk l) = some true)
    (hx : ev (lk l) x = .lit (.int .u64 (a : Int))) (hy : ev (lk l) y = .lit (.int .u64 (b : Int))) (ha : a < 18446744073709551616) (hb : b < 18446744073709551616)
    (n : AL P N ops Q rest (lk ((q, .lit (.int .u64 ((a &&& b : Nat) : Int))) :: l)) L) : AL P N ops Q ((o, k) :: rest) (lk l) L := by
  obtain ⟨dst, op', ty, pos, after, g⟩ := o
  simp only at ho
  subst ho
  refine s_pure hdst hd hg ⟨fun σ F w ρ hR hρ => ⟨.int .u64 ((a &&& b : Nat) : Int), ?_, .lit _⟩⟩ n
  have h1 := hρ x (by simp [Op.operands])
  have h2 := hρ y (by simp [Op.operands])
  rw [hx] at h1
  rw [hy] at h2
  have e := bits_and_u64_nat a b ha hb
  have e2 : IntKind.u64.wrap ((a &&& b : Nat) : Int) = ((a &&& b : Nat) : Int) := IntWalk.u64_in _ (by
    have := Nat.and_lt_two_pow (n := 64) a (y := b) (by omega)
    omega)
  simp [execOp, h1.lit_inv, h2.lit_inv, eqGuard, binOp, Op.intArith, Op.intBits]
  first | exact e | (rw [e]; exact e2) | exact (congrArg IntKind.u64.wrap e).trans e2
theorem s_shlU {o : Oper} {T T' : TypeId} {x y : Operand} {k2 : IntKind} {a c : Nat} (ho : o.op = .binOp .shl T x y T') (hdst : o.dst = some q) (hd : Nat.blt q N = true) (hg : guardA ops o (lk l) = some true)
    (hx : ev (lk l) x = .lit (.int .u64 (a : Int))) (hy : ev (lk l) y = .lit (.int k2 (c : Int))) (hc : c < 64)
    (n : AL P N ops Q rest (lk ((q, .lit (.int .u64 ((a * 2 ^ c % 18446744073709551616 : Nat) : Int))) :: l)) L) : AL P N ops Q ((o, k) :: rest) (lk l) L := by
  obtain ⟨dst, op', ty, pos, after, g⟩ := o
  simp only at ho
  subst ho
  refine s_pure hdst hd hg ⟨fun σ F w ρ hR hρ => ⟨.int .u64 ((a * 2 ^ c % 18446744073709551616 : Nat) : Int), ?_, .lit _⟩⟩ n
  have h1 := hρ x (by simp [Op.operands])
  have h2 := hρ y (by simp [Op.operands])
  rw [hx] at h1
  rw [hy] at h2
  have hc2 : ¬ ((c : Int) < 0) := by omega
  have hc3 : ¬ (64 ≤ c) := by omega
  have e : IntKind.u64.wrap ((a : Int) * 2 ^ c) = ((a * 2 ^ c % 18446744073709551616 : Nat) : Int) := by
    have e1 : (a : Int) * 2 ^ c = ((a * 2 ^ c : Nat) : Int) := by rw [Int.natCast_mul, Int.natCast_pow]; rfl
    rw [IntKind.wrap_u64, e1]
    generalize a * 2 ^ c = m
    omega
  simp [execOp, h1.lit_inv, h2.lit_inv, eqGuard, binOp, Op.shift, hc2, hc3, IntKind.bits]
  first | exact e | exact congrArg _ e | skip
theorem s_shrU {o : Oper} {T T' : TypeId} {x y : Operand} {k2 : IntKind} {a c : Nat} (ho : o.op = .binOp .shr T x y T') (hdst : o.dst = some q) (hd : Nat.blt q N = true) (hg : guardA ops o (lk l) = some true)
    (hx : ev (lk l) x = .lit (.int .u64 (a : Int))) (hy : ev (lk l) y = .lit (.int k2 (c : Int))) (hc : c < 64)
    (n : AL P N ops Q rest (lk ((q, .lit (.int .u64 ((a / 2 ^ c : Nat) : Int))) :: l)) L) : AL P N ops Q ((o, k) :: rest) (lk l) L := by
  obtain ⟨dst, op', ty, pos, after, g⟩ := o
  simp only at ho
  subst ho
  refine s_pure hdst hd hg ⟨fun σ F w ρ hR hρ => ⟨.int .u64 ((a / 2 ^ c : Nat) : Int), ?_, .lit _⟩⟩ n
  have h1 := hρ x (by simp [Op.operands])
  have h2 := hρ y (by simp [Op.operands])
  rw [hx] at h1
  rw [hy] at h2
  have hc2 : ¬ ((c : Int) < 0) := by omega
  have hb : (a : Int).fdiv (2 ^ (min c IntKind.u64.bits)) = ((a / 2 ^ c : Nat) : Int) := by
    have : min c IntKind.u64.bits = c := Nat.min_eq_left (by show c ≤ 64; omega)
    rw [this, Int.fdiv_eq_ediv_of_nonneg _ (by exact_mod_cast Nat.zero_le _)]
    push_cast
    rfl
  simp [execOp, h1.lit_inv, h2.lit_inv, eqGuard, binOp, Op.shift, hc2, hb]
end
end Go.Sj
end
