/- Parts of a proof. -/
import Derived.Test.YtimfponihbfimaaGreatP47
set_option linter.unusedVariables false
set_option linter.unusedSimpArgs false
section
namespace Go.Proofs.YtimfponihbfimaaGreat
open Go.Sj Go.Sj.Typ Go.Sj.Sta Go.Sj.Inc Go.Sj.Pln
set_option maxRecDepth 8000
set_option maxHeartbeats 16000000
theorem gright_plan_spec (p : Gr) (hp : GV p) (l : List Opn) (hl : l.length ≤ 1000) : Pure Tryz.prog 50 [grA p, opsA l] (AI (planE p (kn0 p) l)) := by
  have hnl := hp.nl
  have hel := hp.el
  have su := gfresh_spec p (by omega) (by omega)
  have ss := fun s hs o => gpossible_spec p hp s hs o
  have sf := fun s hs o ho => gafter_spec p hp s hs o ho
  have sk := fun s (hs : KnOk p s) => gknown_spec s (by have := hs.nl; omega) (by have := hs.el; omega)
  have ll : (l.map cOp).length = l.length := by simp
  refine zen Tryz.func50 (by kernel_rfl) rfl Tryz.ntmps50 rfl (by simp) ?_; refine a_seq ?_; refine a_reg ?_; (repeat (first | refine gZ pk ?_ | (show AL _ _ _ _ _ _ _; first | refine jB (fun u => ?_)))); refine zfb 0 2 rfl rfl ?_
  repeat (first | refine gA pk ?_ | (show AL _ _ _ _ _ _ _; first | refine jP su ?_ | refine jL tok (fun us => ?_) | refine jS tok 0 ?_))
  refine a_loopG3 (fun (i : Nat) (s : Kn) (_ : Unit) => [(1, opsA l), (2, grP p), (5, .pt us 0 0 0), (6, AI i)]) (fun i s _ => [(us, .box [boolsA s.ns, boolsA s.es])]) (fun i s _ => i ≤ l.length ∧ KnOk p s ∧ planE p (kn0 p) l = planE p s (l.drop i)) (fun i _ _ => l.length - i) 0 (kn0 p) () ⟨Nat.zero_le _, kn0_ok p, rfl⟩ (.sub (by exact subQ) (OSub.refl _)) ?_
  rintro i s _ ⟨hi, hs, he⟩
  rw [he]
  rcases Nat.lt_or_ge i l.length with h | h
  · have h1 := List.getElem?_eq_getElem h
    rw [List.drop_eq_getElem_cons h] at he ⊢
    generalize l[i] = o at *
    have xk : (l.map cOp)[(i : Int).toNat]? = some [AI o.kind, AI o.el] := zmp (f := cOp) h1
    have s1 := ss s hs o
    change Pure _ _ [_, _, .agg [AI o.kind, AI o.el]] _ at s1
    rw [show planE p s (o :: l.drop (i + 1)) = if opE p s o ≠ 0 then opE p s o else planE p (aftK p s o) (l.drop (i + 1)) from rfl] at he ⊢
    by_cases hop : opE p s o = 0
    · rw [if_neg (Decidable.not_not.2 hop)] at he ⊢
      have s2 := sf s hs o hop
      change Pure _ _ [_, _, .agg [AI o.kind, AI o.el]] _ at s2
      rw [hop] at s1
      repeat (first | refine gN pk ?_)
      refine zrg ((List.range 8).map fun i => if inL [6] i = true then .eff else if inL [0, 1, 4, 5] i = true then .read else .pure) [] [0, 1, 2, 3, 4, 5, 6, 7] .stop mixed rfl rfl (by decide +kernel) ?_
      repeat' (first | (with_reducible show AG _ _ _ _ _ _ _ _ _ _; first | exact zgn | refine zgs ?_ | refine znd ?_ ?_) | (show AMid _ _ _ _; first | refine zmf ?_ | refine zmg (by first | exact OSub.refl _ | exact .drop (OSub.refl _) | exact .drop (.drop (OSub.refl _))) ?_) | refine gY pk ?_ | (show AL _ _ _ _ _ _ _; first | refine jO tok 0 ?_ | refine jX tok xk ?_ | refine jP s1 ?_) | fail)
      repeat (first | refine gN pk ?_)
      refine zrg ((List.range 8).map fun i => if inL [6, 7] i = true then .eff else if inL [0, 1, 4, 5] i = true then .read else .pure) [] [0, 1, 2, 3, 4, 5, 6, 7] .stop mixed rfl rfl (by decide +kernel) ?_
      repeat' (first | (with_reducible show AG _ _ _ _ _ _ _ _ _ _; first | exact zgn | refine zgs ?_ | refine znd ?_ ?_) | (show AMid _ _ _ _; first | refine zmf ?_ | refine zmg (by first | exact OSub.refl _ | exact .drop (OSub.refl _) | exact .drop (.drop (OSub.refl _))) ?_) | refine gY pk ?_ | (show AL _ _ _ _ _ _ _; first | refine jO tok 0 ?_ | refine jX tok xk ?_ | refine jP s2 ?_ | refine jS tok 0 ?_) | fail)
      repeat (first | refine gA pk ?_)
      exact ⟨i + 1, aftK p s o, (), ⟨by omega, aftK_ok hs o, rfl⟩, by omega, .sub (by exact subQ) (OSub.refl _)⟩
    · rw [if_pos hop] at he ⊢
      generalize opE p s o = c at *
      repeat (first | refine gN pk ?_)
      refine zrg ((List.range 8).map fun i => if inL [6] i = true then .eff else if inL [0, 1, 4, 5] i = true then .read else .pure) [] [0, 1, 2, 3, 4, 5, 6, 7] .stop mixed rfl rfl (by decide +kernel) ?_
      repeat' (first | (with_reducible show AG _ _ _ _ _ _ _ _ _ _; first | exact zgn | refine zgs ?_ | refine znd ?_ ?_) | (show AMid _ _ _ _; first | refine zmf ?_ | refine zmg (by first | exact OSub.refl _ | exact .drop (OSub.refl _) | exact .drop (.drop (OSub.refl _))) ?_) | refine gY pk ?_ | (show AL _ _ _ _ _ _ _; first | refine jO tok 0 ?_ | refine jX tok xk ?_ | refine jP s1 ?_) | fail)
      repeat (first | refine gA pk ?_)
      refine finQ ?_
      exact ⟨rfl, rfl⟩
  · obtain rfl : i = l.length := by omega
    rw [List.drop_length]
    have s2 := sk s hs
    rw [show planE p s [] = if knownB s = true then 0 else 20 from rfl]
    generalize knownB s = kb at *
    cases kb
    all_goals
      repeat (first | refine gA pk ?_ | (show AL _ _ _ _ _ _ _; first | refine jO tok 0 ?_ | refine jP s2 ?_))
      refine finQ ?_
      exact ⟨rfl, rfl⟩
theorem gpvalid_spec (p : Gr) (hp : OkG p) (l : List Opn) (hl : l.length ≤ 1000) : Pure Tryz.prog 34 [grA p, opsA l] (AI (pvalE p l)) := by
  have s1 := refgvalid_spec p hp
  unfold pvalE
  by_cases h : gvalid p = 0
  · rw [if_neg (Decidable.not_not.2 h)]
    rw [h] at s1
    have s2 := gright_plan_spec p (gvalid_zero.1 h) l hl
    generalize planE p (kn0 p) l = c at *
    refine zen Tryz.func34 (by kernel_rfl) rfl Tryz.ntmps34 rfl (by simp) ?_; refine a_seq ?_; refine a_reg ?_; (repeat (first | refine gZ pk ?_ | (show AL _ _ _ _ _ _ _; first | refine jB (fun u => ?_)))); refine zfb 0 2 rfl rfl ?_
    repeat (first | refine gA pk ?_ | (show AL _ _ _ _ _ _ _; first | refine jP s1 ?_ | refine jP s2 ?_))
    refine finQ ?_
    exact ⟨rfl, rfl⟩
  · rw [if_pos h]
    generalize gvalid p = c at *
    refine zen Tryz.func34 (by kernel_rfl) rfl Tryz.ntmps34 rfl (by simp) ?_; refine a_seq ?_; refine a_reg ?_; (repeat (first | refine gZ pk ?_ | (show AL _ _ _ _ _ _ _; first | refine jB (fun u => ?_)))); refine zfb 0 2 rfl rfl ?_
    repeat (first | refine gA pk ?_ | (show AL _ _ _ _ _ _ _; first | refine jP s1 ?_))
    refine finQ ?_
    exact ⟨rfl, rfl⟩
def plainR (p : Gr) : List Opn × Int := if gvalid p ≠ 0 then ([], gvalid p) else (plainL p, 0)
theorem nil2 {e : Int} : Sub (.tup [nilS, AI e]) (.tup [opsA [], AI e]) := Sub.tup (m := [opsA [], AI e]) ⟨Sub.nil 2, Sub.refl _, trivial⟩
theorem plain_spec (p : Gr) (hp : OkG p) : Pure Tryz.prog 32 [grA p] (.tup [opsA (plainR p).1, AI (plainR p).2]) := by
  have s1 := gvalid_spec p hp
  unfold plainR
  by_cases h : gvalid p = 0
  rotate_left
  · rw [if_pos h]
    generalize gvalid p = c at *
    refine zen Tryz.func32 (by kernel_rfl) rfl Tryz.ntmps32 rfl (by simp) ?_; refine a_seq ?_; refine a_reg ?_; (repeat (first | refine gZ pk ?_ | (show AL _ _ _ _ _ _ _; first | refine jB (fun u => ?_)))); refine zfb 0 1 rfl rfl ?_
    repeat (first | refine gA pk ?_ | (show AL _ _ _ _ _ _ _; first | refine jP s1 ?_))
    exact fin (x := .tup [nilS, AI c]) (.inr rfl) rfl nil2 ⟨rfl, rfl⟩ (OSub.none _)
  rw [if_neg (Decidable.not_not.2 h)]
  rw [h] at s1
  have hG := gvalid_zero.1 h
  have hnl := hG.nl
  have hel := hG.el
  have ln : (rowI p.nodes).length = p.nodes.length := by simp
  have le : (p.edges.map cEd).length = p.edges.length := by simp
  clear h hG hp
  obtain ⟨pn, pe⟩ := p
  simp only at *
  have hN : opsN ⟨pn, pe⟩ = opsM 1 pn.length := rfl
  have hP : plainL ⟨pn, pe⟩ = opsM 1 pn.length ++ opsM 3 pe.length := rfl
  rw [hP]
  change Pure _ _ [.agg [ints pn, edsA pe]] _
  refine zen Tryz.func32 (by kernel_rfl) rfl Tryz.ntmps32 rfl (by simp) ?_
  refine a_seq ?_
  refine a_reg ?_
  repeat (first | refine gZ pk ?_ | (show AL _ _ _ _ _ _ _; first | refine jB (fun u => ?_)))
  refine zfb 0 1 rfl rfl ?_
  repeat (first | refine gA pk ?_ | (show AL _ _ _ _ _ _ _; first | refine jP s1 ?_))
  rw [ln]
  refine a_loopG3 (fun (i : Nat) (o : List Opn) (v : Value) => [(1, .ip [ints pn, edsA pe]), (5, .lit v), (15, AI pn.length), (16, AI i)]) (fun i o v => [(v, .row 41 2 (o.map cOp))]) (fun i o _ => i ≤ pn.length ∧ o = opsM 1 i) (fun i _ _ => pn.length - i) 0 [] (.slice none 0 0) ⟨by omega, rfl⟩ (.sub (by exact subQ) (.free (OSub.none _))) ?_
  rintro i o v ⟨hi, ho⟩
  have lo : (o.map cOp).length = i := by rw [List.length_map, ho, opsM_len]
  rcases Nat.lt_or_ge i pn.length with h | h
  · have hs : (opsM 1 (i + 1)).map cOp = o.map cOp ++ [[AI 1, AI i]] := by rw [opsM_succ, ho, List.map_append]; rfl
    repeat (first | refine gA pk ?_)
    (first | refine s_build1 tok rfl rfl rfl rfl rfl rfl rfl rfl (fun u => ?_) | refine s_build1M tok rfl rfl rfl rfl rfl rfl rfl (fun u => ?_) | refine zba tok rfl rfl rfl rfl rfl rfl rfl rfl (by decide) (fun u => ?_)); refine s_append1 tok 0 rfl rfl rfl rfl rfl rfl (by decide) rfl rfl rfl rfl (by omega) (by omega) (fun w => ?_)
    repeat (first | refine gA pk ?_)
    exact ⟨i + 1, opsM 1 (i + 1), w, ⟨by omega, rfl⟩, by omega, .sub (by exact subQ) (by rw [hs]; exact OSub.refl _)⟩
  · obtain rfl : i = pn.length := by omega
    subst ho
    repeat (first | refine gA pk ?_)
    rw [le]
    refine a_loopG3 (fun (i : Nat) (o : List Opn) (v : Value) => [(5, .lit v), (27, AI pe.length), (28, AI i)]) (fun i o v => [(v, .row 41 2 (o.map cOp))]) (fun i o _ => i ≤ pe.length ∧ o = opsM 1 pn.length ++ opsM 3 i) (fun i _ _ => pe.length - i) 0 (opsM 1 pn.length) v ⟨by omega, by simp [opsM]⟩ (.sub (by exact subQ) (OSub.refl _)) ?_
    rintro i o v ⟨hi, ho⟩
    have lo : (o.map cOp).length = pn.length + i := by rw [List.length_map, ho, List.length_append, opsM_len, opsM_len]
    rcases Nat.lt_or_ge i pe.length with h | h
    · have hs : (opsM 1 pn.length ++ opsM 3 (i + 1)).map cOp = o.map cOp ++ [[AI 3, AI i]] := by rw [opsM_succ, ho, ← List.append_assoc, List.map_append]; rfl
      repeat (first | refine gA pk ?_)
      (first | refine s_build1 tok rfl rfl rfl rfl rfl rfl rfl rfl (fun u => ?_) | refine s_build1M tok rfl rfl rfl rfl rfl rfl rfl (fun u => ?_) | refine zba tok rfl rfl rfl rfl rfl rfl rfl rfl (by decide) (fun u => ?_)); refine s_append1 tok 0 rfl rfl rfl rfl rfl rfl (by decide) rfl rfl rfl rfl (by omega) (by omega) (fun w => ?_)
      repeat (first | refine gA pk ?_)
      exact ⟨i + 1, opsM 1 pn.length ++ opsM 3 (i + 1), w, ⟨by omega, rfl⟩, by omega, .sub (by exact subQ) (by rw [hs]; exact OSub.refl _)⟩
    · obtain rfl : i = pe.length := by omega
      subst ho
      refine a_frz 0 5 rfl rfl ?_
      repeat (first | refine gA pk ?_)
      refine fin (x := .tup [opsA _, AI 0]) (.inr rfl) rfl (Sub.refl _) ⟨rfl, rfl⟩ (OSub.none _)
theorem gplain_spec (p : Gr) (hp : OkG p) : Pure Tryz.prog 33 [grA p] (.tup [opsA (plainR p).1, AI (plainR p).2]) := by
  have s1 := refgvalid_spec p hp
  unfold plainR
  by_cases h : gvalid p = 0
  rotate_left
  · rw [if_pos h]
    generalize gvalid p = c at *
    refine zen Tryz.func33 (by kernel_rfl) rfl Tryz.ntmps33 rfl (by simp) ?_; refine a_seq ?_; refine a_reg ?_; (repeat (first | refine gZ pk ?_ | (show AL _ _ _ _ _ _ _; first | refine jB (fun u => ?_)))); refine zfb 0 1 rfl rfl ?_
    repeat (first | refine gA pk ?_ | (show AL _ _ _ _ _ _ _; first | refine jP s1 ?_))
    exact fin (x := .tup [nilS, AI c]) (.inr rfl) rfl nil2 ⟨rfl, rfl⟩ (OSub.none _)
  rw [if_neg (Decidable.not_not.2 h)]
  rw [h] at s1
  have hG := gvalid_zero.1 h
  have hnl := hG.nl
  have hel := hG.el
  have ln : (rowI p.nodes).length = p.nodes.length := by simp
  have le : (p.edges.map cEd).length = p.edges.length := by simp
  clear h hG hp
  obtain ⟨pn, pe⟩ := p
  simp only at *
  have hP : plainL ⟨pn, pe⟩ = opsM 1 pn.length ++ opsM 3 pe.length := rfl
  rw [hP]
  change Pure _ _ [.agg [ints pn, edsA pe]] _
  refine zen Tryz.func33 (by kernel_rfl) rfl Tryz.ntmps33 rfl (by simp) ?_
  refine a_seq ?_
  refine a_reg ?_
  repeat (first | refine gZ pk ?_ | (show AL _ _ _ _ _ _ _; first | refine jB (fun u => ?_)))
  refine zfb 0 1 rfl rfl ?_
  repeat (first | refine gA pk ?_ | (show AL _ _ _ _ _ _ _; first | refine jP s1 ?_))
  refine a_loopG3 (fun (i : Nat) (o : List Opn) (v : Value) => [(1, .ip [ints pn, edsA pe]), (5, .lit v), (6, AI i)]) (fun i o v => [(v, .row 41 2 (o.map cOp))]) (fun i o _ => i ≤ pn.length ∧ o = opsM 1 i) (fun i _ _ => pn.length - i) 0 [] (.slice none 0 0) ⟨by omega, rfl⟩ (.sub (by exact subQ) (.free (OSub.none _))) ?_
  rintro i o v ⟨hi, ho⟩
  have lo : (o.map cOp).length = i := by rw [List.length_map, ho, opsM_len]
  rcases Nat.lt_or_ge i pn.length with h | h
  · have hs : (opsM 1 (i + 1)).map cOp = o.map cOp ++ [[AI 1, AI i]] := by rw [opsM_succ, ho, List.map_append]; rfl
    repeat (first | refine gA pk ?_)
    (first | refine s_build1 tok rfl rfl rfl rfl rfl rfl rfl rfl (fun u => ?_) | refine s_build1M tok rfl rfl rfl rfl rfl rfl rfl (fun u => ?_) | refine zba tok rfl rfl rfl rfl rfl rfl rfl rfl (by decide) (fun u => ?_)); refine s_append1 tok 0 rfl rfl rfl rfl rfl rfl (by decide) rfl rfl rfl rfl (by omega) (by omega) (fun w => ?_)
    repeat (first | refine gA pk ?_)
    exact ⟨i + 1, opsM 1 (i + 1), w, ⟨by omega, rfl⟩, by omega, .sub (by exact subQ) (by rw [hs]; exact OSub.refl _)⟩
  · obtain rfl : i = pn.length := by omega
    subst ho
    repeat (first | refine gA pk ?_)
    refine a_loopG3 (fun (i : Nat) (o : List Opn) (v : Value) => [(1, .ip [ints pn, edsA pe]), (5, .lit v), (7, AI i)]) (fun i o v => [(v, .row 41 2 (o.map cOp))]) (fun i o _ => i ≤ pe.length ∧ o = opsM 1 pn.length ++ opsM 3 i) (fun i _ _ => pe.length - i) 0 (opsM 1 pn.length) v ⟨by omega, by simp [opsM]⟩ (.sub (by exact subQ) (OSub.refl _)) ?_
    rintro i o v ⟨hi, ho⟩
    have lo : (o.map cOp).length = pn.length + i := by rw [List.length_map, ho, List.length_append, opsM_len, opsM_len]
    rcases Nat.lt_or_ge i pe.length with h | h
    · have hs : (opsM 1 pn.length ++ opsM 3 (i + 1)).map cOp = o.map cOp ++ [[AI 3, AI i]] := by rw [opsM_succ, ho, ← List.append_assoc, List.map_append]; rfl
      repeat (first | refine gA pk ?_)
      (first | refine s_build1 tok rfl rfl rfl rfl rfl rfl rfl rfl (fun u => ?_) | refine s_build1M tok rfl rfl rfl rfl rfl rfl rfl (fun u => ?_) | refine zba tok rfl rfl rfl rfl rfl rfl rfl rfl (by decide) (fun u => ?_)); refine s_append1 tok 0 rfl rfl rfl rfl rfl rfl (by decide) rfl rfl rfl rfl (by omega) (by omega) (fun w => ?_)
      repeat (first | refine gA pk ?_)
      exact ⟨i + 1, opsM 1 pn.length ++ opsM 3 (i + 1), w, ⟨by omega, rfl⟩, by omega, .sub (by exact subQ) (by rw [hs]; exact OSub.refl _)⟩
    · obtain rfl : i = pe.length := by omega
      subst ho
      refine a_frz 0 5 rfl rfl ?_
      repeat (first | refine gA pk ?_)
      refine fin (x := .tup [opsA _, AI 0]) (.inr rfl) rfl (Sub.refl _) ⟨rfl, rfl⟩ (OSub.none _)
theorem se_op : SE Tryz.prog 41 2 := se_of Tryz.underlying41 (by kernel_rfl) (by kernel_rfl) rfl (by kernel_rfl)
abbrev toIO (o : Opn) : List Int := [o.kind, o.el]
theorem toIO_eq {a b : Opn} : toIO a = toIO b ↔ a = b := by
  obtain ⟨a1, a2⟩ := a
  obtain ⟨b1, b2⟩ := b
  simp [toIO]
theorem gSameOps_spec (a b : List Opn) (ha : a.length ≤ 1000000) (hb : b.length ≤ 1000000) : Pure Tryz.prog 29 [opsA a, opsA b] (AB (decide (a = b))) := by
  have la : (a.map cOp).length = a.length := by simp
  have lb : (b.map cOp).length = b.length := by simp
  by_cases hl : a.length = b.length
  · refine zen Tryz.func29 (by kernel_rfl) rfl Tryz.ntmps29 rfl (by simp) ?_
    repeat (first | refine gA pk ?_)
    refine zlx (fun k : Nat => [(0, opsA a), (1, opsA b), (5, AI k)]) (fun _ => []) (fun k => k ≤ a.length ∧ a.take k = b.take k) (fun k => a.length - k) 0 ⟨Nat.zero_le _, rfl⟩ ?_ (OSub.refl _) ?_
    · exact subQ
    · rintro k ⟨hk, he⟩
      rcases Nat.lt_or_ge k a.length with h | h
      · have h1 := List.getElem?_eq_getElem h
        have h2 := List.getElem?_eq_getElem (l := b) (i := k) (by omega)
        generalize a[k] = x at h1
        generalize b[k]'(by omega) = y at h2
        have x1 : (a.map cOp)[(k : Int).toNat]? = some (cOp x) := zmp (f := cOp) h1
        have x2 : (b.map cOp)[(k : Int).toNat]? = some (cOp y) := zmp (f := cOp) h2
        by_cases hab : x = y
        · have ht : a.take (k + 1) = b.take (k + 1) := by rw [List.take_add_one, List.take_add_one, h1, h2, he, hab]
          repeat (first | refine gN pk ?_)
          refine zrg ((List.range 9).map fun i => if inL [2, 3, 6, 7] i = true then .read else .pure) [] [0, 1, 2, 3, 4, 5, 6, 7, 8] .stop mixed rfl rfl (by decide +kernel) ?_
          repeat' (first | (with_reducible show AG _ _ _ _ _ _ _ _ _ _; first | exact zgn | refine zgs ?_ | refine znd ?_ ?_) | (show AMid _ _ _ _; first | refine zmf ?_ | refine zmg (by first | exact OSub.refl _ | exact .drop (OSub.refl _) | exact .drop (.drop (OSub.refl _))) ?_) | refine gY pk ?_ | (show AL _ _ _ _ _ _ _; first | refine jX tok x1 ?_ | refine jX tok x2 ?_ | refine s_sne (b := false) (xs := toIO x) (ys := toIO y) se_op rfl rfl rfl rfl rfl rfl rfl rfl (by rw [decide_eq_true (toIO_eq.2 hab)]; rfl) ?_) | fail)
          repeat (first | refine gA pk ?_)
          exact ⟨k + 1, ⟨by omega, ht⟩, by omega, by exact subQ, OSub.refl _⟩
        · have hne : a ≠ b := fun e => by rw [e, h2] at h1; cases h1; exact hab rfl
          rw [decide_eq_false hne]
          repeat (first | refine gN pk ?_)
          refine zrg ((List.range 9).map fun i => if inL [2, 3, 6, 7] i = true then .read else .pure) [] [0, 1, 2, 3, 4, 5, 6, 7, 8] .stop mixed rfl rfl (by decide +kernel) ?_
          repeat' (first | (with_reducible show AG _ _ _ _ _ _ _ _ _ _; first | exact zgn | refine zgs ?_ | refine znd ?_ ?_) | (show AMid _ _ _ _; first | refine zmf ?_ | refine zmg (by first | exact OSub.refl _ | exact .drop (OSub.refl _) | exact .drop (.drop (OSub.refl _))) ?_) | refine gY pk ?_ | (show AL _ _ _ _ _ _ _; first | refine jX tok x1 ?_ | refine jX tok x2 ?_ | refine s_sne (b := true) (xs := toIO x) (ys := toIO y) se_op rfl rfl rfl rfl rfl rfl rfl rfl (by rw [decide_eq_false (fun q => hab (toIO_eq.1 q))]; rfl) ?_) | fail)
          repeat (first | refine gA pk ?_)
          refine finQ ?_
          exact ⟨rfl, rfl⟩
      · have : a = b := by
          have e1 : a.take k = a := List.take_of_length_le (by omega)
          have e2 : b.take k = b := List.take_of_length_le (by omega)
          rw [← e1, ← e2, he]
        rw [decide_eq_true this]
        repeat (first | refine gA pk ?_)
        refine finQ ?_
        exact ⟨rfl, rfl⟩
  · rw [decide_eq_false (fun e => hl (by rw [e]))]
    refine zen Tryz.func29 (by kernel_rfl) rfl Tryz.ntmps29 rfl (by simp) ?_
    repeat (first | refine gA pk ?_)
    refine finQ ?_
    exact ⟨rfl, rfl⟩
end Go.Proofs.YtimfponihbfimaaGreat
end
