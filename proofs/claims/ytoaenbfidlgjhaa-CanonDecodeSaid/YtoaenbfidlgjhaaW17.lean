/-
  The reference's search: the walks. Conditions: valid graphs of at most 8 nodes.
-/
import Derived.Test.YtoaenbfidlgjhaaSjQ8
import Derived.Test.YtoaenbfidlgjhaaW16
namespace Go.Proofs.Ytoaenbfidlgjhaa
open Go.Sj Go.Sj.Typ Go.Sj.Sta Go.Sj.Can
set_option linter.unusedVariables false
set_option linter.unusedSimpArgs false
set_option maxHeartbeats 16000000

section
variable {P : Program} {N : Nat} {ops : List Oper} {Q : St → Own → Prop} {L : Own} {rest : List (Oper × Kd)} {l : List (Nat × AV)} {k : Kd} {q : Nat}
theorem s_minE {o : Oper} {x y : Operand} {tys : Array TypeId} {kk : IntKind} {a b c : Int} (ho : o.op = .call ⟨.builtin .min, #[x, y], tys⟩) (hdst : o.dst = some q) (hd : Nat.blt q N = true) (hg : guardA ops o (lk l) = some true)
    (hx : ev (lk l) x = .lit (.int kk a)) (hy : ev (lk l) y = .lit (.int kk b)) (h : min a b = c)
    (n : AL P N ops Q rest (lk ((q, .lit (.int kk c)) :: l)) L) : AL P N ops Q ((o, k) :: rest) (lk l) L := by
  subst h
  exact s_min2 ho hdst hd hg hx hy n
end
theorem rtry_spec (g : Gr) (hg : GV g) (hn : g.nodes.length ≤ 8) : ∀ (m : Nat) (p : List Int) (s : Bst), p.length + m = g.nodes.length → Po g.nodes.length p → Go.Sj.Can.Good (nN g) (tT g) g.nodes.length s → ∀ U : Value,
    ACalls Try.prog 72 [.pt U 0 0 0, ints p, ints (cd (nN g) (tT g) g.nodes.length p)] [(U, .box (fC g s))] (fun y M => y = .tup [] ∧ M = [(U, .box (fC g (srch (nN g) (tT g) g.nodes.length m p s)))]) := by
  have hel := hg.el
  have hK : cdK g ≤ 200 := by
    unfold cdK
    have := Nat.mul_le_mul hn hn
    omega
  have ln : (rowI g.nodes).length = g.nodes.length := by simp
  have hfr : ∀ {y : AV} {b : Bool}, (∀ x M, x = AB b ∧ M = ([] : Own) → Free x ∧ M = []) := fun {y b} x M h => by
    rw [h.1]
    exact ⟨.lit _, h.2⟩
  intro m
  induction m with
  | zero =>
    intro p s hl hp hs U
    have hcl := cd_full hg ⟨hp, by omega⟩
    have lp : (rowI p).length = p.length := by simp
    cases s with
    | none =>
      show ACalls _ _ _ _ (fun y M => y = .tup [] ∧ M = [(U, .box [ints g.nodes, edsA g.edges, ints p, ints (cd (nN g) (tT g) g.nodes.length p), AB true])])
      generalize hc : cd (nN g) (tT g) g.nodes.length p = c at *
      refine a_enter Try.func72 (by kernel_rfl) rfl Try.ntmps72 rfl (by simp) ?_
      repeat (first | refine gN pk ?_)
      refine a_regG ((List.range 22).map fun i => if inL [19] i = true then .eff else if inL [3, 9, 11, 15, 16, 18] i = true then .read else .pure) [] [0, 1, 2, 3, 4, 5, 6, 7, 8, 9, 10, 11, 12, 13, 14, 15, 16, 17, 18, 19, 20, 21] .stop mixed rfl rfl (by decide +kernel) ?_
      repeat' (first | (with_reducible show AG _ _ _ _ _ _ _ _ _ _; first | exact ag_none | refine ag_stop ?_ | refine ag_nd ?_ ?_) | (show AMid _ _ _ _; first | refine amid_f ?_ | refine amid_g (by first | exact OSub.refl _ | exact .drop (OSub.refl _) | exact .drop (.drop (OSub.refl _))) ?_) | refine gY pk ?_ | (show AL _ _ _ _ _ _ _; first | refine jO tok 0 ?_) | fail)
      repeat (first | refine gA pk ?_ | (show AL _ _ _ _ _ _ _; first | refine jO tok 0 ?_ | refine jS tok 0 ?_))
      refine fin (x := .tup []) (.inr rfl) rfl (Sub.refl _) ⟨rfl, rfl⟩ (OSub.refl _)
    | some x =>
      obtain ⟨o, d⟩ := x
      obtain ⟨hod, rfl⟩ := hs o d rfl
      have hdl := cd_full hg hod
      have scm := rcmp_spec (cd (nN g) (tT g) g.nodes.length p) (cd (nN g) (tT g) g.nodes.length o) (by omega) (by omega)
      have swo := rcmp_spec (cd (nN g) (tT g) g.nodes.length p) ((cd (nN g) (tT g) g.nodes.length o).take (cd (nN g) (tT g) g.nodes.length p).length) (by omega) (by rw [List.length_take]; omega)
      have hsr : srch (nN g) (tT g) g.nodes.length 0 p (some (o, cd (nN g) (tT g) g.nodes.length o)) = if decide (0 < cmpL (cd (nN g) (tT g) g.nodes.length p) ((cd (nN g) (tT g) g.nodes.length o).take (cd (nN g) (tT g) g.nodes.length p).length)) = true then some (o, cd (nN g) (tT g) g.nodes.length o) else if cmpL (cd (nN g) (tT g) g.nodes.length p) (cd (nN g) (tT g) g.nodes.length o) < 0 then some (p, cd (nN g) (tT g) g.nodes.length p) else some (o, cd (nN g) (tT g) g.nodes.length o) := rfl
      rw [hsr]
      clear hsr hs
      generalize hc : cd (nN g) (tT g) g.nodes.length p = c at *
      generalize hd' : cd (nN g) (tT g) g.nodes.length o = d at *
      have e2 : ints (d.take c.length) = .im 1 (((rowI d).take c.length).drop 0) := by rw [part_take]
      rw [e2] at swo
      have lc : (rowI c).length = c.length := by simp
      have ld : (rowI d).length = d.length := by simp
      have hmn : min ((rowI c).length : Int) ((rowI d).length : Int) = (c.length : Nat) := by rw [lc, ld]; omega
      generalize cmpL c (d.take c.length) = w at *
      generalize cmpL c d = z at *
      by_cases hw : 0 < w
      · rw [decide_eq_true hw, if_pos rfl]
        refine a_enter Try.func72 (by kernel_rfl) rfl Try.ntmps72 rfl (by simp) ?_
        repeat (first | refine gN pk ?_)
        refine a_regG ((List.range 22).map fun i => if inL [19] i = true then .eff else if inL [3, 9, 11, 15, 16, 18] i = true then .read else .pure) [] [0, 1, 2, 3, 4, 5, 6, 7, 8, 9, 10, 11, 12, 13, 14, 15, 16, 17, 18, 19, 20, 21] .stop mixed rfl rfl (by decide +kernel) ?_
        repeat' (first | (with_reducible show AG _ _ _ _ _ _ _ _ _ _; first | exact ag_none | refine ag_stop ?_ | refine ag_nd ?_ ?_) | (show AMid _ _ _ _; first | refine amid_f ?_ | refine amid_g (by first | exact OSub.refl _ | exact .drop (OSub.refl _) | exact .drop (.drop (OSub.refl _))) ?_) | refine gY pk ?_ | (show AL _ _ _ _ _ _ _; first | refine jO tok 0 ?_) | fail)
        rw [hmn]
        repeat' (first | (with_reducible show AG _ _ _ _ _ _ _ _ _ _; first | exact ag_none | refine ag_stop ?_ | refine ag_nd ?_ ?_) | (show AMid _ _ _ _; first | refine amid_f ?_ | refine amid_g (by first | exact OSub.refl _ | exact .drop (OSub.refl _) | exact .drop (.drop (OSub.refl _))) ?_) | refine gY pk ?_ | (show AL _ _ _ _ _ _ _; first | refine jO tok 0 ?_ | refine s_slice tok (a := 0) (b := c.length) rfl rfl rfl rfl rfl rfl rfl rfl (by first | exact rfl | exact ⟨_, rfl⟩) (by first | exact rfl | exact ⟨_, rfl⟩) (by omega) (by omega) ?_ | refine jP swo ?_) | fail)
        repeat (first | refine gA pk ?_)
        refine fin (x := .tup []) (.inr rfl) rfl (Sub.refl _) ⟨rfl, rfl⟩ (OSub.refl _)
      · rw [decide_eq_false hw, if_neg (by decide)]
        by_cases hz : z < 0
        · rw [if_pos hz]
          show ACalls _ _ _ _ (fun y M => y = .tup [] ∧ M = [(U, .box [ints g.nodes, edsA g.edges, ints p, ints c, AB true])])
          refine a_enter Try.func72 (by kernel_rfl) rfl Try.ntmps72 rfl (by simp) ?_
          repeat (first | refine gN pk ?_)
          refine a_regG ((List.range 22).map fun i => if inL [19] i = true then .eff else if inL [3, 9, 11, 15, 16, 18] i = true then .read else .pure) [] [0, 1, 2, 3, 4, 5, 6, 7, 8, 9, 10, 11, 12, 13, 14, 15, 16, 17, 18, 19, 20, 21] .stop mixed rfl rfl (by decide +kernel) ?_
          repeat' (first | (with_reducible show AG _ _ _ _ _ _ _ _ _ _; first | exact ag_none | refine ag_stop ?_ | refine ag_nd ?_ ?_) | (show AMid _ _ _ _; first | refine amid_f ?_ | refine amid_g (by first | exact OSub.refl _ | exact .drop (OSub.refl _) | exact .drop (.drop (OSub.refl _))) ?_) | refine gY pk ?_ | (show AL _ _ _ _ _ _ _; first | refine jO tok 0 ?_) | fail)
          rw [hmn]
          repeat' (first | (with_reducible show AG _ _ _ _ _ _ _ _ _ _; first | exact ag_none | refine ag_stop ?_ | refine ag_nd ?_ ?_) | (show AMid _ _ _ _; first | refine amid_f ?_ | refine amid_g (by first | exact OSub.refl _ | exact .drop (OSub.refl _) | exact .drop (.drop (OSub.refl _))) ?_) | refine gY pk ?_ | (show AL _ _ _ _ _ _ _; first | refine jO tok 0 ?_ | refine s_slice tok (a := 0) (b := c.length) rfl rfl rfl rfl rfl rfl rfl rfl (by first | exact rfl | exact ⟨_, rfl⟩) (by first | exact rfl | exact ⟨_, rfl⟩) (by omega) (by omega) ?_ | refine jP swo ?_) | fail)
          repeat (first | refine gA pk ?_ | (show AL _ _ _ _ _ _ _; first | refine jO tok 0 ?_ | refine jP scm ?_ | refine jS tok 0 ?_))
          refine fin (x := .tup []) (.inr rfl) rfl (Sub.refl _) ⟨rfl, rfl⟩ (OSub.refl _)
        · rw [if_neg hz]
          refine a_enter Try.func72 (by kernel_rfl) rfl Try.ntmps72 rfl (by simp) ?_
          repeat (first | refine gN pk ?_)
          refine a_regG ((List.range 22).map fun i => if inL [19] i = true then .eff else if inL [3, 9, 11, 15, 16, 18] i = true then .read else .pure) [] [0, 1, 2, 3, 4, 5, 6, 7, 8, 9, 10, 11, 12, 13, 14, 15, 16, 17, 18, 19, 20, 21] .stop mixed rfl rfl (by decide +kernel) ?_
          repeat' (first | (with_reducible show AG _ _ _ _ _ _ _ _ _ _; first | exact ag_none | refine ag_stop ?_ | refine ag_nd ?_ ?_) | (show AMid _ _ _ _; first | refine amid_f ?_ | refine amid_g (by first | exact OSub.refl _ | exact .drop (OSub.refl _) | exact .drop (.drop (OSub.refl _))) ?_) | refine gY pk ?_ | (show AL _ _ _ _ _ _ _; first | refine jO tok 0 ?_) | fail)
          rw [hmn]
          repeat' (first | (with_reducible show AG _ _ _ _ _ _ _ _ _ _; first | exact ag_none | refine ag_stop ?_ | refine ag_nd ?_ ?_) | (show AMid _ _ _ _; first | refine amid_f ?_ | refine amid_g (by first | exact OSub.refl _ | exact .drop (OSub.refl _) | exact .drop (.drop (OSub.refl _))) ?_) | refine gY pk ?_ | (show AL _ _ _ _ _ _ _; first | refine jO tok 0 ?_ | refine s_slice tok (a := 0) (b := c.length) rfl rfl rfl rfl rfl rfl rfl rfl (by first | exact rfl | exact ⟨_, rfl⟩) (by first | exact rfl | exact ⟨_, rfl⟩) (by omega) (by omega) ?_ | refine jP swo ?_) | fail)
          repeat (first | refine gA pk ?_ | (show AL _ _ _ _ _ _ _; first | refine jO tok 0 ?_ | refine jP scm ?_))
          refine fin (x := .tup []) (.inr rfl) rfl (Sub.refl _) ⟨rfl, rfl⟩ (OSub.refl _)
  | succ m ih =>
    intro p s hl hp hs U
    have hcl := cd_le g hp
    have hpl := hp.len
    have lp : (rowI p).length = p.length := by simp
    have hsn : ∀ v : Int, cd (nN g) (tT g) g.nodes.length (p ++ [v]) = cd (nN g) (tT g) g.nodes.length p ++ pc (nN g) (tT g) p v := fun v => cd_snoc _ _ _
    have hcl2 : ∀ v : Int, Po g.nodes.length (p ++ [v]) → (cd (nN g) (tT g) g.nodes.length (p ++ [v])).length ≤ 200 := fun v hv => by have := cd_le g hv; omega
    have spl := fun (v : Int) (hv : Po g.nodes.length (p ++ [v])) => piece_spec g hg hn p v hv
    have sop := fun (s : Bst) (v : Nat) (hv : v < g.nodes.length) => open_spec g hg hn s p (by omega) v hv
    have hgd := fold_good (m := m) (p := p) (s := s) hl hp hs
    have hsq : srch (nN g) (tT g) g.nodes.length (m + 1) p s = if worse s (cd (nN g) (tT g) g.nodes.length p) = true then s else ((List.range g.nodes.length).filter (opn (nN g) (tT g) g.nodes.length p)).foldl (fun s (v : Nat) => srch (nN g) (tT g) g.nodes.length m (p ++ [(v : Int)]) s) s := rfl
    rw [hsq]
    clear hsq
    have hfs := fun v => fold_snoc (N := nN g) (T := tT g) (n := g.nodes.length) (m := m) (p := p) (s := s) (v := v)
    have hF0 : ((List.range 0).filter (opn (nN g) (tT g) g.nodes.length p)).foldl (fun s (v : Nat) => srch (nN g) (tT g) g.nodes.length m (p ++ [(v : Int)]) s) s = s := rfl
    have hsd : ∀ o d, s = some (o, d) → (cd (nN g) (tT g) g.nodes.length p).length ≤ d.length ∧ d.length ≤ 1000 := fun o d h => by
      obtain ⟨h1, rfl⟩ := hs o d h
      have := cd_full hg h1
      exact ⟨by omega, by omega⟩
    generalize hF : (fun v => ((List.range v).filter (opn (nN g) (tT g) g.nodes.length p)).foldl (fun s (v : Nat) => srch (nN g) (tT g) g.nodes.length m (p ++ [(v : Int)]) s) s) = F at *
    have hFv : ∀ v, ((List.range v).filter (opn (nN g) (tT g) g.nodes.length p)).foldl (fun s (v : Nat) => srch (nN g) (tT g) g.nodes.length m (p ++ [(v : Int)]) s) s = F v := fun v => by rw [← hF]
    simp only [hFv] at hfs hF0 hgd ⊢
    clear hFv hF
    generalize hc : cd (nN g) (tT g) g.nodes.length p = c at *
    have ihg : ∀ (v : Nat) (hpv : Po g.nodes.length (p ++ [(v : Int)])) (S : Bst), Go.Sj.Can.Good (nN g) (tT g) g.nodes.length S → ∀ c2v : Value, ACalls Try.prog 72 [.pt U 0 0 0, ints (p ++ [(v : Int)]), .lit c2v] [(c2v, .row 3 1 (([] ++ rowI c) ++ rowI (pc (nN g) (tT g) p v))), (U, .box (fC g S))] (fun y M => y = .tup [] ∧ M = [(U, .box (fC g (srch (nN g) (tT g) g.nodes.length m (p ++ [(v : Int)]) S)))]) := fun v hpv S hS c2v => by
      have ihv := ih (p ++ [(v : Int)]) S (by simp; omega) hpv hS U
      rw [hsn v] at ihv
      have ihv' : ACalls Try.prog 72 [.pt U 0 0 0, ints (p ++ [(v : Int)]), .im 1 (([] ++ rowI c) ++ rowI (pc (nN g) (tT g) p v))] [(U, .box (fC g S))] (fun y M => y = .tup [] ∧ M = [(U, .box (fC g (srch (nN g) (tT g) g.nodes.length m (p ++ [(v : Int)]) S)))]) := by
        rw [List.nil_append, ← rowI_app]
        exact ihv
      exact ACalls.give (E := 3) ihv' ⟨rfl, FZL.refl _, trivial⟩ ⟨FZ.refl _, FZ.refl _, FZ.here, trivial⟩
    cases s with
    | none =>
      rw [show worse none c = false from rfl, if_neg (by decide)]
      refine a_enter Try.func72 (by kernel_rfl) rfl Try.ntmps72 rfl (by simp) ?_
      repeat (first | refine gN pk ?_)
      refine a_regG ((List.range 22).map fun i => if inL [19] i = true then .eff else if inL [3, 9, 11, 15, 16, 18] i = true then .read else .pure) [] [0, 1, 2, 3, 4, 5, 6, 7, 8, 9, 10, 11, 12, 13, 14, 15, 16, 17, 18, 19, 20, 21] .stop mixed rfl rfl (by decide +kernel) ?_
      repeat' (first | (with_reducible show AG _ _ _ _ _ _ _ _ _ _; first | exact ag_none | refine ag_stop ?_ | refine ag_nd ?_ ?_) | (show AMid _ _ _ _; first | refine amid_f ?_ | refine amid_g (by first | exact OSub.refl _ | exact .drop (OSub.refl _) | exact .drop (.drop (OSub.refl _))) ?_) | refine gY pk ?_ | (show AL _ _ _ _ _ _ _; first | refine jO tok 0 ?_) | fail)
      repeat (first | refine gN pk ?_ | (show AL _ _ _ _ _ _ _; first | refine jO tok 0 ?_))
      refine a_loopX (fun v : Nat => [(0, .pt U 0 0 0), (1, ints p), (2, ints c), (6, AI v)]) (fun v => [(U, .box (fC g (F v)))]) (fun v => v ≤ g.nodes.length) (fun v => g.nodes.length - v) 0 (Nat.zero_le _) ?_ (by rw [hF0]; exact OSub.refl _) ?_
      · exact subQ
      · intro v hv
        rcases Nat.lt_or_ge v g.nodes.length with h | h
        · have so := sop (F v) v h
          have h1 := hfs v
          have hg1 := hgd v (by omega)
          have hlo := ACalls.lendA (L := [(U, .box (fC g (F v)))]) (args' := [.pt U 0 0 0, ints p, AI v]) so ⟨FV.box (by simp), FV.refl _, FV.refl _, trivial⟩ (hfr (y := .any))
          cases hop : opn (nN g) (tT g) g.nodes.length p v with
          | false =>
            rw [hop] at hlo
            rw [hop, if_neg (by decide)] at h1
            repeat (first | refine gA pk ?_ | (show AL _ _ _ _ _ _ _; first | refine jO tok 0 ?_ | refine s_callO 0 rfl rfl rfl rfl rfl rfl hlo (SubL.of_eq rfl) ?_; rintro _ _ ⟨⟨rfl, -⟩, rfl⟩))
            refine ⟨v + 1, by omega, by omega, by exact subQ, ?_⟩
            rw [h1]
            exact OSub.refl _
          | true =>
            have hvp := (opn_iff.1 hop).1
            rw [hop] at hlo
            rw [hop, if_pos rfl] at h1
            have hpv := hp.snoc (v := (v : Int)) (by omega) hvp
            have spv := spl v hpv
            have hlc := hcl2 v hpv
            have ihc := ihg v hpv (F v) hg1
            rw [hsn v, List.length_append] at hlc
            have epv : ([] ++ rowI p) ++ [[AI v]] = rowI (p ++ [(v : Int)]) := by rw [List.nil_append]; exact (rowI_snoc p v).symm
            generalize pc (nN g) (tT g) p v = A at *
            repeat (first | refine gN pk ?_ | (show AL _ _ _ _ _ _ _; first | refine jO tok 0 ?_ | refine s_callO 0 rfl rfl rfl rfl rfl rfl hlo (SubL.of_eq rfl) ?_; rintro _ _ ⟨⟨rfl, -⟩, rfl⟩ | refine s_build tok (parts := []) rfl rfl rfl rfl rfl rfl rfl rfl (by decide) (by decide) (fun v1 => ?_) | refine s_build1 tok rfl rfl rfl rfl rfl rfl rfl rfl (fun v2 => ?_) | refine s_append1 tok 0 rfl rfl rfl rfl rfl rfl (by decide) rfl rfl rfl rfl (by simp only [List.length_append, List.length_map, List.length_cons, List.length_nil]; omega) (by simp only [List.length_append, List.length_map, List.length_cons, List.length_nil]; omega) (fun v3 => ?_) | refine s_appendIm tok 0 rfl rfl rfl rfl rfl rfl (by decide) rfl rfl rfl rfl (rowI_cell _) (by simp only [List.length_append, List.length_map, List.length_cons, List.length_nil]; omega) (by simp only [List.length_append, List.length_map, List.length_cons, List.length_nil]; omega) (fun v4 => ?_)))
            refine a_frz 0 7 rfl rfl ?_
            rw [epv]
            refine a_regG ((List.range 13).map fun i => if inL [2, 4, 8, 10, 11, 12] i = true then .eff else .pure) [] [0, 1, 3, 5, 6, 7, 9] (.nd 2 [] (.nd 4 [8, 10, 11, 12] .stop (.nd 8 [4, 10, 11, 12] .stop .stop)) (.nd 8 [2, 4, 10, 11, 12] .stop .stop)) mixed rfl rfl (by decide +kernel) ?_
            repeat' (first | (with_reducible show AG _ _ _ _ _ _ _ _ _ _; first | exact ag_none | refine ag_stop ?_ | refine ag_nd ?_ ?_) | (show AMid _ _ _ _; first | refine amid_f ?_ | refine amid_g (by first | exact OSub.refl _ | exact .drop (OSub.refl _) | exact .drop (.drop (OSub.refl _))) ?_) | refine gY pk ?_ | (show AL _ _ _ _ _ _ _; first | refine jO tok 0 ?_ | refine jO tok 1 ?_ | refine s_build tok (parts := []) rfl rfl rfl rfl rfl rfl rfl rfl (by decide) (by decide) (fun v1 => ?_) | refine s_appendIm tok 0 rfl rfl rfl rfl rfl rfl (by decide) rfl rfl rfl rfl (rowI_cell _) (by simp only [List.length_append, List.length_map, List.length_cons, List.length_nil]; omega) (by simp only [List.length_append, List.length_map, List.length_cons, List.length_nil]; omega) (fun c2v => ?_) | refine jP spv ?_) | fail)
            all_goals
              refine s_call (Lc := [(c2v, .row 3 1 (([] ++ rowI c) ++ rowI A)), (U, .box (fC g (F v)))]) (Lr := []) rfl rfl rfl rfl rfl (ihc c2v) (SubL.of_eq rfl) (List.Perm.refl _) ?_
              rintro _ _ ⟨rfl, rfl⟩
              repeat (first | refine gA pk ?_)
              refine ⟨v + 1, by omega, by omega, by exact subQ, ?_⟩
              rw [h1]
              exact OSub.refl _
        · obtain rfl : v = g.nodes.length := by omega
          repeat (first | refine gA pk ?_ | (show AL _ _ _ _ _ _ _; first | refine jO tok 0 ?_))
          refine fin (x := .tup []) (.inl rfl) rfl (Sub.refl _) ⟨rfl, rfl⟩ (OSub.refl _)
    | some x =>
      obtain ⟨o, d⟩ := x
      obtain ⟨hdl, hd1⟩ := hsd o d rfl
      have swo := rcmp_spec c (d.take c.length) (by omega) (by rw [List.length_take]; omega)
      have hwo : worse (some (o, d)) c = decide (0 < cmpL c (d.take c.length)) := rfl
      rw [hwo]
      have e2 : ints (d.take c.length) = .im 1 (((rowI d).take c.length).drop 0) := by rw [part_take]
      rw [e2] at swo
      have lc : (rowI c).length = c.length := by simp
      have ld : (rowI d).length = d.length := by simp
      have hmn : min ((rowI c).length : Int) ((rowI d).length : Int) = (c.length : Nat) := by rw [lc, ld]; omega
      clear hwo
      generalize cmpL c (d.take c.length) = w at *
      by_cases hw : 0 < w
      · rw [decide_eq_true hw, if_pos rfl]
        refine a_enter Try.func72 (by kernel_rfl) rfl Try.ntmps72 rfl (by simp) ?_
        repeat (first | refine gN pk ?_)
        refine a_regG ((List.range 22).map fun i => if inL [19] i = true then .eff else if inL [3, 9, 11, 15, 16, 18] i = true then .read else .pure) [] [0, 1, 2, 3, 4, 5, 6, 7, 8, 9, 10, 11, 12, 13, 14, 15, 16, 17, 18, 19, 20, 21] .stop mixed rfl rfl (by decide +kernel) ?_
        repeat' (first | (with_reducible show AG _ _ _ _ _ _ _ _ _ _; first | exact ag_none | refine ag_stop ?_ | refine ag_nd ?_ ?_) | (show AMid _ _ _ _; first | refine amid_f ?_ | refine amid_g (by first | exact OSub.refl _ | exact .drop (OSub.refl _) | exact .drop (.drop (OSub.refl _))) ?_) | refine gY pk ?_ | (show AL _ _ _ _ _ _ _; first | refine jO tok 0 ?_) | fail)
        rw [hmn]
        repeat' (first | (with_reducible show AG _ _ _ _ _ _ _ _ _ _; first | exact ag_none | refine ag_stop ?_ | refine ag_nd ?_ ?_) | (show AMid _ _ _ _; first | refine amid_f ?_ | refine amid_g (by first | exact OSub.refl _ | exact .drop (OSub.refl _) | exact .drop (.drop (OSub.refl _))) ?_) | refine gY pk ?_ | (show AL _ _ _ _ _ _ _; first | refine jO tok 0 ?_ | refine s_slice tok (a := 0) (b := c.length) rfl rfl rfl rfl rfl rfl rfl rfl (by first | exact rfl | exact ⟨_, rfl⟩) (by first | exact rfl | exact ⟨_, rfl⟩) (by omega) (by omega) ?_ | refine jP swo ?_) | fail)
        repeat (first | refine gA pk ?_)
        refine fin (x := .tup []) (.inr rfl) rfl (Sub.refl _) ⟨rfl, rfl⟩ (OSub.refl _)
      · rw [decide_eq_false hw, if_neg (by decide)]
        refine a_enter Try.func72 (by kernel_rfl) rfl Try.ntmps72 rfl (by simp) ?_
        repeat (first | refine gN pk ?_)
        refine a_regG ((List.range 22).map fun i => if inL [19] i = true then .eff else if inL [3, 9, 11, 15, 16, 18] i = true then .read else .pure) [] [0, 1, 2, 3, 4, 5, 6, 7, 8, 9, 10, 11, 12, 13, 14, 15, 16, 17, 18, 19, 20, 21] .stop mixed rfl rfl (by decide +kernel) ?_
        repeat' (first | (with_reducible show AG _ _ _ _ _ _ _ _ _ _; first | exact ag_none | refine ag_stop ?_ | refine ag_nd ?_ ?_) | (show AMid _ _ _ _; first | refine amid_f ?_ | refine amid_g (by first | exact OSub.refl _ | exact .drop (OSub.refl _) | exact .drop (.drop (OSub.refl _))) ?_) | refine gY pk ?_ | (show AL _ _ _ _ _ _ _; first | refine jO tok 0 ?_) | fail)
        rw [hmn]
        repeat' (first | (with_reducible show AG _ _ _ _ _ _ _ _ _ _; first | exact ag_none | refine ag_stop ?_ | refine ag_nd ?_ ?_) | (show AMid _ _ _ _; first | refine amid_f ?_ | refine amid_g (by first | exact OSub.refl _ | exact .drop (OSub.refl _) | exact .drop (.drop (OSub.refl _))) ?_) | refine gY pk ?_ | (show AL _ _ _ _ _ _ _; first | refine jO tok 0 ?_ | refine s_slice tok (a := 0) (b := c.length) rfl rfl rfl rfl rfl rfl rfl rfl (by first | exact rfl | exact ⟨_, rfl⟩) (by first | exact rfl | exact ⟨_, rfl⟩) (by omega) (by omega) ?_ | refine jP swo ?_) | fail)
        repeat (first | refine gN pk ?_ | (show AL _ _ _ _ _ _ _; first | refine jO tok 0 ?_))
        refine a_loopX (fun v : Nat => [(0, .pt U 0 0 0), (1, ints p), (2, ints c), (6, AI v)]) (fun v => [(U, .box (fC g (F v)))]) (fun v => v ≤ g.nodes.length) (fun v => g.nodes.length - v) 0 (Nat.zero_le _) ?_ (by rw [hF0]; exact OSub.refl _) ?_
        · exact subQ
        · intro v hv
          rcases Nat.lt_or_ge v g.nodes.length with h | h
          · have so := sop (F v) v h
            have h1 := hfs v
            have hg1 := hgd v (by omega)
            have hlo := ACalls.lendA (L := [(U, .box (fC g (F v)))]) (args' := [.pt U 0 0 0, ints p, AI v]) so ⟨FV.box (by simp), FV.refl _, FV.refl _, trivial⟩ (hfr (y := .any))
            cases hop : opn (nN g) (tT g) g.nodes.length p v with
            | false =>
              rw [hop] at hlo
              rw [hop, if_neg (by decide)] at h1
              repeat (first | refine gA pk ?_ | (show AL _ _ _ _ _ _ _; first | refine jO tok 0 ?_ | refine s_callO 0 rfl rfl rfl rfl rfl rfl hlo (SubL.of_eq rfl) ?_; rintro _ _ ⟨⟨rfl, -⟩, rfl⟩))
              refine ⟨v + 1, by omega, by omega, by exact subQ, ?_⟩
              rw [h1]
              exact OSub.refl _
            | true =>
              have hvp := (opn_iff.1 hop).1
              rw [hop] at hlo
              rw [hop, if_pos rfl] at h1
              have hpv := hp.snoc (v := (v : Int)) (by omega) hvp
              have spv := spl v hpv
              have hlc := hcl2 v hpv
              have ihc := ihg v hpv (F v) hg1
              rw [hsn v, List.length_append] at hlc
              have epv : ([] ++ rowI p) ++ [[AI v]] = rowI (p ++ [(v : Int)]) := by rw [List.nil_append]; exact (rowI_snoc p v).symm
              generalize pc (nN g) (tT g) p v = A at *
              repeat (first | refine gN pk ?_ | (show AL _ _ _ _ _ _ _; first | refine jO tok 0 ?_ | refine s_callO 0 rfl rfl rfl rfl rfl rfl hlo (SubL.of_eq rfl) ?_; rintro _ _ ⟨⟨rfl, -⟩, rfl⟩ | refine s_build tok (parts := []) rfl rfl rfl rfl rfl rfl rfl rfl (by decide) (by decide) (fun v1 => ?_) | refine s_build1 tok rfl rfl rfl rfl rfl rfl rfl rfl (fun v2 => ?_) | refine s_append1 tok 0 rfl rfl rfl rfl rfl rfl (by decide) rfl rfl rfl rfl (by simp only [List.length_append, List.length_map, List.length_cons, List.length_nil]; omega) (by simp only [List.length_append, List.length_map, List.length_cons, List.length_nil]; omega) (fun v3 => ?_) | refine s_appendIm tok 0 rfl rfl rfl rfl rfl rfl (by decide) rfl rfl rfl rfl (rowI_cell _) (by simp only [List.length_append, List.length_map, List.length_cons, List.length_nil]; omega) (by simp only [List.length_append, List.length_map, List.length_cons, List.length_nil]; omega) (fun v4 => ?_)))
              refine a_frz 0 7 rfl rfl ?_
              rw [epv]
              refine a_regG ((List.range 13).map fun i => if inL [2, 4, 8, 10, 11, 12] i = true then .eff else .pure) [] [0, 1, 3, 5, 6, 7, 9] (.nd 2 [] (.nd 4 [8, 10, 11, 12] .stop (.nd 8 [4, 10, 11, 12] .stop .stop)) (.nd 8 [2, 4, 10, 11, 12] .stop .stop)) mixed rfl rfl (by decide +kernel) ?_
              repeat' (first | (with_reducible show AG _ _ _ _ _ _ _ _ _ _; first | exact ag_none | refine ag_stop ?_ | refine ag_nd ?_ ?_) | (show AMid _ _ _ _; first | refine amid_f ?_ | refine amid_g (by first | exact OSub.refl _ | exact .drop (OSub.refl _) | exact .drop (.drop (OSub.refl _))) ?_) | refine gY pk ?_ | (show AL _ _ _ _ _ _ _; first | refine jO tok 0 ?_ | refine jO tok 1 ?_ | refine s_build tok (parts := []) rfl rfl rfl rfl rfl rfl rfl rfl (by decide) (by decide) (fun v1 => ?_) | refine s_appendIm tok 0 rfl rfl rfl rfl rfl rfl (by decide) rfl rfl rfl rfl (rowI_cell _) (by simp only [List.length_append, List.length_map, List.length_cons, List.length_nil]; omega) (by simp only [List.length_append, List.length_map, List.length_cons, List.length_nil]; omega) (fun c2v => ?_) | refine jP spv ?_) | fail)
              all_goals
                refine s_call (Lc := [(c2v, .row 3 1 (([] ++ rowI c) ++ rowI A)), (U, .box (fC g (F v)))]) (Lr := []) rfl rfl rfl rfl rfl (ihc c2v) (SubL.of_eq rfl) (List.Perm.refl _) ?_
                rintro _ _ ⟨rfl, rfl⟩
                repeat (first | refine gA pk ?_)
                refine ⟨v + 1, by omega, by omega, by exact subQ, ?_⟩
                rw [h1]
                exact OSub.refl _
          · obtain rfl : v = g.nodes.length := by omega
            repeat (first | refine gA pk ?_ | (show AL _ _ _ _ _ _ _; first | refine jO tok 0 ?_))
            refine fin (x := .tup []) (.inl rfl) rfl (Sub.refl _) ⟨rfl, rfl⟩ (OSub.refl _)
theorem rfind_spec (g : Gr) (hg : GV g) (hn : g.nodes.length ≤ 8) : Pure Try.prog 48 [grA g] (.tup [ints (ordG g), ints (codG g)]) := by
  have ln : (rowI g.nodes).length = g.nodes.length := by simp
  have hfs := rtry_spec g hg hn g.nodes.length [] none (by simp) (Po.nil _) Good.none
  have hfg : srch (nN g) (tT g) g.nodes.length g.nodes.length [] none = some (ordG g, codG g) := (findG_eq g).1
  rw [hfg] at hfs
  refine a_enter Try.func48 (by kernel_rfl) rfl Try.ntmps48 rfl (by simp) ?_; refine a_seq ?_; refine a_reg ?_; (repeat (first | refine gZ pk ?_ | (show AL _ _ _ _ _ _ _; first | refine jB (fun u => ?_)))); refine a_frzBox 0 1 rfl rfl ?_
  repeat (first | refine gN pk ?_ | (show AL _ _ _ _ _ _ _; first | refine jB (fun u => ?_)))
  rw [ln]
  have hgv : ∀ lv : Value, ACalls Try.prog 72 [.pt u 0 0 0, ints [], .lit lv] [(lv, .row 3 1 [[AI g.nodes.length]]), (u, .box (fC g none))] (fun y M => y = .tup [] ∧ M = [(u, .box (fC g (some (ordG g, codG g))))]) := fun lv =>
    ACalls.give (E := 3) (hfs u) ⟨rfl, FZL.refl _, trivial⟩ ⟨FZ.refl _, FZ.refl _, FZ.here, trivial⟩
  repeat (first | refine gN pk ?_ | (show AL _ _ _ _ _ _ _; first | refine s_build1 tok rfl rfl rfl rfl rfl rfl rfl rfl (fun lv => ?_) | refine s_call (Lc := [(lv, .row 3 1 [[AI g.nodes.length]]), (u, .box (fC g none))]) (Lr := []) rfl rfl rfl rfl rfl (hgv lv) ⟨Sub.refl _, Sub.nil _, Sub.refl _, trivial⟩ (List.Perm.refl _) ?_; rintro _ _ ⟨rfl, rfl⟩))
  refine a_regG ((List.range 10).map fun i => if inL [3, 7] i = true then .read else .pure) [] [0, 1, 2, 3, 4, 5, 6, 7, 8, 9] .stop mixed rfl rfl (by decide +kernel) ?_
  repeat' (first | (with_reducible show AG _ _ _ _ _ _ _ _ _ _; first | exact ag_none | refine ag_stop ?_ | refine ag_nd ?_ ?_) | (show AMid _ _ _ _; first | refine amid_f ?_ | refine amid_g (by first | exact OSub.refl _ | exact .drop (OSub.refl _) | exact .drop (.drop (OSub.refl _))) ?_) | refine gY pk ?_ | (show AL _ _ _ _ _ _ _; first | refine jO tok 0 ?_) | fail)
  repeat (first | refine gA pk ?_)
  refine fin (x := .tup [.im _ _, .im _ _]) (.inr rfl) rfl (Sub.refl _) ⟨rfl, rfl⟩ (OSub.none _)
theorem rCode_spec (g : Gr) (hg : OkG g) : Pure Try.prog 20 [grA g] (.tup [ints (codeR g).1, AI (codeR g).2]) := by
  have s1 := rvalid_spec g hg
  unfold codeR
  by_cases h : cvalid g = 0
  · have hV := cvalid_zero.1 h
    have s3 := rfind_spec g hV.1 hV.2
    rw [if_neg (Decidable.not_not.2 h)]
    rw [h] at s1
    generalize codG g = c at *
    generalize ordG g = o at *
    refine a_enter Try.func20 (by kernel_rfl) rfl Try.ntmps20 rfl (by simp) ?_; refine a_seq ?_; refine a_reg ?_; (repeat (first | refine gZ pk ?_ | (show AL _ _ _ _ _ _ _; first | refine jB (fun u => ?_)))); refine a_frzBox 0 1 rfl rfl ?_
    repeat (first | refine gA pk ?_ | (show AL _ _ _ _ _ _ _; first | refine jP s1 ?_ | refine jP s3 ?_))
    refine finQ ?_
    exact ⟨rfl, rfl⟩
  · rw [if_pos h]
    generalize cvalid g = e at *
    refine a_enter Try.func20 (by kernel_rfl) rfl Try.ntmps20 rfl (by simp) ?_; refine a_seq ?_; refine a_reg ?_; (repeat (first | refine gZ pk ?_ | (show AL _ _ _ _ _ _ _; first | refine jB (fun u => ?_)))); refine a_frzBox 0 1 rfl rfl ?_
    repeat (first | refine gA pk ?_ | (show AL _ _ _ _ _ _ _; first | refine jP s1 ?_))
    exact fin (x := .tup [.lit _, .lit _]) (.inr rfl) rfl (Sub.tup (l := [.lit (.slice none 0 0), AI e]) (m := [ints [], AI e]) ⟨Sub.nil 1, Sub.refl _, trivial⟩) ⟨rfl, rfl⟩ (OSub.none _)
end Go.Proofs.Ytoaenbfidlgjhaa
