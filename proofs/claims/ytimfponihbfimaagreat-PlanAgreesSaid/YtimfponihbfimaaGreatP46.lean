/- Parts of a proof. -/
import Derived.Test.YtimfponihbfimaaGreatP45
set_option linter.unusedVariables false
set_option linter.unusedSimpArgs false
section
namespace Go.Proofs.YtimfponihbfimaaGreat
open Go.Sj Go.Sj.Typ Go.Sj.Sta Go.Sj.Inc Go.Sj.Pln
set_option maxRecDepth 8000
set_option maxHeartbeats 16000000
theorem cOp_cell (l : List Opn) : (l.map cOp).all (fun e => e.all AV.cell) = true := List.all_eq_true.2 fun x hx => by
  obtain ⟨a, _, rfl⟩ := List.mem_map.1 hx; rfl
def opsK (p : Gr) : Nat → List Opn
  | 0 => []
  | 1 => opsN p
  | 2 => opsN p ++ opsE p 2
  | _ => opsL p
def opsM (k : Int) (n : Nat) : List Opn := (List.range n).map fun i : Nat => (⟨k, (i : Int)⟩ : Opn)
theorem opsM_succ (k : Int) (n : Nat) : opsM k (n + 1) = opsM k n ++ [⟨k, (n : Int)⟩] := by unfold opsM; rw [List.range_succ, List.map_append]; rfl
theorem opsM_len (k : Int) (n : Nat) : (opsM k n).length = n := by simp [opsM]
theorem operations_spec (p : Gr) (h1 : p.nodes.length ≤ 1000) (h2 : p.edges.length ≤ 1000) : Pure Tryz.prog 110 [grA p] (opsA (opsL p)) := by
  have ln : (rowI p.nodes).length = p.nodes.length := by simp
  have le : (p.edges.map cEd).length = p.edges.length := by simp
  obtain ⟨pn, pe⟩ := p
  simp only at *
  have key : ∀ (k : Int) (n : Nat) (O : List Opn) (i : Nat), O ++ opsM k (i + 1) = (O ++ opsM k i) ++ [⟨k, (i : Int)⟩] := fun k n O i => by rw [opsM_succ, List.append_assoc]
  refine zen Tryz.func110 (by kernel_rfl) rfl Tryz.ntmps110 rfl (by simp) ?_
  refine a_seq ?_
  refine a_reg ?_
  repeat (first | refine gZ pk ?_ | (show AL _ _ _ _ _ _ _; first | refine jB (fun u => ?_)))
  refine zfb 0 1 rfl rfl ?_
  repeat (first | refine gA pk ?_)
  refine a_loopG3 (fun (d : Nat) (o : List Opn) (v : Value) => [(1, .ip [ints pn, edsA pe]), (3, .lit v), (4, AI ((d : Int) + 1))]) (fun d o v => [(v, .row 41 2 (o.map cOp))]) (fun d o _ => d ≤ 3 ∧ o = opsK ⟨pn, pe⟩ d) (fun d _ _ => 3 - d) 0 [] (.slice none 0 0) ⟨by omega, rfl⟩ (.sub (by exact subQ) (.free (OSub.none _))) ?_
  rintro d o v ⟨hd, ho⟩
  have hcase : d = 0 ∨ d = 1 ∨ d = 2 ∨ d = 3 := by omega
  rcases hcase with rfl | rfl | rfl | rfl
  rotate_right
  · have ho : o = opsL ⟨pn, pe⟩ := ho
    subst ho
    refine a_frz 0 3 rfl rfl ?_
    repeat (first | refine gA pk ?_)
    refine finQ ?_
    exact ⟨rfl, rfl⟩
  · have ho : o = [] := ho
    subst ho
    repeat (first | refine gA pk ?_)
    rw [ln]
    refine a_loopG3 (fun (i : Nat) (o : List Opn) (v : Value) => [(1, .ip [ints pn, edsA pe]), (3, .lit v), (4, AI 1), (19, AI pn.length), (20, AI i)]) (fun i o v => [(v, .row 41 2 (o.map cOp))]) (fun i o _ => i ≤ pn.length ∧ o = opsM 1 i) (fun i _ _ => pn.length - i) 0 [] v ⟨by omega, rfl⟩ (.sub (by exact subQ) (OSub.refl _)) ?_
    rintro i o v ⟨hi, ho⟩
    have lo : (o.map cOp).length = i := by rw [List.length_map, ho, opsM_len]
    rcases Nat.lt_or_ge i pn.length with h | h
    · have hs : (opsM 1 (i + 1)).map cOp = o.map cOp ++ [[AI 1, AI i]] := by rw [opsM_succ, ho, List.map_append]; rfl
      repeat (first | refine gA pk ?_)
      (first | refine s_build1 tok rfl rfl rfl rfl rfl rfl rfl rfl (fun u => ?_) | refine s_build1M tok rfl rfl rfl rfl rfl rfl rfl (fun u => ?_) | refine zba tok rfl rfl rfl rfl rfl rfl rfl rfl (by decide) (fun u => ?_)); refine s_append1 tok 0 rfl rfl rfl rfl rfl rfl (by decide) rfl rfl rfl rfl (by omega) (by omega) (fun w => ?_)
      repeat (first | refine gA pk ?_)
      exact ⟨i + 1, opsM 1 (i + 1), w, ⟨by omega, rfl⟩, by omega, .sub (by exact subQ) (by rw [hs]; exact OSub.refl _)⟩
    · obtain rfl : i = pn.length := by omega
      subst ho
      repeat (first | refine gA pk ?_)
      exact ⟨1, opsM 1 pn.length, v, ⟨by omega, rfl⟩, by omega, .sub (by exact subQ) (OSub.refl _)⟩
  · have ho : o = opsN ⟨pn, pe⟩ := ho
    subst ho
    have lN : (opsN ⟨pn, pe⟩).length = pn.length := by simp [opsN]
    repeat (first | refine gA pk ?_)
    rw [le]
    refine a_loopG3 (fun (i : Nat) (o : List Opn) (v : Value) => [(1, .ip [ints pn, edsA pe]), (3, .lit v), (4, AI 2), (19, AI pe.length), (20, AI i)]) (fun i o v => [(v, .row 41 2 (o.map cOp))]) (fun i o _ => i ≤ pe.length ∧ o = opsN ⟨pn, pe⟩ ++ opsM 2 i) (fun i _ _ => pe.length - i) 0 (opsN ⟨pn, pe⟩) v ⟨by omega, by simp [opsM]⟩ (.sub (by exact subQ) (OSub.refl _)) ?_
    rintro i o v ⟨hi, ho⟩
    have lo : (o.map cOp).length = pn.length + i := by rw [List.length_map, ho, List.length_append, opsM_len, lN]
    rcases Nat.lt_or_ge i pe.length with h | h
    · have hs : (opsN ⟨pn, pe⟩ ++ opsM 2 (i + 1)).map cOp = o.map cOp ++ [[AI 2, AI i]] := by rw [opsM_succ, ho, ← List.append_assoc, List.map_append]; rfl
      repeat (first | refine gA pk ?_)
      (first | refine s_build1 tok rfl rfl rfl rfl rfl rfl rfl rfl (fun u => ?_) | refine s_build1M tok rfl rfl rfl rfl rfl rfl rfl (fun u => ?_) | refine zba tok rfl rfl rfl rfl rfl rfl rfl rfl (by decide) (fun u => ?_)); refine s_append1 tok 0 rfl rfl rfl rfl rfl rfl (by decide) rfl rfl rfl rfl (by omega) (by omega) (fun w => ?_)
      repeat (first | refine gA pk ?_)
      exact ⟨i + 1, opsN ⟨pn, pe⟩ ++ opsM 2 (i + 1), w, ⟨by omega, rfl⟩, by omega, .sub (by exact subQ) (by rw [hs]; exact OSub.refl _)⟩
    · obtain rfl : i = pe.length := by omega
      subst ho
      repeat (first | refine gA pk ?_)
      exact ⟨2, opsN ⟨pn, pe⟩ ++ opsM 2 pe.length, v, ⟨by omega, rfl⟩, by omega, .sub (by exact subQ) (OSub.refl _)⟩
  · have ho : o = opsN ⟨pn, pe⟩ ++ opsE ⟨pn, pe⟩ 2 := ho
    subst ho
    have lN : (opsN ⟨pn, pe⟩ ++ opsE ⟨pn, pe⟩ 2).length = pn.length + pe.length := by simp [opsN, opsE]
    repeat (first | refine gA pk ?_)
    rw [le]
    refine a_loopG3 (fun (i : Nat) (o : List Opn) (v : Value) => [(1, .ip [ints pn, edsA pe]), (3, .lit v), (4, AI 3), (19, AI pe.length), (20, AI i)]) (fun i o v => [(v, .row 41 2 (o.map cOp))]) (fun i o _ => i ≤ pe.length ∧ o = (opsN ⟨pn, pe⟩ ++ opsE ⟨pn, pe⟩ 2) ++ opsM 3 i) (fun i _ _ => pe.length - i) 0 (opsN ⟨pn, pe⟩ ++ opsE ⟨pn, pe⟩ 2) v ⟨by omega, by simp [opsM]⟩ (.sub (by exact subQ) (OSub.refl _)) ?_
    rintro i o v ⟨hi, ho⟩
    have lo : (o.map cOp).length = pn.length + pe.length + i := by rw [List.length_map, ho, List.length_append, opsM_len, lN]
    rcases Nat.lt_or_ge i pe.length with h | h
    · have hs : ((opsN ⟨pn, pe⟩ ++ opsE ⟨pn, pe⟩ 2) ++ opsM 3 (i + 1)).map cOp = o.map cOp ++ [[AI 3, AI i]] := by rw [opsM_succ, ho, ← List.append_assoc, List.map_append (l₁ := _ ++ _)]; rfl
      repeat (first | refine gA pk ?_)
      (first | refine s_build1 tok rfl rfl rfl rfl rfl rfl rfl rfl (fun u => ?_) | refine s_build1M tok rfl rfl rfl rfl rfl rfl rfl (fun u => ?_) | refine zba tok rfl rfl rfl rfl rfl rfl rfl rfl (by decide) (fun u => ?_)); refine s_append1 tok 0 rfl rfl rfl rfl rfl rfl (by decide) rfl rfl rfl rfl (by omega) (by omega) (fun w => ?_)
      repeat (first | refine gA pk ?_)
      exact ⟨i + 1, (opsN ⟨pn, pe⟩ ++ opsE ⟨pn, pe⟩ 2) ++ opsM 3 (i + 1), w, ⟨by omega, rfl⟩, by omega, .sub (by exact subQ) (by rw [hs]; exact OSub.refl _)⟩
    · obtain rfl : i = pe.length := by omega
      subst ho
      repeat (first | refine gA pk ?_)
      exact ⟨3, (opsN ⟨pn, pe⟩ ++ opsE ⟨pn, pe⟩ 2) ++ opsM 3 pe.length, v, ⟨by omega, rfl⟩, by omega, .sub (by exact subQ) (OSub.refl _)⟩
theorem CloneBl_spec (l : List Bool) (hs : l.length ≤ 1099511627776) : Gives Tryz.prog 159 [boolsA l] 4 1 (l.map cB) := by
  have ll : (l.map cB).length = l.length := by simp
  refine zen Tryz.func159 (by kernel_rfl) rfl Tryz.ntmps159 rfl (by simp) ?_
  repeat (first | refine gA pk ?_)
  refine s_eqNil tok rfl rfl rfl rfl rfl rfl (fun h => ?_) ?_
  · repeat (first | refine gA pk ?_)
    refine fin (x := .lit _) (.inr rfl) rfl (Sub.refl _) ⟨_, rfl, rfl⟩ ?_
    rw [h]
    exact .free .nil
  · repeat (first | refine gA pk ?_ | (show AL _ _ _ _ _ _ _; first | refine s_build tok (parts := []) rfl rfl rfl rfl rfl rfl rfl rfl (by decide) (by decide) (fun v => ?_)))
    refine s_appendIm tok 0 rfl rfl rfl rfl rfl rfl (by decide) rfl rfl rfl rfl (cB_cell l) (by simp only [ll, List.length_nil]; omega) (by simp only [ll, List.length_nil]; omega) (fun v' => ?_)
    repeat (first | refine gA pk ?_)
    refine finR ?_
    exact ⟨_, rfl, rfl⟩
theorem CloneOp_spec (l : List Opn) (hs : l.length ≤ 1099511627776) : Gives Tryz.prog 14 [opsA l] 41 2 (l.map cOp) := by
  have ll : (l.map cOp).length = l.length := by simp
  refine zen Tryz.func14 (by kernel_rfl) rfl Tryz.ntmps14 rfl (by simp) ?_
  repeat (first | refine gA pk ?_)
  refine s_eqNil tok rfl rfl rfl rfl rfl rfl (fun h => ?_) ?_
  · repeat (first | refine gA pk ?_)
    refine fin (x := .lit _) (.inr rfl) rfl (Sub.refl _) ⟨_, rfl, rfl⟩ ?_
    rw [h]
    exact .free .nil
  · repeat (first | refine gA pk ?_ | (show AL _ _ _ _ _ _ _; first | refine s_build tok (parts := []) rfl rfl rfl rfl rfl rfl rfl rfl (by decide) (by decide) (fun v => ?_)))
    refine s_appendIm tok 0 rfl rfl rfl rfl rfl rfl (by decide) rfl rfl rfl rfl (cOp_cell l) (by simp only [ll, List.length_nil]; omega) (by simp only [ll, List.length_nil]; omega) (fun v' => ?_)
    repeat (first | refine gA pk ?_)
    refine finR ?_
    exact ⟨_, rfl, rfl⟩
theorem cloneOpO_spec (v : Value) (l : List Opn) (hl : l.length ≤ 1000) : ACalls Tryz.prog 14 [.lit v] [(v, .row 41 2 (l.map cOp))] (fun y M => ∃ w, y = .lit w ∧ M = [(w, .row 41 2 (l.map cOp)), (v, .row 41 2 (l.map cOp))]) :=
  (ACalls.lendZ (E := 41) (CloneOp_spec l (by omega)) (v := v) (sz := 2) (es := l.map cOp) (args' := [.lit v]) ⟨FZ.here, trivial⟩ (fun y M ⟨w, h1, h2⟩ => by
    subst h1; subst h2
    refine ⟨.lit _, fun p hp => ?_⟩
    rw [List.mem_singleton] at hp
    subst hp
    intro e he x hx
    obtain ⟨z, _, rfl⟩ := List.mem_map.1 he
    have hx : x ∈ [AI z.kind, AI z.el] := hx
    simp only [List.mem_cons, List.not_mem_nil, or_false] at hx
    rcases hx with rfl | rfl <;> exact .lit _)).mono fun y M ⟨M', ⟨w, h1, h2⟩, h3⟩ => ⟨w, h1, by rw [h3, h2]; rfl⟩
theorem kcopied_spec (s : Kn) (h1 : s.ns.length ≤ 1000) (h2 : s.es.length ≤ 1000) : ACalls Tryz.prog 111 [knA s] [] (fun y L => ∃ v1 v2, v1.oneCell' = true ∧ v2.oneCell' = true ∧ y = .agg [.lit v1, .lit v2] ∧ L = knO v1 v2 s) := by
  have s1 := CloneBl_spec s.ns (by omega)
  have s2 := CloneBl_spec s.es (by omega)
  refine a_enterC Tryz.func111 (by kernel_rfl) rfl Tryz.ntmps111 rfl (tok _ _ rfl) (by simp) ?_
  refine a_seq ?_
  refine a_reg ?_
  repeat (first | refine gZ pk ?_ | (show AL _ _ _ _ _ _ _; first | refine jB (fun ug => ?_) | refine jL tok (fun U2 => ?_)))
  refine zfb 1 1 rfl rfl ?_
  refine AWp.mono (Q := fun e st L => e = .normal ∧ ∃ va vb, va.oneCell' = true ∧ vb.oneCell' = true ∧ GoTo 10 st L (lk [(2, .pt U2 0 0 0)]) [(U2, OB.box [.lit va, .lit vb]), (va, OB.row 4 1 (s.ns.map cB)), (vb, OB.row 4 1 (s.es.map cB))]) ?_ (fun e st L h => ?_)
  · refine zrg ((List.range 8).map fun i => if inL [2, 5, 7] i = true then .eff else if inL [1, 4] i = true then .read else .pure) [2] [0, 1, 3, 4] (.nd 2 [5, 6, 7] .stop .stop) mixed rfl rfl (by decide +kernel) ?_
    repeat' (first | (with_reducible show AG _ _ _ _ _ _ _ _ _ _; first | exact zgn | refine zgs ?_ | refine znd ?_ ?_) | (show AMid _ _ _ _; first | refine zmf ?_ | refine zmg (by first | exact OSub.refl _ | exact .drop (OSub.refl _) | exact .drop (.drop (OSub.refl _))) ?_) | refine gY pk ?_ | (show AL _ _ _ _ _ _ _; first | refine zsc (Lc := []) rfl rfl rfl rfl rfl (ACalls.slices s1) (SubL.of_eq rfl) (List.Perm.refl _) ?_; rintro _ _ ⟨⟨va, rfl, rfl⟩, hva⟩; obtain ⟨a1, c1, rfl⟩ := hva _ (List.mem_singleton.2 rfl) | refine zsc (Lc := []) rfl rfl rfl rfl rfl (ACalls.slices s2) (SubL.of_eq rfl) (List.Perm.refl _) ?_; rintro _ _ ⟨⟨vb, rfl, rfl⟩, hvb⟩; obtain ⟨a2, c2, rfl⟩ := hvb _ (List.mem_singleton.2 rfl) | refine jS tok 2 ?_) | fail)
    exact ⟨rfl, _, _, rfl, rfl, (GoTo.sub (by exact subQ) (OSub.refl _)).trans (GoTo.perm (perm3 _ _ _).2.2.1)⟩
  · obtain ⟨rfl, va, vb, hva, hvb, h⟩ := h
    refine zgt h ?_
    refine zfb 0 2 rfl rfl ?_
    repeat (first | refine gA pk ?_)
    exact ⟨.inr rfl, _, _, _, _, rfl, rfl, Turn.of (Sub.of_eq rfl) (OSub.refl _), va, vb, hva, hvb, rfl, rfl⟩
abbrev chC (t : Tys) (s : Sta) (p : Gr) (vp : AV) (b : Bst) : List AV := [nodsA t.nodes, edgsA t.edges, cntsA s.nodes, cntsA s.edges, ints p.nodes, edsA p.edges, vp, opsA b.l, AI b.c, AB b.ok]
abbrev chO (t : Tys) (s : Sta) (p : Gr) (u vp : Value) (l : List Opn) (b : Bst) : Own := [(u, .box (chC t s p (.lit vp) b)), (vp, .row 41 2 (l.map cOp))]
theorem search_rec (t : Tys) (ht : Small t) (s : Sta) (hs : s.nodes.length ≤ 1000 ∧ s.edges.length ≤ 1000) (p : Gr) (h : Prc t s p) : ∀ (m : Nat) (l : List Opn) (k : Kn) (n c : Int) (b : Bst) (uc vp : Value), KnOk p k → unk k < m → l.length + unk k ≤ 200 → (0 ≤ n ∧ n ≤ 1000000000) → (0 ≤ c ∧ c ≤ 1000000000) →
    ACalls Tryz.prog 68 [.pt uc 0 0 0, knA k, AI n, AI c] (chO t s p uc vp l b) (fun y M => ∃ vp', y = .tup [] ∧ M = chO t s p uc vp' l (betP t s p m l k n c b)) := by
  have hnl := h.gr.nl
  have hel := h.gr.el
  have so := operations_spec p (by omega) (by omega)
  have sst := fun k hk o v1 v2 => step_spec p h.gr k hk o v1 v2
  have ses := fun k hk o ho n hn => estimate_spec t ht s hs p h k hk o ho n hn
  have hen := fun (k : Kn) (n : Int) (o : Opn) hn => est_nn h.st (p := p) (k := k) (n := n) (o := o) hn
  have hcu := fun (c z : Int) h1 h2 => capC_up (c := c) (z := z) h1 h2
  have hun := fun (k : Kn) (o : Opn) hk ho => unk_aft (p := p) (s := k) (o := o) hk ho
  have lO : (opsL p).length = p.nodes.length + p.edges.length + p.edges.length := by simp [opsL, opsN, opsE]; omega
  have lO2 : ((opsL p).map cOp).length = (opsL p).length := by simp
  intro m
  induction m with
  | zero => intro l k n c b uc vp hk hm; exact absurd hm (Nat.not_lt_zero _)
  | succ m ih =>
    intro l k n c b uc vp hk hm hl hn hc
    have ll : (l.map cOp).length = l.length := by simp
    have sa := all_spec k (by rw [hk.nl]; omega) (by rw [hk.el]; omega)
    have sk := kcopied_spec k (by rw [hk.nl]; omega) (by rw [hk.el]; omega)
    by_cases hkn : knownB k = true
    · have hb : betP t s p (m + 1) l k n c b = leafB l c b := by rw [betP, if_pos hkn]
      rw [hb]
      rw [hkn] at sa
      have sc := cloneOpO_spec vp l (by omega)
      obtain ⟨bl, bc, bo⟩ := b
      obtain ⟨kn, ke⟩ := k
      have hcs : bo = false ∨ (bo = true ∧ c < bc) ∨ (bo = true ∧ ¬ c < bc) := by cases bo <;> simp <;> omega
      rcases hcs with rfl | ⟨rfl, h2⟩ | ⟨rfl, h2⟩
      rotate_right
      · have hlf : leafB l c ⟨bl, bc, true⟩ = ⟨bl, bc, true⟩ := by unfold leafB; rw [if_neg (by simp; omega)]
        rw [hlf]
        refine zen Tryz.func68 (by kernel_rfl) rfl Tryz.ntmps68 rfl (by simp) ?_; refine a_seq ?_; refine a_reg ?_; (repeat (first | refine gZ pk ?_ | (show AL _ _ _ _ _ _ _; first | refine jB (fun u => ?_)))); refine zfb 0 5 rfl rfl ?_
        repeat (first | refine gA pk ?_ | (show AL _ _ _ _ _ _ _; first | refine jP sa ?_ | refine jO tok 0 ?_))
        exact fin (x := .tup []) (.inr rfl) rfl (Sub.refl _) ⟨_, rfl, rfl⟩ (OSub.refl _)
      all_goals
        first
          | rw [show leafB l c ⟨bl, bc, false⟩ = ⟨l, c, true⟩ by unfold leafB; rw [if_pos (.inl rfl)]]
          | rw [show leafB l c ⟨bl, bc, true⟩ = ⟨l, c, true⟩ by unfold leafB; rw [if_pos (.inr h2)]]
        refine zen Tryz.func68 (by kernel_rfl) rfl Tryz.ntmps68 rfl (by simp) ?_; refine a_seq ?_; refine a_reg ?_; (repeat (first | refine gZ pk ?_ | (show AL _ _ _ _ _ _ _; first | refine jB (fun u => ?_)))); refine zfb 0 5 rfl rfl ?_
        repeat (first | refine gA pk ?_ | (show AL _ _ _ _ _ _ _; first | refine jP sa ?_ | refine jO tok 0 ?_ | refine s_frzNowP (M := [(uc, .box _), (vp, .row 41 2 (l.map cOp))]) 0 rfl rfl rfl (zsc (Lc := [(vp, .row 41 2 (l.map cOp))]) (Lr := [(uc, .box _)]) rfl rfl rfl rfl rfl sc (SubL.of_eq rfl) (List.Perm.swap _ _ _) (by rintro _ _ ⟨w, rfl, rfl⟩; exact AL.nil ⟨w, rfl, rfl, List.Perm.swap _ _ _⟩)) ?_ | refine jS tok 0 ?_))
        exact fin (x := .tup []) (.inr rfl) rfl (Sub.refl _) ⟨_, rfl, rfl⟩ (OSub.refl _)
    · obtain ⟨G, hG⟩ : ∃ G : Bst → Opn → Bst, (fun b o => if prune (capC (c + estK t s p k n o)) b = true then b else betP t s p m (l ++ [o]) (aftK p k o) (estK t s p k n o) (capC (c + estK t s p k n o)) b) = G := ⟨_, rfl⟩
      have hGo := fun b o => (congrFun (congrFun hG b) o).symm
      have hb : betP t s p (m + 1) l k n c b = ((opsL p).filter fun o => decide (opE p k o = 0)).foldl G b := by rw [betP, if_neg hkn, ← hG]; rfl
      rw [hb]
      rw [Bool.not_eq_true] at hkn
      rw [hkn] at sa
      clear hb hG
      refine zen Tryz.func68 (by kernel_rfl) rfl Tryz.ntmps68 rfl (by simp) ?_; refine a_seq ?_; refine a_reg ?_; (repeat (first | refine gZ pk ?_ | (show AL _ _ _ _ _ _ _; first | refine jB (fun u => ?_)))); refine zfb 0 5 rfl rfl ?_
      repeat (first | refine gA pk ?_ | (show AL _ _ _ _ _ _ _; first | refine jP sa ?_ | refine jO tok 0 ?_ | refine jP so ?_))
      rw [lO2]
      refine a_loopG3 (fun (j : Nat) (b : Bst) (vp : Value) => [(0, .pt uc 0 0 0), (2, AI n), (3, AI c), (5, .ip [boolsA k.ns, boolsA k.es]), (47, opsA (opsL p)), (48, AI (opsL p).length), (49, AI j)]) (fun j b vp => chO t s p uc vp l b) (fun j b' _ => j ≤ (opsL p).length ∧ ((opsL p).filter fun o => decide (opE p k o = 0)).foldl G b = (((opsL p).drop j).filter fun o => decide (opE p k o = 0)).foldl G b') (fun j _ _ => (opsL p).length - j) 0 b vp ⟨Nat.zero_le _, rfl⟩ (.sub (by exact subQ) (OSub.refl _)) ?_
      rintro j b' vp ⟨hj, he⟩
      rw [he]
      rcases Nat.lt_or_ge j (opsL p).length with h1 | h1
      · have h2 := List.getElem?_eq_getElem h1
        rw [List.drop_eq_getElem_cons h1] at he ⊢
        generalize (opsL p)[j] = o at *
        have xk : ((opsL p).map cOp)[(j : Int).toNat]? = some [AI o.kind, AI o.el] := zmp (f := cOp) h2
        rw [List.filter_cons] at he ⊢
        have s3 := fun v1 v2 => sst k hk o v1 v2
        change ∀ v1 v2, ACalls _ _ [_, _, .agg [AI o.kind, AI o.el]] _ _ at s3
        by_cases hop : opE p k o = 0
        rotate_left
        · rw [if_neg (by rw [decide_eq_true_eq]; exact hop)] at he ⊢
          simp only [if_neg hop] at s3
          generalize opE p k o = e at *
          repeat (first | refine gN pk ?_ | (show AL _ _ _ _ _ _ _; first | refine jX tok xk ?_ | refine jL tok (fun uo => ?_) | refine jS tok 0 ?_ | refine zsc (Lc := []) rfl rfl rfl rfl rfl sk (SubL.of_eq rfl) (List.Perm.refl _) ?_; rintro _ _ ⟨v1, v2, hv1, hv2, rfl, rfl⟩ | refine jL tok (fun un => ?_) | refine s_store (a := .agg [.lit v1, .lit v2]) tok 0 rfl rfl rfl rfl rfl rfl (by simp [AV.storable, AV.cell, hv1, hv2]) rfl (by decide) rfl rfl rfl (Nat.le_of_ble_eq_true rfl) ?_))
          refine zfb 0 10 rfl rfl ?_
          refine zfb 2 9 rfl rfl ?_
          refine zrg ((List.range 8).map fun i => if inL [6] i = true then .eff else if inL [0, 4, 5] i = true then .read else .pure) [] [0, 1, 2, 3, 4, 5, 6, 7] .stop mixed rfl rfl (by decide +kernel) ?_
          repeat' (first | (with_reducible show AG _ _ _ _ _ _ _ _ _ _; first | exact zgn | refine zgs ?_ | refine znd ?_ ?_) | (show AMid _ _ _ _; first | refine zmf ?_ | refine zmg (by first | exact OSub.refl _ | exact .drop (OSub.refl _) | exact .drop (.drop (OSub.refl _))) ?_) | refine gY pk ?_ | (show AL _ _ _ _ _ _ _; first | refine jO tok 2 ?_ | refine zsc (Lc := knO v1 v2 k) rfl rfl rfl rfl rfl (s3 v1 v2) (SubL.of_eq rfl) (List.Perm.refl _) ?_; rintro _ _ ⟨rfl, rfl⟩) | fail)
          repeat (first | refine gA pk ?_)
          exact ⟨j + 1, b', vp, ⟨by omega, rfl⟩, by omega, .sub (by exact subQ) (.drop (.drop (OSub.refl _)))⟩
        · rw [if_pos (by rw [decide_eq_true_eq]; exact hop), List.foldl_cons] at he ⊢
          simp only [hop, if_true] at s3
          have s4 := ses k hk o hop n hn
          change Pure _ _ [_, _, _, _, .agg [AI o.kind, AI o.el], _] _ at s4
          have e1 := hen k n o hn.1
          have hg := hGo b' o
          have hu := hun k o hk hop
          generalize estK t s p k n o = e at *
          have e2 := hcu c e hc.2 e1.1
          have hk' := aftK_ok hk o
          have lk1 := hk'.nl
          have ihk := fun w => ih (l ++ [o]) (aftK p k o) e (capC (c + e)) b' uc w hk' (by omega) (by simp only [List.length_append, List.length_cons, List.length_nil]; omega) e1 (by omega)
          generalize aftK p k o = k' at *
          unfold capC at hg ihk e2
          obtain ⟨bl, bc, bo⟩ := b'
          have hg2 : (bo = false ∨ ¬ bc ≤ min (c + e) 1000000000) → G ⟨bl, bc, bo⟩ o = betP t s p m (l ++ [o]) k' e (min (c + e) 1000000000) ⟨bl, bc, bo⟩ := fun hh => by
            rw [hg, if_neg]
            unfold prune
            rcases hh with hh | hh
            · rw [hh]; simp
            · simp [hh]
          have hcs : (bo = true ∧ bc ≤ min (c + e) 1000000000) ∨ (bo = false) ∨ (bo = true ∧ ¬ bc ≤ min (c + e) 1000000000) := by cases bo <;> simp <;> omega
          repeat (first | refine gN pk ?_ | (show AL _ _ _ _ _ _ _; first | refine jX tok xk ?_ | refine jL tok (fun uo => ?_) | refine jS tok 0 ?_ | refine zsc (Lc := []) rfl rfl rfl rfl rfl sk (SubL.of_eq rfl) (List.Perm.refl _) ?_; rintro _ _ ⟨v1, v2, hv1, hv2, rfl, rfl⟩ | refine jL tok (fun un => ?_) | refine s_store (a := .agg [.lit v1, .lit v2]) tok 0 rfl rfl rfl rfl rfl rfl (by simp [AV.storable, AV.cell, hv1, hv2]) rfl (by decide) rfl rfl rfl (Nat.le_of_ble_eq_true rfl) ?_))
          refine zfb 0 10 rfl rfl ?_
          refine zfb 2 9 rfl rfl ?_
          refine zrg ((List.range 8).map fun i => if inL [6] i = true then .eff else if inL [0, 4, 5] i = true then .read else .pure) [] [0, 1, 2, 3, 4, 5, 6, 7] .stop mixed rfl rfl (by decide +kernel) ?_
          repeat' (first | (with_reducible show AG _ _ _ _ _ _ _ _ _ _; first | exact zgn | refine zgs ?_ | refine znd ?_ ?_) | (show AMid _ _ _ _; first | refine zmf ?_ | refine zmg (by first | exact OSub.refl _ | exact .drop (OSub.refl _) | exact .drop (.drop (OSub.refl _))) ?_) | refine gY pk ?_ | (show AL _ _ _ _ _ _ _; first | refine jO tok 2 ?_ | refine zsc (Lc := knO v1 v2 k) rfl rfl rfl rfl rfl (s3 v1 v2) (SubL.of_eq rfl) (List.Perm.refl _) ?_; rintro _ _ ⟨rfl, rfl⟩) | fail)
          repeat (first | refine gN pk ?_)
          refine a_frzV 0 10 rfl rfl (FZ.ipM (l := [.lit v1, .lit v2]) (m := [boolsA k'.ns, .lit v2]) ⟨FZ.here, FZ.refl _, trivial⟩) ?_
          refine a_frzV 0 10 rfl rfl (FZ.ipM (l := [boolsA k'.ns, .lit v2]) (m := [boolsA k'.ns, boolsA k'.es]) ⟨FZ.refl _, FZ.here, trivial⟩) ?_
          rcases hcs with ⟨rfl, hs1⟩ | rfl | ⟨rfl, hs1⟩
          · rw [if_pos (by unfold prune; simp only [Bool.true_and, decide_eq_true_eq]; exact hs1)] at hg
            refine zrg ((List.range 17).map fun i => if inL [15] i = true then .eff else if inL [3, 7, 11, 12, 13] i = true then .read else .pure) [] [0, 1, 2, 3, 4, 5, 6, 7, 8, 9, 10, 11, 12, 13, 14, 15, 16] .stop mixed rfl rfl (by decide +kernel) ?_
            repeat' (first | (with_reducible show AG _ _ _ _ _ _ _ _ _ _; first | exact zgn | refine zgs ?_ | refine znd ?_ ?_) | (show AMid _ _ _ _; first | refine zmf ?_ | refine zmg (by first | exact OSub.refl _ | exact .drop (OSub.refl _) | exact .drop (.drop (OSub.refl _))) ?_) | refine gY pk ?_ | (show AL _ _ _ _ _ _ _; first | refine jO tok 0 ?_ | refine jP s4 ?_) | fail)
            repeat (first | refine gA pk ?_ | (show AL _ _ _ _ _ _ _; first | refine jO tok 0 ?_))
            exact ⟨j + 1, ⟨bl, bc, true⟩, vp, ⟨by omega, by rw [hg]⟩, by omega, .sub (by exact subQ) (OSub.refl _)⟩
          all_goals
            replace hg := hg2 (by first | exact .inl rfl | exact .inr hs1)
            refine zrg ((List.range 17).map fun i => if inL [15] i = true then .eff else if inL [3, 7, 11, 12, 13] i = true then .read else .pure) [] [0, 1, 2, 3, 4, 5, 6, 7, 8, 9, 10, 11, 12, 13, 14, 15, 16] .stop mixed rfl rfl (by decide +kernel) ?_
            repeat' (first | (with_reducible show AG _ _ _ _ _ _ _ _ _ _; first | exact zgn | refine zgs ?_ | refine znd ?_ ?_) | (show AMid _ _ _ _; first | refine zmf ?_ | refine zmg (by first | exact OSub.refl _ | exact .drop (OSub.refl _) | exact .drop (.drop (OSub.refl _))) ?_) | refine gY pk ?_ | (show AL _ _ _ _ _ _ _; first | refine jO tok 0 ?_ | refine jP s4 ?_) | fail)
            repeat (first | refine gN pk ?_ | (show AL _ _ _ _ _ _ _; first | refine jO tok 0 ?_))
            have hrow : (l ++ [o]).map cOp = l.map cOp ++ [[AI o.kind, AI o.el]] := by rw [List.map_append]; rfl
            have lrow : ((l ++ [o]).map cOp).length = l.length + 1 := by simp
            have htake : ((l ++ [o]).map cOp).take l.length = l.map cOp := by rw [hrow]; exact List.take_left' (by omega)
            refine zrg ((List.range 11).map fun i => if inL [6, 7, 10] i = true then .eff else if inL [4, 5] i = true then .read else .pure) [6] [0, 1, 2, 3, 4, 5] (.nd 6 [7, 8, 9, 10] .stop .stop) mixed rfl rfl (by decide +kernel) ?_
            repeat' (first | (with_reducible show AG _ _ _ _ _ _ _ _ _ _; first | exact zgn | refine zgs ?_ | refine znd ?_ ?_) | (show AMid _ _ _ _; first | refine zmf ?_ | refine zmg (by first | exact OSub.refl _ | exact .drop (OSub.refl _) | exact .drop (.drop (OSub.refl _))) ?_) | refine gY pk ?_ | (show AL _ _ _ _ _ _ _; first | refine jO tok 0 ?_ | refine jO tok 1 ?_ | refine zba tok rfl rfl rfl rfl rfl rfl rfl rfl (by decide) (fun lv => ?_) | refine zak tok 1 rfl rfl rfl rfl rfl rfl (by decide) rfl rfl rfl rfl (by omega) (by omega) (fun w hw => ?_) | refine zsb tok 0 rfl rfl rfl rfl rfl rfl rfl (by assumption) rfl (Nat.le_of_ble_eq_true rfl) rfl ?_) | fail)
            rw [← hrow]
            repeat (first | refine gN pk ?_ | (show AL _ _ _ _ _ _ _; first | refine zsc (Lc := chO t s p uc w (l ++ [o]) _) (Lr := []) rfl rfl rfl rfl rfl (ihk w) (SubL.of_eq rfl) (List.Perm.refl _) ?_; rintro _ _ ⟨vp2, rfl, rfl⟩))
            rw [← hg]
            generalize G _ o = b2 at *
            obtain ⟨b2l, b2c, b2o⟩ := b2
            refine zrg ((List.range 15).map fun i => if inL [11, 14] i = true then .eff else if inL [4, 8, 9] i = true then .read else .pure) [] [0, 1, 2, 3, 4, 5, 6, 7, 8, 9, 10, 11, 12, 13, 14] .stop mixed rfl rfl (by decide +kernel) ?_
            repeat' (first | (with_reducible show AG _ _ _ _ _ _ _ _ _ _; first | exact zgn | refine zgs ?_ | refine znd ?_ ?_) | (show AMid _ _ _ _; first | refine zmf ?_ | refine zmg (by first | exact OSub.refl _ | exact .drop (OSub.refl _) | exact .drop (.drop (OSub.refl _))) ?_) | refine gY pk ?_ | (show AL _ _ _ _ _ _ _; first | refine jO tok 0 ?_ | refine zol tok 1 rfl rfl rfl rfl (by decide) rfl rfl rfl ?_ | (refine s_frontC (n := l.length) tok 1 rfl rfl rfl rfl rfl rfl rfl rfl (by rw [lrow]; exact congrArg (fun z => AV.lit (Value.int .i64 z)) (by omega)) (by omega) (fun w3 hw3 => ?_)) | refine zsb tok 0 rfl rfl rfl rfl rfl rfl rfl (by assumption) rfl (Nat.le_of_ble_eq_true rfl) rfl ?_) | fail)
            repeat (first | refine gA pk ?_)
            exact ⟨j + 1, ⟨b2l, b2c, b2o⟩, w3, ⟨by omega, rfl⟩, by omega, .sub (by exact subQ) (by rw [htake]; exact OSub.refl _)⟩
      · obtain rfl : j = (opsL p).length := by omega
        rw [List.drop_length]
        repeat (first | refine gA pk ?_)
        exact fin (x := .tup []) (.inl rfl) rfl (Sub.refl _) ⟨_, rfl, rfl⟩ (OSub.refl _)
theorem cB_rows (l : List Bool) : ∀ x ∈ l.map cB, x.length = 1 := fun x hx => by
  obtain ⟨y, _, rfl⟩ := List.mem_map.1 hx
  rfl
theorem unknownP_spec (p : Gr) (h1 : p.nodes.length ≤ 1000) (h2 : p.edges.length ≤ 1000) : Pure Tryz.prog 63 [grA p] (knA (kn0 p)) := by
  have ln : (rowI p.nodes).length = p.nodes.length := by simp
  have le : (p.edges.map cEd).length = p.edges.length := by simp
  have z1 : List.replicate (((rowI p.nodes).length : Int)).toNat (List.map AV.lit [Value.bool false]) = (kn0 p).ns.map cB := by unfold kn0; simp [cB]
  have z2 : List.replicate (((p.edges.map cEd).length : Int)).toNat (List.map AV.lit [Value.bool false]) = (kn0 p).es.map cB := by unfold kn0; simp [cB]
  refine a_enterC Tryz.func63 (by kernel_rfl) rfl Tryz.ntmps63 rfl (tok _ _ rfl) (by simp) ?_
  refine a_seq ?_
  refine a_reg ?_
  repeat (first | refine gZ pk ?_ | (show AL _ _ _ _ _ _ _; first | refine jB (fun up => ?_) | refine jL tok (fun U2 => ?_)))
  refine zfb 1 1 rfl rfl ?_
  refine AWp.mono (Q := fun e st L => e = .normal ∧ ∃ va vb, GoTo 12 st L (lk [(2, .pt U2 0 0 0)]) [(U2, OB.box [.lit va, .lit vb]), (va, OB.row 4 1 ((kn0 p).ns.map cB)), (vb, OB.row 4 1 ((kn0 p).es.map cB))]) ?_ (fun e st L h => ?_)
  · refine zrg ((List.range 10).map fun i => if inL [3, 7, 9] i = true then .eff else if inL [1, 2, 5, 6] i = true then .read else .pure) [3, 7] [0, 1, 2, 4, 5, 6] (.nd 3 [] (.nd 7 [8, 9] .stop .stop) (.nd 7 [] (.nd 3 [8, 9] .stop .stop) .stop)) mixed rfl rfl (by decide +kernel) ?_
    repeat' (first | (with_reducible show AG _ _ _ _ _ _ _ _ _ _; first | exact zgn | refine zgs ?_ | refine znd ?_ ?_) | (show AMid _ _ _ _; first | refine zmf ?_ | refine zmg (by first | exact OSub.refl _ | exact .drop (OSub.refl _) | exact .drop (.drop (OSub.refl _))) ?_) | refine gY pk ?_ | (show AL _ _ _ _ _ _ _; first | refine s_makeQ tok rfl rfl rfl rfl rfl rfl rfl rfl z1 (by omega) (by omega) (by simp; omega) (by omega) (fun a m j => ?_) | refine s_makeQ tok rfl rfl rfl rfl rfl rfl rfl rfl z2 (by omega) (by omega) (by simp; omega) (by omega) (fun a m j => ?_) | refine jS tok 2 ?_) | fail)
    all_goals
      first | exact ⟨rfl, _, _, (GoTo.sub (by exact subQ) (OSub.refl _)).trans (GoTo.perm (perm3 _ _ _).2.2.1)⟩ | exact ⟨rfl, _, _, (GoTo.sub (by exact subQ) (OSub.refl _)).trans (GoTo.perm (perm3 _ _ _).1)⟩ | exact ⟨rfl, _, _, (GoTo.sub (by exact subQ) (OSub.refl _)).trans (GoTo.perm (perm3 _ _ _).2.1)⟩ | exact ⟨rfl, _, _, (GoTo.sub (by exact subQ) (OSub.refl _)).trans (GoTo.perm (perm3 _ _ _).2.2.2.1)⟩ | exact ⟨rfl, _, _, (GoTo.sub (by exact subQ) (OSub.refl _)).trans (GoTo.perm (perm3 _ _ _).2.2.2.2.1)⟩
  · obtain ⟨rfl, va, vb, h⟩ := h
    refine zgt h ?_
    refine zgt (GoTo.freeze 1 rfl (FZS.refl _) [(U2, OB.box [boolsA (kn0 p).ns, .lit vb]), (vb, OB.row 4 1 ((kn0 p).es.map cB))] (zfo ⟨FZ.here, FZ.refl _, trivial⟩ (zfw (cB_rows _) trivial))) ?_
    refine zgt (GoTo.freeze 1 rfl (FZS.refl _) [(U2, OB.box [boolsA (kn0 p).ns, boolsA (kn0 p).es])] (zfo ⟨FZ.refl _, FZ.here, trivial⟩ trivial)) ?_
    refine zfb 0 2 rfl rfl ?_
    repeat (first | refine gA pk ?_)
    exact ⟨.inr rfl, _, _, _, _, rfl, rfl, Turn.of (Sub.of_eq rfl) (OSub.none _), rfl, rfl⟩
theorem best_spec (t : Tys) (ht : Small t) (s : Sta) (hs : s.nodes.length ≤ 1000 ∧ s.edges.length ≤ 1000) (p : Gr) (hp : OkG p) :
    Pure Tryz.prog 27 [tysA t, staA s, grA p] (.tup [opsA (bestR t s p).1, AI (bestR t s p).2.1, AI (bestR t s p).2.2]) := by
  have s1 := priced_spec t ht s hs p hp
  have ln : (rowI p.nodes).length = p.nodes.length := by simp
  have le : (p.edges.map cEd).length = p.edges.length := by simp
  have bnd := hp
  unfold bestR
  by_cases h1 : pricE t s p = 0
  rotate_left
  · rw [if_pos h1]
    generalize pricE t s p = c at *
    obtain ⟨tn, te⟩ := t
    obtain ⟨sn, se⟩ := s
    obtain ⟨pn, pe⟩ := p
    refine zen Tryz.func27 (by kernel_rfl) rfl Tryz.ntmps27 rfl (by simp) ?_
    refine a_seq ?_
    refine a_reg ?_
    repeat (first | refine gZ pk ?_ | (show AL _ _ _ _ _ _ _; first | refine jB (fun u => ?_)))
    refine zfb 2 3 rfl rfl ?_
    refine zfb 1 4 rfl rfl ?_
    refine zfb 0 5 rfl rfl ?_
    repeat (first | refine gA pk ?_ | (show AL _ _ _ _ _ _ _; first | refine jP s1 ?_))
    refine fin (x := .tup [nilS, AI 0, AI c]) (.inr rfl) rfl (Sub.tup (m := [opsA [], AI 0, AI c]) ⟨Sub.nil 2, Sub.refl _, Sub.refl _, trivial⟩) ?_ (OSub.none _)
    exact ⟨rfl, rfl⟩
  rw [if_neg (Decidable.not_not.2 h1)]
  rw [h1] at s1
  have hP := pricE_zero.1 h1
  have hnl := hP.gr.nl
  have hel := hP.gr.el
  by_cases h2 : 6 < p.nodes.length + p.edges.length
  · rw [if_pos h2]
    clear h1 hP bnd
    obtain ⟨tn, te⟩ := t
    obtain ⟨sn, se⟩ := s
    obtain ⟨pn, pe⟩ := p
    simp only at *
    change Pure _ _ [.agg [nodsA tn, edgsA te], .agg [cntsA sn, cntsA se], .agg [ints pn, edsA pe]] _
    refine zen Tryz.func27 (by kernel_rfl) rfl Tryz.ntmps27 rfl (by simp) ?_
    refine a_seq ?_
    refine a_reg ?_
    repeat (first | refine gZ pk ?_ | (show AL _ _ _ _ _ _ _; first | refine jB (fun u => ?_)))
    refine zfb 2 3 rfl rfl ?_
    refine zfb 1 4 rfl rfl ?_
    refine zfb 0 5 rfl rfl ?_
    repeat (first | refine gA pk ?_ | (show AL _ _ _ _ _ _ _; first | refine jP s1 ?_))
    refine fin (x := .tup [nilS, AI 0, AI 3]) (.inr rfl) rfl (Sub.tup (m := [opsA [], AI 0, AI 3]) ⟨Sub.nil 2, Sub.refl _, Sub.refl _, trivial⟩) ?_ (OSub.none _)
    exact ⟨rfl, rfl⟩
  · rw [if_neg h2]
    have su := unknownP_spec p (by omega) (by omega)
    have sr := fun u => search_rec t ht s hs p hP 7 [] (kn0 p) 1 0 ⟨[], 0, false⟩ u (.slice none 0 0) (kn0_ok p) (by rw [unk_0]; omega) (by rw [unk_0]; simp; omega) (by omega) (by omega)
    rw [betP_eq hP.st 7 [] (kn0 p) 1 0 ⟨[], 0, false⟩ (by omega) (by omega)] at sr
    change ∀ u, ACalls _ _ _ _ (fun y M => ∃ vp', y = .tup [] ∧ M = chO t s p u vp' [] (bestB t s p)) at sr
    generalize bestB t s p = B at *
    obtain ⟨Bl, Bc, Bo⟩ := B
    have s0 : (kn0 p).ns = List.replicate p.nodes.length false := rfl
    clear h1 hP bnd
    obtain ⟨tn, te⟩ := t
    obtain ⟨sn, se⟩ := s
    obtain ⟨pn, pe⟩ := p
    simp only at *
    generalize kn0 ⟨pn, pe⟩ = K at *
    change Pure _ _ [.agg [nodsA tn, edgsA te], .agg [cntsA sn, cntsA se], .agg [ints pn, edsA pe]] _
    refine zen Tryz.func27 (by kernel_rfl) rfl Tryz.ntmps27 rfl (by simp) ?_
    refine a_seq ?_
    refine a_reg ?_
    repeat (first | refine gZ pk ?_ | (show AL _ _ _ _ _ _ _; first | refine jB (fun u => ?_)))
    refine zfb 2 3 rfl rfl ?_
    refine zfb 1 4 rfl rfl ?_
    refine zfb 0 5 rfl rfl ?_
    repeat (first | refine gA pk ?_ | (show AL _ _ _ _ _ _ _; first | refine jP s1 ?_))
    repeat (first | refine gZ pk ?_ | (show AL _ _ _ _ _ _ _; first | refine jB (fun ur => ?_)))
    rename_i ur
    refine zgt (GoTo.weak (st' := _) (fun i => Sub.refl _) (L' := [(ur, .box (chC ⟨tn, te⟩ ⟨sn, se⟩ ⟨pn, pe⟩ nilS ⟨[], 0, false⟩))]) ?_) ?_
    rotate_left
    refine zgt (GoTo.sub (st' := _) (fun i => Sub.refl _) (L' := chO ⟨tn, te⟩ ⟨sn, se⟩ ⟨pn, pe⟩ ur (.slice none 0 0) [] ⟨[], 0, false⟩) (.keep (.free (OSub.none _)))) ?_
    refine a_reg ?_
    repeat (first | refine gZ pk ?_ | (show AL _ _ _ _ _ _ _; first | refine jP su ?_ | refine zsc (Lc := chO ⟨tn, te⟩ ⟨sn, se⟩ ⟨pn, pe⟩ ur (.slice none 0 0) [] ⟨[], 0, false⟩) (Lr := []) rfl rfl rfl rfl rfl (sr ur) (SubL.of_eq rfl) (List.Perm.refl _) ?_; rintro _ _ ⟨vp2, rfl, rfl⟩))
    repeat (first | refine gN pk ?_)
    refine zrg ((List.range 11).map fun i => if inL [3, 7] i = true then .read else .pure) [] [0, 1, 2, 3, 4, 5, 6, 7, 8, 9, 10] .stop mixed rfl rfl (by decide +kernel) ?_
    repeat' (first | (with_reducible show AG _ _ _ _ _ _ _ _ _ _; first | exact zgn | refine zgs ?_ | refine znd ?_ ?_) | (show AMid _ _ _ _; first | refine zmf ?_ | refine zmg (by first | exact OSub.refl _ | exact .drop (OSub.refl _) | exact .drop (.drop (OSub.refl _))) ?_) | refine gY pk ?_ | (show AL _ _ _ _ _ _ _; first | refine jO tok 0 ?_) | fail)
    repeat (first | refine gA pk ?_)
    · refine fin (x := .tup [opsA Bl, AI Bc, AI 0]) (.inr rfl) rfl (Sub.refl _) ?_ (OSub.none _)
      exact ⟨rfl, rfl⟩
    · exact ⟨rfl, ⟨Sub.refl _, Sub.refl _, Sub.refl _, Sub.refl _, Sub.refl _, Sub.refl _, Sub.refl _, Sub.nil 2, Sub.refl _, Sub.refl _, trivial⟩, trivial⟩
end Go.Proofs.YtimfponihbfimaaGreat
end
