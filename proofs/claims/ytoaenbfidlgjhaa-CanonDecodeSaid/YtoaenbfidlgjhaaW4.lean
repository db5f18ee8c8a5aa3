/-
  The table of a graph's edges: the walks. Conditions: at most 8 nodes; less than 20 edges, or edges that are sorted.
-/
import Derived.Test.YtoaenbfidlgjhaaSjQ8
import Derived.Test.YtoaenbfidlgjhaaW3
import Derived.Test.YtoaenbfidlgjhaaSjQD
namespace Go.Proofs.Ytoaenbfidlgjhaa
open Go.Sj Go.Sj.Typ Go.Sj.Sta Go.Sj.Can
set_option linter.unusedVariables false
set_option linter.unusedSimpArgs false
set_option maxHeartbeats 16000000

theorem tabled1_spec (g : Gr) (hg : GV g) (a b : Nat) (ha : a < g.edges.length) (hb : b < g.edges.length) : Pure Try.prog 66 [AI a, AI b, grP g] (AI (tyI g a - tyI g b)) := by
  have le : (g.edges.map cEd).length = g.edges.length := by simp
  have hl := hg.el
  have xa := List.getElem?_eq_getElem ha
  have xb := List.getElem?_eq_getElem hb
  have h1 := hg.edges _ (List.getElem_mem ha)
  have h2 := hg.edges _ (List.getElem_mem hb)
  rw [tyI_get xa, tyI_get xb]
  generalize g.edges[a] = x at *
  generalize g.edges[b] = y at *
  have ka : (g.edges.map cEd)[(a : Int).toNat]? = some (cEd x) := map_get (f := cEd) xa
  have kb : (g.edges.map cEd)[(b : Int).toNat]? = some (cEd y) := map_get (f := cEd) xb
  obtain ⟨x1, x2, x3⟩ := x
  obtain ⟨y1, y2, y3⟩ := y
  unfold cEd at ka kb
  simp only at ka kb h1 h2
  refine a_enter Try.func66 (by kernel_rfl) rfl Try.ntmps66 rfl (by simp) ?_
  repeat (first | refine gA pk ?_ | (show AL _ _ _ _ _ _ _; first | refine jX tok ka ?_ | refine jX tok kb ?_))
  refine finQ ?_
  exact ⟨rfl, rfl⟩
theorem tblO_congr {E2 E3 n : Nat} {V : Nat → Value} {W : Nat → Nat → Value} {R S : Nat → Nat → List Int} (h : ∀ a b, a < n → b < n → R a b = S a b) : tblO E2 E3 n V W R = tblO E2 E3 n V W S := by
  unfold tblO tblG grp
  congr 1
  refine List.map_congr_left fun a ha => ?_
  congr 1
  refine List.map_congr_left fun b hb => ?_
  rw [h a b (List.mem_range.1 ha) (List.mem_range.1 hb)]
def mixR (g : Gr) (p q : Nat) : Nat → Nat → List Int := fun a b => if a < p ∨ (a = p ∧ b < q) then bt g a b else rawK g a b g.edges.length
theorem mixR_at (g : Gr) (p q : Nat) : mixR g p q p q = rawK g p q g.edges.length := by unfold mixR; rw [if_neg (by omega)]
theorem mixR_step (g : Gr) (p q : Nat) : up2 (mixR g p q) p q (bt g p q) = mixR g p (q + 1) := by
  funext a b
  unfold up2 up1 mixR
  by_cases h1 : a = p
  · subst h1
    by_cases h2 : b = q
    · subst h2
      rw [if_pos rfl, if_pos rfl, if_pos (by omega)]
    · rw [if_pos rfl, if_neg h2]
      by_cases h3 : b < q
      · rw [if_pos (by omega), if_pos (by omega)]
      · rw [if_neg (by omega), if_neg (by omega)]
  · rw [if_neg h1]
    by_cases h3 : a < p
    · rw [if_pos (by omega), if_pos (by omega)]
    · rw [if_neg (by omega), if_neg (by omega)]
abbrev tabP (g : Gr) : AV := .ip [ints g.nodes, edsA g.edges, .im 1 ((List.range g.nodes.length).map fun (i : Nat) => [rowA g.nodes.length fun (j : Nat) => bt g i j])]
theorem tabled_spec (g : Gr) (hg : GV g) (hn : g.nodes.length ≤ 8) (hs : g.edges.length < 20 ∨ ∀ a b : Int, Go.Sj.Can.Srt (tyI g) (rawK g a b g.edges.length)) : Pure Try.prog 43 [grA g] (tabP g) := by
  have ln : (rowI g.nodes).length = g.nodes.length := by simp
  have le : (g.edges.map cEd).length = g.edges.length := by simp
  have hel := hg.el
  have hed := hg.edges
  have hc1 := fun (a b : Nat) => tabled1_spec g hg a b
  unfold tabP
  generalize hN : g.nodes.length = n at *
  have z1 : List.replicate ((n : Int)).toNat (List.map AV.lit [Value.slice none 0 0]) = List.replicate n (litR (.slice none 0 0)) := by simp
  refine a_enter Try.func43 (by kernel_rfl) rfl Try.ntmps43 rfl (by simp) ?_
  refine a_seq ?_
  refine a_reg ?_
  repeat (first | refine gZ pk ?_ | (show AL _ _ _ _ _ _ _; first | refine jB (fun u => ?_)))
  refine a_frzBox 0 1 rfl rfl ?_
  repeat (first | refine gN pk ?_)
  refine a_regG ((List.range 8).map fun i => if inL [4, 6] i = true then .eff else .pure) [] [0, 1, 2, 3, 4, 5, 6, 7] .stop mixed rfl rfl (by decide +kernel) ?_
  repeat' (first | (with_reducible show AG _ _ _ _ _ _ _ _ _ _; first | exact ag_none | refine ag_stop ?_ | refine ag_nd ?_ ?_) | (show AMid _ _ _ _; first | refine amid_f ?_ | refine amid_g (by first | exact OSub.refl _ | exact .drop (OSub.refl _) | exact .drop (.drop (OSub.refl _))) ?_) | refine gY pk ?_ | fail)
  rw [ln]
  repeat' (first | (with_reducible show AG _ _ _ _ _ _ _ _ _ _; first | exact ag_none | refine ag_stop ?_ | refine ag_nd ?_ ?_) | (show AMid _ _ _ _; first | refine amid_f ?_ | refine amid_g (by first | exact OSub.refl _ | exact .drop (OSub.refl _) | exact .drop (.drop (OSub.refl _))) ?_) | refine gY pk ?_ | (show AL _ _ _ _ _ _ _; first | refine s_makeQ tok rfl rfl rfl rfl rfl rfl rfl rfl z1 (by omega) (by omega) (by simp; omega) (by omega) (fun a m j => ?_) | refine jB (fun u => ?_)) | fail)
  refine a_frzBox 0 3 rfl rfl ?_
  generalize hv0 : Value.slice a m j = v0
  repeat (first | refine gN pk ?_ | (show AL _ _ _ _ _ _ _; first | refine s_ownLen tok 0 rfl rfl rfl rfl (by decide) rfl rfl rfl ?_))
  rw [show (List.replicate n (litR (.slice none 0 0))).length = n by simp]
  refine a_loopG2 (fun (i : Nat) (vs : List Value) => [(1, grP g), (3, .ip [ints g.nodes, edsA g.edges, .lit v0]), (22, AI n), (23, AI i)]) (fun i vs => (v0, .row 75 1 (vs.map litR ++ List.replicate (n - i) (litR (.slice none 0 0)))) :: vs.reverse.map fun V => (V, .row 22 1 (List.replicate n (litR (.slice none 0 0))))) (fun i vs => i ≤ n ∧ vs.length = i) (fun i _ => n - i) 0 [] ⟨Nat.zero_le _, rfl⟩ (.sub (by exact subQ) (OSub.refl _)) ?_
  rintro i vs ⟨hi, hvs⟩
  have lrow : (vs.map litR ++ List.replicate (n - i) (litR (.slice none 0 0))).length = n := by simp; omega
  rcases Nat.lt_or_ge i n with h | h
  · have gi : (vs.map litR ++ List.replicate (n - i) (litR (.slice none 0 0)))[(i : Int).toNat]? = some [.lit (.slice none 0 0)] := by
      rw [Int.toNat_natCast, List.getElem?_append_right (by simp; omega), List.length_map, hvs, Nat.sub_self, List.getElem?_replicate, if_pos (by omega)]
    have hset : ∀ w : Value, (vs.map litR ++ List.replicate (n - i) (litR (.slice none 0 0))).set (i : Int).toNat [.lit w] = (vs ++ [w]).map litR ++ List.replicate (n - (i + 1)) (litR (.slice none 0 0)) := fun w => by
      rw [Int.toNat_natCast, List.set_append_right _ _ (by simp; omega), List.length_map, hvs, Nat.sub_self, show n - i = (n - (i + 1)) + 1 by omega, List.replicate_succ, List.set_cons_zero]
      simp
    have z2 : List.replicate ((n : Int)).toNat (List.map AV.lit [Value.slice none 0 0]) = List.replicate n (litR (.slice none 0 0)) := by simp
    repeat (first | refine gN pk ?_)
    refine a_regG ((List.range 11).map fun i => if inL [8, 10] i = true then .eff else if inL [9] i = true then .read else .pure) [8] [0, 1, 2, 3, 4, 5, 6, 7] (.nd 8 [9, 10] .stop .stop) mixed rfl rfl (by decide +kernel) ?_
    repeat' (first | (with_reducible show AG _ _ _ _ _ _ _ _ _ _; first | exact ag_none | refine ag_stop ?_ | refine ag_nd ?_ ?_) | (show AMid _ _ _ _; first | refine amid_f ?_ | refine amid_g (by first | exact OSub.refl _ | exact .drop (OSub.refl _) | exact .drop (.drop (OSub.refl _))) ?_) | refine gY pk ?_ | fail)
    rw [ln]
    repeat' (first | (with_reducible show AG _ _ _ _ _ _ _ _ _ _; first | exact ag_none | refine ag_stop ?_ | refine ag_nd ?_ ?_) | (show AMid _ _ _ _; first | refine amid_f ?_ | refine amid_g (by first | exact OSub.refl _ | exact .drop (OSub.refl _) | exact .drop (.drop (OSub.refl _))) ?_) | refine gY pk ?_ | (show AL _ _ _ _ _ _ _; first | refine s_makeQ tok rfl rfl rfl rfl rfl rfl rfl rfl z2 (by omega) (by omega) (by simp; omega) (by omega) (fun a m j => ?_) | refine s_ownIndex tok 1 rfl rfl rfl rfl (by decide) rfl rfl rfl rfl rfl rfl (by omega) (by omega) ?_) | fail)
    refine s_storeV tok 1 rfl rfl rfl rfl rfl rfl rfl rfl rfl gi ?_
    generalize Value.slice a m j = w
    repeat (first | refine gA pk ?_)
    refine ⟨i + 1, vs ++ [w], ⟨by omega, by simp [hvs]⟩, by omega, GoTo.trans (GoTo.perm (.swap _ _ _)) (.sub (by exact subQ) ?_)⟩
    rw [hset w]
    show OSub ((v0, .row 75 1 ((vs ++ [w]).map litR ++ List.replicate (n - (i + 1)) (litR (.slice none 0 0)))) :: (vs ++ [w]).reverse.map fun V => (V, .row 22 1 (List.replicate n (litR (.slice none 0 0))))) _
    rw [List.reverse_append]
    exact OSub.refl _
  · obtain rfl : i = n := by omega
    rw [Nat.sub_self, List.replicate_zero, List.append_nil]
    obtain ⟨V, hV⟩ : ∃ V : Nat → Value, vs = (List.range i).map V := ⟨fun k => vs.getD k default, by
      refine List.ext_getElem (by simp [hvs]) fun k h1 h2 => ?_
      rw [List.getElem_map, List.getElem_range, List.getD_eq_getElem?_getD, List.getElem?_eq_getElem h1]
      rfl⟩
    have hmid : (List.replicate i (litR (.slice none 0 0))) = midR i (fun _ => .slice none 0 0) := by rw [midR, List.map_const', List.length_range]
    rw [hmid]
    have hrow : vs.map litR = (List.range i).map fun k => litR (V k) := by rw [hV, List.map_map]; rfl
    have hmids : (vs.map fun V => (V, OB.row 22 1 (midR i (fun _ => .slice none 0 0)))) = (List.range i).map fun k => (V k, OB.row 22 1 (midR i (fun _ => .slice none 0 0))) := by rw [hV, List.map_map]; rfl
    refine a_goto (GoTo.freeze 0 rfl (st' := lk [(1, grP g), (3, .ip [ints g.nodes, edsA g.edges, .im 1 (vs.map litR)]), (22, AI i), (23, AI i)]) (fzs_cons (FZ.refl _) (fzs_cons (FZ.ipM (show FZL v0 1 (vs.map litR) [ints g.nodes, edsA g.edges, .lit v0] [ints g.nodes, edsA g.edges, .im 1 (vs.map litR)] from ⟨FZ.refl _, FZ.refl _, FZ.here, trivial⟩)) (fzs_cons (FZ.refl _) (fzs_cons (FZ.refl _) fzs_nil)))) (vs.reverse.map fun V => (V, OB.row 22 1 (midR i (fun _ => .slice none 0 0)))) (FZO.refl ?_)) ?_
    · intro p hp
      obtain ⟨x, _, rfl⟩ := List.mem_map.1 hp
      intro y hy
      obtain ⟨k, _, rfl⟩ := List.mem_map.1 hy
      rfl
    refine a_goto (GoTo.trans (GoTo.perm (L' := vs.map fun V => (V, OB.row 22 1 (midR i (fun _ => .slice none 0 0)))) ((List.reverse_perm vs).map _)) (GoTo.sub (st' := lk [(1, grP g), (3, .ip [ints g.nodes, edsA g.edges, .im 1 (vs.map litR)]), (22, AI i), (23, AI i)]) (L' := tblO 22 3 i V (fun _ _ => .slice none 0 0) (fun _ _ => [])) (by exact subQ) (by rw [hmids]; exact osub_tbl (List.range i)))) ?_
    rw [hrow]
    clear hmid hrow hmids lrow
    repeat (first | refine gN pk ?_)
    rw [le]
    refine a_loopG2 (fun (k : Nat) (W : Nat → Nat → Value) => [(1, grP g), (3, .ip [ints g.nodes, edsA g.edges, .im 1 ((List.range i).map fun k => litR (V k))]), (38, edsA g.edges), (39, AI g.edges.length), (40, AI k)]) (fun k W => tblO 22 3 i V W (fun a b => rawK g a b k)) (fun k W => k ≤ g.edges.length) (fun k _ => g.edges.length - k) 0 (fun _ _ => .slice none 0 0) (Nat.zero_le _) (.sub (by exact subQ) (OSub.refl _)) ?_
    rintro k W hk
    rcases Nat.lt_or_ge k g.edges.length with hkl | hkl
    · have hx := List.getElem?_eq_getElem hkl
      have hxe := hed _ (List.getElem_mem hkl)
      have hrs := fun a b : Int => rawK_succ (a := a) (b := b) hx
      generalize g.edges[k] = e at hx hxe hrs
      obtain ⟨e1, e2, e3⟩ := e
      simp only at hxe hrs
      obtain ⟨a, ha⟩ : ∃ a : Nat, e2 = a := ⟨e2.toNat, by omega⟩
      obtain ⟨b, hb⟩ : ∃ b : Nat, e3 = b := ⟨e3.toNat, by omega⟩
      subst ha; subst hb
      have xk : (g.edges.map cEd)[(k : Int).toNat]? = some [AI e1, AI a, AI b] := map_get (f := cEd) hx
      have hai : a < i := by omega
      have hbi : b < i := by omega
      have vk : ((List.range i).map fun k => litR (V k))[(a : Int).toNat]? = some [.lit (V a)] := by rw [Int.toNat_natCast]; exact range_get hai
      have gm := tbl_mid (E2 := 22) (E3 := 3) (V := V) (W := W) (R := fun a b => rawK g a b k) hai
      have gn := tbl_in (E2 := 22) (E3 := 3) (V := V) (W := W) (R := fun a b => rawK g a b k) hai hbi
      have mk : (midR i (W a))[(b : Int).toNat]? = some [.lit (W a b)] := by rw [Int.toNat_natCast]; exact range_get hbi
      have lm : (midR i (W a)).length = i := by simp [midR]
      have lv : ((List.range i).map fun k => litR (V k)).length = i := by simp
      have hrl := rawK_len g a b k
      repeat (first | refine gN pk ?_ | (show AL _ _ _ _ _ _ _; first | refine jX tok xk ?_ | refine jL tok (fun u => ?_) | refine jS tok 0 ?_))
      refine a_frzBox 0 6 rfl rfl ?_
      refine a_regG ((List.range 27).map fun i => if inL [23, 24, 26] i = true then .eff else if inL [20, 21, 25] i = true then .read else .pure) [23] [0, 1, 2, 3, 4, 5, 6, 7, 8, 9, 10, 11, 12, 13, 14, 15, 16, 17, 18, 19, 20, 21, 22] (.nd 23 [24, 25, 26] .stop .stop) mixed rfl rfl (by decide +kernel) ?_
      repeat' (first | (with_reducible show AG _ _ _ _ _ _ _ _ _ _; first | exact ag_none | refine ag_stop ?_ | refine ag_nd ?_ ?_) | (show AMid _ _ _ _; first | refine amid_f ?_ | refine amid_g (by first | exact OSub.refl _ | exact .drop (OSub.refl _) | exact .drop (.drop (OSub.refl _))) ?_) | refine gY pk ?_ | (show AL _ _ _ _ _ _ _; first | refine jX tok vk ?_ | refine s_ownIndex tok (a * (i + 1)) rfl rfl rfl rfl (by decide) rfl rfl rfl gm rfl rfl (by omega) (by omega) ?_ | refine s_loadV tok (a * (i + 1)) rfl rfl rfl rfl (by decide) rfl rfl rfl gm mk ?_) | fail)
      refine s_build1 tok rfl rfl rfl rfl rfl rfl rfl rfl (fun t => ?_)
      repeat' (first | (with_reducible show AG _ _ _ _ _ _ _ _ _ _; first | exact ag_none | refine ag_stop ?_ | refine ag_nd ?_ ?_) | (show AMid _ _ _ _; first | refine amid_f ?_ | refine amid_g (by first | exact OSub.refl _ | exact .drop (OSub.refl _) | exact .drop (.drop (OSub.refl _))) ?_) | refine gY pk ?_ | fail)
      refine s_append1K tok (a * (i + 1) + (b + 1)) rfl rfl rfl rfl rfl rfl (by decide) rfl gn rfl rfl (by rw [List.length_map]; omega) (by rw [List.length_map]; omega) (fun w hw => ?_)
      have gm2 := fun p : Value × OB => (List.getElem?_set_ne (show a * (i + 1) + (b + 1) ≠ a * (i + 1) by omega) (a := p)).trans gm
      repeat' (first | (with_reducible show AG _ _ _ _ _ _ _ _ _ _; first | exact ag_none | refine ag_stop ?_ | refine ag_nd ?_ ?_) | (show AMid _ _ _ _; first | refine amid_f ?_ | refine amid_g (by first | exact OSub.refl _ | exact .drop (OSub.refl _) | exact .drop (.drop (OSub.refl _))) ?_) | refine gY pk ?_ | (show AL _ _ _ _ _ _ _; first | refine s_ownIndex tok (a * (i + 1)) rfl rfl rfl rfl (by decide) rfl rfl rfl (gm2 _) rfl rfl (by omega) (by omega) ?_) | fail)
      refine s_storeV tok (a * (i + 1)) rfl rfl rfl rfl rfl rfl rfl hw (gm2 _) mk ?_
      repeat (first | refine gA pk ?_)
      refine ⟨k + 1, up2 W a b w, by omega, by omega, .sub (by exact subQ) ?_⟩
      have hR : (fun x y : Nat => rawK g x y (k + 1)) = up2 (fun x y : Nat => rawK g x y k) a b (rawK g a b k ++ [(k : Int)]) := by
        funext x y
        rw [hrs x y]
        unfold up2 up1
        by_cases q1 : x = a
        · subst q1
          by_cases q2 : y = b
          · subst q2; simp
          · have : ¬ (b : Int) = y := by omega
            simp [q2, this]
        · have : ¬ (a : Int) = x := by omega
          simp [q1, this]
      rw [Int.toNat_natCast]
      have hts := tbl_set (E2 := 22) (E3 := 3) (V := V) (W := W) (R := fun a b => rawK g a b k) hai hbi w (rawK g a b k ++ [(k : Int)])
      rw [← hR] at hts
      show OSub (tblO 22 3 i V (up2 W a b w) fun x y => rawK g x y (k + 1)) _
      rw [← hts]
      have er : rowI (rawK g a b k) ++ [[AI k]] = rowI (rawK g a b k ++ [(k : Int)]) := by simp [cI]
      rw [← er]
      exact OSub.refl _
    · obtain rfl : k = g.edges.length := by omega
      rw [show (fun a b : Nat => rawK g a b g.edges.length) = mixR g 0 0 from by funext a b; unfold mixR; rw [if_neg (by omega)]]
      have hcc : ∀ (a b : Int), ∀ x ∈ rawK g a b g.edges.length, ∀ y ∈ rawK g a b g.edges.length, Pure Try.prog 66 (AI x :: AI y :: [grP g]) (AI (tyI g x - tyI g y)) := fun a b x hx y hy => by
        obtain ⟨x', rfl, hx', -⟩ := rawK_mem.1 hx
        obtain ⟨y', rfl, hy', -⟩ := rawK_mem.1 hy
        exact hc1 x' y' hx' hy'
      have lv : ((List.range i).map fun k => litR (V k)).length = i := by simp
      repeat (first | refine gN pk ?_)
      rw [lv]
      refine a_loopG (fun (p : Nat) => [(1, grP g), (3, .ip [ints g.nodes, edsA g.edges, .im 1 ((List.range i).map fun k => litR (V k))]), (75, .im 1 ((List.range i).map fun k => litR (V k))), (76, AI i), (77, AI p)]) (fun p => tblO 22 3 i V W (mixR g p 0)) (fun p => p ≤ i) (fun p => i - p) 0 (Nat.zero_le _) (.sub (by exact subQ) (OSub.refl _)) ?_
      intro p hp
      rcases Nat.lt_or_ge p i with hpl | hpl
      · have vk : ((List.range i).map fun k => litR (V k))[(p : Int).toNat]? = some [.lit (V p)] := by rw [Int.toNat_natCast]; exact range_get hpl
        have gm := fun q => tbl_mid (E2 := 22) (E3 := 3) (V := V) (W := W) (R := mixR g p q) hpl
        have lm : (midR i (W p)).length = i := by simp [midR]
        repeat (first | refine gN pk ?_ | (show AL _ _ _ _ _ _ _; first | refine jX tok vk ?_ | refine s_ownLen tok (p * (i + 1)) rfl rfl rfl rfl (by decide) rfl rfl (gm 0) ?_))
        rw [lm]
        refine a_loopG (fun (q : Nat) => [(1, grP g), (3, .ip [ints g.nodes, edsA g.edges, .im 1 ((List.range i).map fun k => litR (V k))]), (75, .im 1 ((List.range i).map fun k => litR (V k))), (76, AI i), (77, AI p), (81, .lit (V p)), (82, AI i), (83, AI q)]) (fun q => tblO 22 3 i V W (mixR g p q)) (fun q => q ≤ i) (fun q => i - q) 0 (Nat.zero_le _) (.sub (by exact subQ) (OSub.refl _)) ?_
        intro q hq
        rcases Nat.lt_or_ge q i with hql | hql
        · have mk : (midR i (W p))[(q : Int).toNat]? = some [.lit (W p q)] := by rw [Int.toNat_natCast]; exact range_get hql
          have gn := tbl_in (E2 := 22) (E3 := 3) (V := V) (W := W) (R := mixR g p q) hpl hql
          rw [mixR_at] at gn
          have hrl := rawK_len g p q g.edges.length
          have ss := SortStable_spec (tyI g) (rawK g p q g.edges.length) (by omega) (by
            rcases hs with h | h
            · exact .inl (by omega)
            · exact .inr (h _ _)) 66 [grP g] (hcc p q) (W p q)
          change ACalls _ _ _ _ (fun y M => y = .tup [] ∧ M = [(W p q, .row 3 1 (rowI (bt g p q)))]) at ss
          have hst := tbl_setR (E2 := 22) (E3 := 3) (V := V) (W := W) (R := mixR g p q) hpl hql (bt g p q)
          rw [mixR_step] at hst
          repeat (first | refine gN pk ?_ | (show AL _ _ _ _ _ _ _; first | refine s_ownIndex tok (p * (i + 1)) rfl rfl rfl rfl (by decide) rfl rfl rfl (gm q) rfl rfl (by omega) (by omega) ?_ | refine s_loadV tok (p * (i + 1)) rfl rfl rfl rfl (by decide) rfl rfl rfl (gm q) mk ?_ | refine s_callO (p * (i + 1) + (q + 1)) rfl rfl rfl rfl rfl gn ss (SubL.of_eq rfl) ?_; rintro _ _ ⟨rfl, rfl⟩))
          repeat (first | refine gA pk ?_)
          refine ⟨q + 1, by omega, by omega, GoTo.trans (GoTo.perm (L' := tblO 22 3 i V W (mixR g p (q + 1))) ?_) (.sub (by exact subQ) (OSub.refl _))⟩
          rw [← hst]
          have hl := (List.getElem?_eq_some_iff.1 gn).1
          have := own_perm (L := (tblO 22 3 i V W (mixR g p q)).set (p * (i + 1) + (q + 1)) (W p q, .row 3 1 (rowI (bt g p q)))) (List.getElem?_set_self hl)
          rw [List.eraseIdx_set_eq] at this
          exact this
        · obtain rfl : q = i := by omega
          rw [tblO_congr (S := mixR g (p + 1) 0) (fun a b ha hb => by
            unfold mixR
            by_cases h1 : a < p ∨ (a = p ∧ b < q)
            · rw [if_pos h1, if_pos (by omega)]
            · rw [if_neg h1, if_neg (by omega)])]
          repeat (first | refine gA pk ?_)
          exact ⟨p + 1, by omega, by omega, .sub (by exact subQ) (OSub.refl _)⟩
      · obtain rfl : p = i := by omega
        rw [tblO_congr (S := fun a b : Nat => bt g a b) (fun a b ha hb => by
          unfold mixR
          rw [if_pos (by omega)])]
        repeat (first | refine gA pk ?_)
        exact finT (x := .ip _) (.inr rfl) rfl tbl_turn ⟨rfl, rfl⟩
end Go.Proofs.Ytoaenbfidlgjhaa
