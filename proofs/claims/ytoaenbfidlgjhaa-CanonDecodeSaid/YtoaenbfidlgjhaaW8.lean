/-
  The canonical order and its code: the program's walk. Conditions: valid graphs of at most 8 nodes.
-/
import Derived.Test.YtoaenbfidlgjhaaSjQ8
import Derived.Test.YtoaenbfidlgjhaaW7
namespace Go.Proofs.Ytoaenbfidlgjhaa
open Go.Sj Go.Sj.Typ Go.Sj.Sta Go.Sj.Can
set_option linter.unusedVariables false
set_option linter.unusedSimpArgs false
set_option maxHeartbeats 16000000

theorem GoTo.turn {N : Nat} {st : St} {L M : Own} (h : Turn .any L .any M) : GoTo N st L st M := fun σ F w a h1 h2 => by
  obtain ⟨υ, k1, k2, _⟩ := h σ F w undef h1 (.any _)
  exact ⟨υ, k1, k2, h2.mono k1⟩
def twv (g : Gr) (a b : Nat) : Bool := decide ((a : Int) ≠ b) && twB (nN g) (tT g) g.nodes.length a b
def bRw (g : Gr) (a k : Nat) : List (List AV) := (List.range k).map fun (b : Nat) => [AB (twv g a b)]
def outR (n : Nat) (W : Nat → Value) : List (List AV) := (List.range n).map fun a => litR (W a)
def innO (E : Nat) (g : Gr) (W : Nat → Value) (f : Nat → Nat) : Own := (List.range g.nodes.length).map fun a => (W a, .row E 1 (bRw g a (f a)))
theorem bRw_succ (g : Gr) (a k : Nat) : bRw g a (k + 1) = bRw g a k ++ [[AB (twv g a k)]] := by simp [bRw, List.range_succ]
theorem innO_free {E : Nat} {g : Gr} {L : Own} : ∀ l : List Nat, OSub ((l.map fun a => ((.slice none 0 0 : Value), OB.row E 1 (bRw g a 0))) ++ L) L
  | [] => OSub.refl _
  | _ :: l => .free (innO_free l)
theorem innO_congr {E : Nat} {g : Gr} {W : Nat → Value} {f h : Nat → Nat} (e : ∀ a, a < g.nodes.length → f a = h a) : innO E g W f = innO E g W h := List.map_congr_left fun a ha => by rw [e a (List.mem_range.1 ha)]
theorem innO_set {E : Nat} {g : Gr} {W : Nat → Value} {f : Nat → Nat} {a : Nat} (w : Value) (k : Nat) : (innO E g W f).set a (w, .row E 1 (bRw g a k)) = innO E g (up1 W a w) (up1 f a k) := by
  unfold innO
  rw [range_set]
  refine List.map_congr_left fun b _ => ?_
  unfold up1
  by_cases e : b = a
  · subst e; simp
  · simp [e]
theorem outR_set {n : Nat} {W : Nat → Value} {a : Nat} (w : Value) : (outR n W).set a [.lit w] = outR n (up1 W a w) := by
  unfold outR
  rw [range_set]
  refine List.map_congr_left fun b _ => ?_
  unfold up1
  by_cases e : b = a
  · subst e; simp
  · simp [e]
theorem manyO_inn {E : Nat} {g : Gr} (W : Nat → Value) (f : Nat → Nat) : ∀ l : List Nat, manyO E (l.map W) (l.map fun a => bRw g a (f a)) = l.map fun a => (W a, .row E 1 (bRw g a (f a)))
  | [] => rfl
  | a :: l => by rw [List.map_cons, List.map_cons, manyO, manyO_inn W f l]; rfl
theorem best_spec (g : Gr) (hg : GV g) (hn : g.nodes.length ≤ 8) : Pure Try.prog 46 [tabP g] (.tup [ints (ordG g), ints (codG g)]) := by
  have ln : (rowI g.nodes).length = g.nodes.length := by simp
  have z1 : List.replicate ((g.nodes.length : Int)).toNat (List.map AV.lit [Value.slice none 0 0]) = outR g.nodes.length (fun _ => .slice none 0 0) := by
    rw [Int.toNat_natCast, outR, List.map_const', List.length_range]
    rfl
  have htw := fun (a b : Nat) (ha : a < g.nodes.length) (hb : b < g.nodes.length) => twins_spec g hg hn a b ha hb
  have hfs := from_spec g hg hn g.nodes.length [] none (by simp) (Po.nil _) Good.none
  have hfg : srch (nN g) (tT g) g.nodes.length g.nodes.length [] none = some (ordG g, codG g) := (findG_eq g).1
  rw [hfg] at hfs
  refine a_enter Try.func46 (by kernel_rfl) rfl Try.ntmps46 rfl (by simp) ?_
  repeat (first | refine gN pk ?_)
  rw [ln]
  repeat (first | refine gN pk ?_ | (show AL _ _ _ _ _ _ _; first | refine s_makeQ tok rfl rfl rfl rfl rfl rfl rfl rfl z1 (by omega) (by omega) (by simp; omega) (by omega) (fun a m j => ?_) | refine jB (fun u => ?_)))
  generalize Value.slice a m j = v0
  refine a_loopG2 (fun (i : Nat) (W : Nat → Value) => [(0, tabP g), (4, AI g.nodes.length), (5, .pt u 0 0 0), (19, AI g.nodes.length), (20, AI i)]) (fun i W => (u, .box [tabP g, .lit v0, nilA, nilA]) :: (v0, .row 100 1 (outR g.nodes.length W)) :: innO 4 g W (fun a => if a < i then g.nodes.length else 0)) (fun i W => i ≤ g.nodes.length) (fun i _ => g.nodes.length - i) 0 (fun _ => .slice none 0 0) (Nat.zero_le _) (.sub (by exact subQ) ?_) ?_
  · refine .keep (.keep ?_)
    have := innO_free (E := 4) (g := g) (L := []) (List.range g.nodes.length)
    rw [List.append_nil] at this
    exact this
  · intro i W hi
    rcases Nat.lt_or_ge i g.nodes.length with h | h
    · repeat (first | refine gN pk ?_)
      refine a_loopG2 (fun (b : Nat) (W : Nat → Value) => [(0, tabP g), (4, AI g.nodes.length), (5, .pt u 0 0 0), (19, AI g.nodes.length), (20, AI i), (6, AI i), (23, AI g.nodes.length), (24, AI b)]) (fun b W => (u, .box [tabP g, .lit v0, nilA, nilA]) :: (v0, .row 100 1 (outR g.nodes.length W)) :: innO 4 g W (up1 (fun a => if a < i then g.nodes.length else 0) i b)) (fun b W => b ≤ g.nodes.length) (fun b _ => g.nodes.length - b) 0 W (Nat.zero_le _) (.sub (by exact subQ) ?_) ?_
      · rw [innO_congr (h := fun a => if a < i then g.nodes.length else 0) (fun a _ => by
          unfold up1
          by_cases e : a = i
          · subst e; simp
          · simp [e])]
        exact OSub.refl _
      · clear W
        intro b W hb
        rcases Nat.lt_or_ge b g.nodes.length with h2 | h2
        · have st := htw i b h h2
          have mk : (outR g.nodes.length W)[(i : Int).toNat]? = some [.lit (W i)] := by rw [Int.toNat_natCast]; exact range_get h
          have lo : (outR g.nodes.length W).length = g.nodes.length := by simp [outR]
          have gi : ((u, OB.box [tabP g, .lit v0, nilA, nilA]) :: (v0, OB.row 100 1 (outR g.nodes.length W)) :: innO 4 g W (up1 (fun a => if a < i then g.nodes.length else 0) i b))[i + 2]? = some (W i, .row 4 1 (bRw g i b)) := by
            rw [List.getElem?_cons_succ, List.getElem?_cons_succ, innO, range_get h]
            simp [up1]
          have lbr : (bRw g i b).length = b := by simp [bRw]
          have hfin : ∀ w : Value, ((innO 4 g W (up1 (fun a => if a < i then g.nodes.length else 0) i b)).set i (w, .row 4 1 (bRw g i (b + 1)))) = innO 4 g (up1 W i w) (up1 (fun a => if a < i then g.nodes.length else 0) i (b + 1)) := fun w => by rw [innO_set, up1_up1]
          have hbs := bRw_succ g i b
          have htwv : twv g i b = (decide ((i : Int) ≠ b) && twB (nN g) (tT g) g.nodes.length i b) := rfl
          by_cases hib : i = b
          · rw [decide_eq_false (show ¬ (i : Int) ≠ b by omega), Bool.false_and] at htwv
            rw [htwv] at hbs
            repeat (first | refine gN pk ?_)
            refine a_regG ((List.range 25).map fun i => if inL [3, 19, 21, 22, 24] i = true then .eff else if inL [8, 10, 11, 23] i = true then .read else .pure) [3, 19, 21] [0, 1, 2, 4, 5, 6, 7, 8, 9, 10, 11, 12, 13, 14, 15, 16, 17, 18] (.nd 3 [] (.nd 19 [20] (.nd 21 [22, 23, 24] .stop .stop) .stop) (.nd 19 [20] (.nd 3 [] (.nd 21 [22, 23, 24] .stop .stop) (.nd 21 [] (.nd 3 [22, 23, 24] .stop (.nd 22 [] (.nd 3 [23, 24] .stop .stop) .stop)) .stop)) .stop)) mixed rfl rfl (by decide +kernel) ?_
            repeat' (first | (with_reducible show AG _ _ _ _ _ _ _ _ _ _; first | exact ag_none | refine ag_stop ?_ | refine ag_nd ?_ ?_) | (show AMid _ _ _ _; first | refine amid_f ?_ | refine amid_g (by first | exact OSub.refl _ | exact .drop (OSub.refl _) | exact .drop (.drop (OSub.refl _))) ?_) | refine gY pk ?_ | (show AL _ _ _ _ _ _ _; first | refine jO tok 0 ?_ | refine jO tok 1 ?_ | refine s_ownIndex tok 1 rfl rfl rfl rfl (by decide) rfl rfl rfl rfl rfl rfl (by omega) (by omega) ?_ | refine s_loadV tok 1 rfl rfl rfl rfl (by decide) rfl rfl rfl rfl mk ?_ | refine jP st ?_ | refine s_build1 tok rfl rfl rfl rfl rfl rfl rfl rfl (fun lv => ?_) | refine s_append1K tok (i + 2) rfl rfl rfl rfl rfl rfl (by decide) rfl gi rfl rfl (by omega) (by omega) (fun w hw => ?_) | refine s_storeV tok 1 rfl rfl rfl rfl rfl rfl rfl (by assumption) rfl mk ?_) | fail)
            all_goals
              repeat (first | refine gA pk ?_)
              refine ⟨b + 1, up1 W i w, by omega, by omega, .sub (by exact subQ) ?_⟩
              rw [← hbs, Int.toNat_natCast, outR_set]
              show OSub _ ((u, OB.box [tabP g, .lit v0, nilA, nilA]) :: (v0, OB.row 100 1 (outR g.nodes.length (up1 W i w))) :: (innO 4 g W (up1 (fun a => if a < i then g.nodes.length else 0) i b)).set i (w, .row 4 1 (bRw g i (b + 1))))
              rw [hfin w]
              exact OSub.refl _
          · rw [decide_eq_true (show (i : Int) ≠ b by omega), Bool.true_and] at htwv
            rw [← htwv] at st
            generalize twv g i b = tw at *
            repeat (first | refine gN pk ?_)
            refine a_regG ((List.range 25).map fun i => if inL [3, 19, 21, 22, 24] i = true then .eff else if inL [8, 10, 11, 23] i = true then .read else .pure) [3, 19, 21] [0, 1, 2, 4, 5, 6, 7, 8, 9, 10, 11, 12, 13, 14, 15, 16, 17, 18] (.nd 3 [] (.nd 19 [20] (.nd 21 [22, 23, 24] .stop .stop) .stop) (.nd 19 [20] (.nd 3 [] (.nd 21 [22, 23, 24] .stop .stop) (.nd 21 [] (.nd 3 [22, 23, 24] .stop (.nd 22 [] (.nd 3 [23, 24] .stop .stop) .stop)) .stop)) .stop)) mixed rfl rfl (by decide +kernel) ?_
            repeat' (first | (with_reducible show AG _ _ _ _ _ _ _ _ _ _; first | exact ag_none | refine ag_stop ?_ | refine ag_nd ?_ ?_) | (show AMid _ _ _ _; first | refine amid_f ?_ | refine amid_g (by first | exact OSub.refl _ | exact .drop (OSub.refl _) | exact .drop (.drop (OSub.refl _))) ?_) | refine gY pk ?_ | (show AL _ _ _ _ _ _ _; first | refine jO tok 0 ?_ | refine jO tok 1 ?_ | refine s_ownIndex tok 1 rfl rfl rfl rfl (by decide) rfl rfl rfl rfl rfl rfl (by omega) (by omega) ?_ | refine s_loadV tok 1 rfl rfl rfl rfl (by decide) rfl rfl rfl rfl mk ?_ | refine jP st ?_ | refine s_build1 tok rfl rfl rfl rfl rfl rfl rfl rfl (fun lv => ?_) | refine s_append1K tok (i + 2) rfl rfl rfl rfl rfl rfl (by decide) rfl gi rfl rfl (by omega) (by omega) (fun w hw => ?_) | refine s_storeV tok 1 rfl rfl rfl rfl rfl rfl rfl (by assumption) rfl mk ?_) | fail)
            all_goals
              repeat (first | refine gA pk ?_)
              refine ⟨b + 1, up1 W i w, by omega, by omega, .sub (by exact subQ) ?_⟩
              rw [← hbs, Int.toNat_natCast, outR_set]
              show OSub _ ((u, OB.box [tabP g, .lit v0, nilA, nilA]) :: (v0, OB.row 100 1 (outR g.nodes.length (up1 W i w))) :: (innO 4 g W (up1 (fun a => if a < i then g.nodes.length else 0) i b)).set i (w, .row 4 1 (bRw g i (b + 1))))
              rw [hfin w]
              exact OSub.refl _
        · obtain rfl : b = g.nodes.length := by omega
          repeat (first | refine gA pk ?_)
          refine ⟨i + 1, W, by omega, by omega, .sub (by exact subQ) ?_⟩
          have eI : innO 4 g W (up1 (fun a => if a < i then g.nodes.length else 0) i g.nodes.length) = innO 4 g W (fun a => if a < i + 1 then g.nodes.length else 0) := innO_congr fun a _ => by
            unfold up1
            by_cases e : a = i
            · subst e; simp
            · by_cases e2 : a < i
              · rw [if_neg e]
                show (if a < i then g.nodes.length else 0) = _
                rw [if_pos e2, if_pos (by omega)]
              · rw [if_neg e]
                show (if a < i then g.nodes.length else 0) = _
                rw [if_neg e2, if_neg (by omega)]
          rw [eI]
          exact OSub.refl _
    · obtain rfl : i = g.nodes.length := by omega
      rw [innO_congr (h := fun _ => g.nodes.length) (fun a ha => if_pos ha)]
      -- all of the table of twins changes no more
      refine a_goto (GoTo.trans (GoTo.perm (L' := (v0, .row 100 1 (outR g.nodes.length W)) :: (innO 4 g W (fun _ => g.nodes.length) ++ [(u, .box [tabP g, .lit v0, nilA, nilA])])) ?_) (GoTo.turn (M := [(v0, .row 100 1 ((List.range g.nodes.length).map fun a => imR (bRw g a g.nodes.length))), (u, .box [tabP g, .lit v0, nilA, nilA])]) ?_)) ?_
      · exact (List.Perm.swap _ _ _).trans (List.Perm.cons _ (List.perm_append_singleton _ _).symm)
      · have := turn_manyM (x := .any) (E := 4) (E' := 100) (v := v0) (M := [(u, .box [tabP g, .lit v0, nilA, nilA])]) (by simp) (vs := (List.range g.nodes.length).map W) (cs := (List.range g.nodes.length).map fun a => bRw g a g.nodes.length) (done := []) (by simp) (fun c hc e he => by
          obtain ⟨j, _, rfl⟩ := List.mem_map.1 hc
          obtain ⟨z, _, rfl⟩ := List.mem_map.1 he
          rfl) (by simp)
        rw [List.nil_append, List.nil_append, List.map_map, List.map_map, manyO_inn W (fun _ => g.nodes.length)] at this
        exact this
      have hcs : ((List.range g.nodes.length).map fun a => imR (bRw g a g.nodes.length)) = ((List.range g.nodes.length).map fun (a : Nat) => [AV.im 1 ((List.range g.nodes.length).map fun (b : Nat) => [AB (decide ((a : Int) ≠ b) && twB (nN g) (tT g) g.nodes.length a b)])]) := rfl
      refine a_goto (GoTo.freeze 0 rfl (st' := lk [(0, tabP g), (4, AI g.nodes.length), (5, .pt u 0 0 0), (19, AI g.nodes.length), (20, AI g.nodes.length)]) (FZS.refl _) [(u, .box (sC g none))] ⟨rfl, ⟨FZ.refl _, FZ.here, FZ.refl _, FZ.refl _, trivial⟩, trivial⟩) ?_
      have hgv : ∀ lv : Value, ACalls Try.prog 70 [.pt u 0 0 0, ints [], .lit lv] [(lv, .row 3 1 [[AI g.nodes.length]]), (u, .box (sC g none))] (fun y M => y = .tup [] ∧ M = [(u, .box (sC g (some (ordG g, codG g))))]) := fun lv =>
        ACalls.give (E := 3) (hfs u) ⟨rfl, FZL.refl _, trivial⟩ ⟨FZ.refl _, FZ.refl _, FZ.here, trivial⟩
      repeat (first | refine gN pk ?_ | (show AL _ _ _ _ _ _ _; first | refine s_build1 tok rfl rfl rfl rfl rfl rfl rfl rfl (fun lv => ?_) | refine s_call (Lc := [(lv, .row 3 1 [[AI g.nodes.length]]), (u, .box (sC g none))]) (Lr := []) rfl rfl rfl rfl rfl (hgv lv) ⟨Sub.refl _, Sub.nil _, Sub.refl _, trivial⟩ (List.Perm.refl _) ?_; rintro _ _ ⟨rfl, rfl⟩))
      refine a_regG ((List.range 10).map fun i => if inL [3, 7] i = true then .read else .pure) [] [0, 1, 2, 3, 4, 5, 6, 7, 8, 9] .stop mixed rfl rfl (by decide +kernel) ?_
      repeat' (first | (with_reducible show AG _ _ _ _ _ _ _ _ _ _; first | exact ag_none | refine ag_stop ?_ | refine ag_nd ?_ ?_) | (show AMid _ _ _ _; first | refine amid_f ?_ | refine amid_g (by first | exact OSub.refl _ | exact .drop (OSub.refl _) | exact .drop (.drop (OSub.refl _))) ?_) | refine gY pk ?_ | (show AL _ _ _ _ _ _ _; first | refine jO tok 0 ?_) | fail)
      repeat (first | refine gA pk ?_)
      refine fin (x := .tup [.im _ _, .im _ _]) (.inr rfl) rfl (Sub.refl _) ⟨rfl, rfl⟩ (OSub.none _)
end Go.Proofs.Ytoaenbfidlgjhaa
