/- Parts of a proof. -/
import Derived.Handy
import Derived.Lib.AppendZerosOnto
import Derived.Lib.Overlaps
import Derived.Laws.Runes
import Derived.Laws.Externs
import Derived.Laws.Cover3
import Derived.WalkKit
import Derived.WalkSpells
import Derived.WalkLawsBesides
import Derived.Deep.Draws
import Derived.Orders
import Derived.Still
import Derived.Sort.AssemblyPlain
import Derived.Laws.Bits64
import Derived.Laws.Bits64b
import Derived.ProofKit
import Derived.WideKeyArgs
import Derived.OpenShut
import Derived.SizedLaws
import Derived.Test.YtimfponihbfimaaGreatP80
set_option linter.unusedVariables false
set_option linter.unusedSimpArgs false
section
namespace Go.Proofs.YtimfponihbfimaaGreat
open Go.Sj Go.Sj.Typ
set_option maxRecDepth 8000
set_option maxHeartbeats 4000000
abbrev SN : AV := .lit (.slice none 0 0)
def rawA (i : Nat) (y : Int) : AV := if y % 4 = 1 then .im 4 [[AS (nmS lower i), AI (-3), AI (3 + y / 4 % 9), SN]] else if y % 4 = 2 then .im 4 [[AS (nmS lower i), AI 0, AI 1, .im 1 [[AS offS], [AS onS]]]] else SN
def rawN (i : Nat) (c : Int × Int) : List AV := [AS (nmS upper i), AI (c.1 % (i + 1) - 1), AB (decide (c.1 / 16 % 4 = 3)), rawA i c.2]
def rawNs (l : List (Int × Int)) (n : Nat) : List (List AV) := (List.range n).map fun i => rawN i (codeAt l i)
theorem rawA_sub (i : Nat) (y : Int) : Sub (rawA i y) (attrsA (madeA i y)) := by
  unfold rawA madeA
  split
  · exact Sub.im ⟨⟨Sub.refl _, Sub.refl _, Sub.refl _, Sub.nil 1, trivial⟩, trivial⟩
  · split
    · exact Sub.refl _
    · exact Sub.nil 4
theorem rawNs_sub (l : List (Int × Int)) (n : Nat) : SubLL (rawNs l n) ((madeNs l n).map cNod) := by
  unfold rawNs madeNs
  rw [List.map_map]
  exact subLL_map (f := fun i => rawN i (codeAt l i)) (g := fun i => cNod (madeN i (codeAt l i).1 (codeAt l i).2)) (fun i => by unfold rawN cNod madeN; exact ⟨Sub.refl _, Sub.refl _, Sub.refl _, rawA_sub _ _, trivial⟩) _
theorem rawNs_succ (l : List (Int × Int)) (n : Nat) : rawNs l (n + 1) = rawNs l n ++ [rawN n (codeAt l n)] := by simp [rawNs, List.range_succ]
theorem madeEs_succ (n : Nat) (l : List (Int × Int)) (m : Nat) : madeEs n l (m + 1) = madeEs n l m ++ [madeE n m (codeAt l m)] := by simp [madeEs, List.range_succ]
theorem codeAt_some {l : List (Int × Int)} {i : Nat} {c : Int × Int} (h : l[i]? = some c) : codeAt l i = c := by simp [codeAt, List.getD_eq_getElem?_getD, h]
theorem codeAt_none {l : List (Int × Int)} {i : Nat} (h : l.length ≤ i) : codeAt l i = (0, 0) := by simp [codeAt, List.getD_eq_getElem?_getD, h]
theorem rawA_cell (i : Nat) (y : Int) : (rawA i y).cell = true := by
  unfold rawA
  split
  · rfl
  · split <;> rfl
theorem raw4_cell (a : ByteArray) (b : Int) (c : Bool) (i : Nat) (y : Int) : ([AS a, AI b, AB c, rawA i y] : List AV).all AV.cell = true := by
  simp only [List.all_cons, List.all_nil, rawA_cell, Bool.and_true]
  rfl
theorem Made_spec (nodes edges : List (Int × Int)) (hn : Cd nodes) (he : Cd edges) (hnl : nodes.length ≤ 140737488355328) (hel : edges.length ≤ 140737488355328) : Pure Tryz.prog 55 [.im 2 (nodes.map c82), .im 2 (edges.map c82)] (tysA (madeT nodes edges)) := by
  have lnn : (nodes.map c82).length = nodes.length := by simp
  have len : (edges.map c82).length = edges.length := by simp
  have hmn := madeNum_rng nodes
  have hrn := fun i => codeAt_rng hn i
  have hre := fun i => codeAt_rng he i
  refine a_enterC Tryz.func55 (by kernel_rfl) rfl Tryz.ntmps55 rfl (tok _ _ rfl) (by simp) ?_
  refine a_seq ?_
  refine a_reg ?_
  repeat (first | refine gZ pk ?_ | (show AL _ _ _ _ _ _ _; first | refine jL tok (fun u4 => ?_)))
  refine a_reg ?_
  repeat (first | refine gZ pk ?_ | (show AL _ _ _ _ _ _ _; first | refine jL tok (fun u5 => ?_)))
  refine a_reg ?_
  repeat (first | refine gZ pk ?_)
  refine a_loop2 (fun (i : Nat) (v : Value) => [(0, .im 2 (nodes.map c82)), (1, .im 2 (edges.map c82)), (4, .pt u4 0 0 0), (5, .pt u5 0 0 0), (6, AI i)]) (fun i v => [(v, .row 138 4 (rawNs nodes i)), (u5, .box [.lit v, SN]), (u4, .box [SN, SN])]) (fun i v => i ≤ zmu nodes) (fun i v => zmu nodes - i) 0 (.slice none 0 0) (Nat.zero_le _) ?_ (.free (OSub.refl _)) ?_
  · exact subQ
  · intro i v hi
    by_cases hlt : i < zmu nodes
    · have hgo : i = 0 ∨ (i < nodes.length ∧ i < 6) := by unfold zmu at hlt; split at hlt <;> omega
      have hi6 : i < 6 := by omega
      have hcr := hrn i
      have hsucc := rawNs_succ nodes i
      have lr : (rawNs nodes i).length = i := by simp [rawNs]
      obtain ⟨x, y, hcode⟩ : ∃ x y, codeAt nodes i = (x, y) := ⟨_, _, rfl⟩
      rw [hcode] at hcr hsucc
      simp only at hcr
      have hm1 := Int.emod_nonneg x (b := (i : Int) + 1) (by omega)
      have hm2 := Int.emod_lt_of_pos x (b := (i : Int) + 1) (by omega)
      refine a_mid (fun st L => GoTo 124 st L (lk [(0, .im 2 (nodes.map c82)), (1, .im 2 (edges.map c82)), (4, .pt u4 0 0 0), (5, .pt u5 0 0 0), (6, AI i)]) [(v, .row 138 4 (rawNs nodes i)), (u5, .box [.lit v, SN]), (u4, .box [SN, SN])]) ?_ (fun st L h => zgt h ?_)
      · rcases Nat.eq_zero_or_pos i with h0 | h0
        all_goals
          repeat (first | refine gA pk ?_)
          exact GoTo.sub (by exact subQ) (OSub.refl _)
      · refine a_seq ?_
        refine a_block ?_
        refine a_seq ?_
        refine a_reg ?_
        repeat (first | refine gY pk ?_ | (show AL _ _ _ _ _ _ _; first | refine s_zeroArr tok rfl rfl rfl rfl rfl rfl ?_ | refine jL tok (fun u7 => ?_) | refine jS tok 0 ?_))
        refine a_mid (fun st L => GoTo 124 st L (lk [(0, .im 2 (nodes.map c82)), (1, .im 2 (edges.map c82)), (4, .pt u4 0 0 0), (5, .pt u5 0 0 0), (6, AI i), (7, .pt u7 0 0 0)]) [(u7, .box [A8 x, A8 y]), (v, .row 138 4 (rawNs nodes i)), (u5, .box [.lit v, SN]), (u4, .box [SN, SN])]) ?_ (fun st L h => zgt h ?_)
        · by_cases hA : i < nodes.length
          · have hx := List.getElem?_eq_getElem hA
            rw [codeAt_some hx] at hcode
            rw [hcode] at hx
            have xk : (nodes.map c82)[(i : Int).toNat]? = some [A8 x, A8 y] := zmp (f := c82) hx
            repeat (first | refine gA pk ?_ | (show AL _ _ _ _ _ _ _; first | refine jX tok xk ?_ | refine jS tok 0 ?_))
            exact GoTo.sub (by exact subQ) (OSub.refl _)
          · rw [codeAt_none (by omega)] at hcode
            obtain ⟨rfl, rfl⟩ : x = 0 ∧ y = 0 := by cases hcode; exact ⟨rfl, rfl⟩
            repeat (first | refine gA pk ?_)
            exact GoTo.sub (by exact subQ) (OSub.refl _)
        · refine zfb 0 7 rfl rfl ?_
          refine a_seq ?_
          refine a_regP mixed (by decide +kernel) ?_
          repeat (first | refine gY pk ?_ | (show AL _ _ _ _ _ _ _; first | refine jL tok (fun u8 => ?_) | refine jS tok 0 ?_ | refine s_strSubI tok i (i + 1) rfl rfl rfl rfl rfl rfl (by exact ⟨_, _, rfl, rfl⟩) (by exact ⟨_, _, rfl, by omega⟩) (by omega) (by first | (show i + 1 ≤ 6; omega) | (show i + 1 ≤ 5; omega)) ?_ | refine s_arrIp tok rfl rfl rfl rfl rfl rfl rfl rfl (by decide) (by decide) ?_ | refine zcv tok rfl rfl rfl rfl rfl rfl rfl (IntWalk.i64_in _ (by omega)) ?_ | refine s_rem rfl rfl rfl rfl rfl rfl (by omega) (by omega) ?_ | refine s_quo rfl rfl rfl rfl rfl rfl (by omega) (by omega) (IntWalk.u8_in _ (by omega)) ?_ | refine s_eqD rfl rfl rfl rfl rfl rfl ?_))
          refine a_mid (fun st L => GoTo 124 st L (lk [(0, .im 2 (nodes.map c82)), (1, .im 2 (edges.map c82)), (4, .pt u4 0 0 0), (5, .pt u5 0 0 0), (6, AI i), (8, .pt u8 0 0 0)]) [(u8, .box [AS (nmS upper i), AI (x % (i + 1) - 1), AB (decide (x / 16 % 4 = 3)), rawA i y]), (v, .row 138 4 (rawNs nodes i)), (u5, .box [.lit v, SN]), (u4, .box [SN, SN])]) ?_ (fun st L h => zgt h ?_)
          · by_cases h1 : y % 4 = 1
            · rw [show rawA i y = .im 4 [[AS (nmS lower i), AI (-3), AI (3 + y / 4 % 9), SN]] by simp [rawA, h1]]
              repeat (first | refine gA pk ?_ | (show AL _ _ _ _ _ _ _; first | refine s_arrIp tok rfl rfl rfl rfl rfl rfl rfl rfl (by decide) (by decide) ?_ | refine zcv tok rfl rfl rfl rfl rfl rfl rfl (IntWalk.i64_in _ (by omega)) ?_ | refine s_rem rfl rfl rfl rfl rfl rfl (by omega) (by omega) ?_ | refine s_quo rfl rfl rfl rfl rfl rfl (by omega) (by omega) (IntWalk.u8_in _ (by omega)) ?_ | refine s_strSubI tok i (i + 1) rfl rfl rfl rfl rfl rfl (by exact ⟨_, _, rfl, rfl⟩) (by exact ⟨_, _, rfl, by omega⟩) (by omega) (by first | (show i + 1 ≤ 6; omega) | (show i + 1 ≤ 5; omega)) ?_ | refine s_frzNow 0 rfl rfl rfl (s_build tok rfl rfl rfl rfl rfl rfl rfl rfl (by decide) (by decide) (fun v => AL.nil ⟨v, rfl, rfl, rfl⟩)) ?_ | refine jS tok 0 ?_))
              exact GoTo.sub (by exact subQ) (OSub.refl _)
            · by_cases h2 : y % 4 = 2
              · rw [show rawA i y = .im 4 [[AS (nmS lower i), AI 0, AI 1, .im 1 [[AS offS], [AS onS]]]] by simp [rawA, h2]]
                repeat (first | refine gA pk ?_ | (show AL _ _ _ _ _ _ _; first | refine s_arrIp tok rfl rfl rfl rfl rfl rfl rfl rfl (by decide) (by decide) ?_ | refine zcv tok rfl rfl rfl rfl rfl rfl rfl (IntWalk.i64_in _ (by omega)) ?_ | refine s_rem rfl rfl rfl rfl rfl rfl (by omega) (by omega) ?_ | refine s_quo rfl rfl rfl rfl rfl rfl (by omega) (by omega) (IntWalk.u8_in _ (by omega)) ?_ | refine s_strSubI tok i (i + 1) rfl rfl rfl rfl rfl rfl (by exact ⟨_, _, rfl, rfl⟩) (by exact ⟨_, _, rfl, by omega⟩) (by omega) (by first | (show i + 1 ≤ 6; omega) | (show i + 1 ≤ 5; omega)) ?_ | refine s_frzNow 0 rfl rfl rfl (s_build tok rfl rfl rfl rfl rfl rfl rfl rfl (by decide) (by decide) (fun v => AL.nil ⟨v, rfl, rfl, rfl⟩)) ?_ | refine jS tok 0 ?_))
                exact GoTo.sub (by exact subQ) (OSub.refl _)
              · rw [show rawA i y = SN by simp [rawA, h1, h2]]
                repeat (first | refine gA pk ?_ | (show AL _ _ _ _ _ _ _; first | refine s_arrIp tok rfl rfl rfl rfl rfl rfl rfl rfl (by decide) (by decide) ?_ | refine zcv tok rfl rfl rfl rfl rfl rfl rfl (IntWalk.i64_in _ (by omega)) ?_ | refine s_rem rfl rfl rfl rfl rfl rfl (by omega) (by omega) ?_ | refine s_quo rfl rfl rfl rfl rfl rfl (by omega) (by omega) (IntWalk.u8_in _ (by omega)) ?_ | refine s_strSubI tok i (i + 1) rfl rfl rfl rfl rfl rfl (by exact ⟨_, _, rfl, rfl⟩) (by exact ⟨_, _, rfl, by omega⟩) (by omega) (by first | (show i + 1 ≤ 6; omega) | (show i + 1 ≤ 5; omega)) ?_ | refine s_frzNow 0 rfl rfl rfl (s_build tok rfl rfl rfl rfl rfl rfl rfl rfl (by decide) (by decide) (fun v => AL.nil ⟨v, rfl, rfl, rfl⟩)) ?_ | refine jS tok 0 ?_))
                exact GoTo.sub (by exact subQ) (OSub.refl _)
          · have hr : rawN i (x, y) = [AS (nmS upper i), AI (x % (i + 1) - 1), AB (decide (x / 16 % 4 = 3)), rawA i y] := rfl
            repeat (first | refine gA pk ?_ | (show AL _ _ _ _ _ _ _; first | refine jO tok 0 ?_ | refine jO tok 2 ?_))
            refine zba tok rfl rfl rfl rfl rfl rfl rfl rfl (by decide) (fun w => ?_)
            refine zak tok 1 rfl rfl rfl rfl rfl rfl (by decide) rfl rfl rfl (raw4_cell _ _ _ _ _) (by omega) (by omega) (fun v' hv => ?_)
            repeat (first | refine gA pk ?_ | (show AL _ _ _ _ _ _ _; first | refine s_store (a := .lit v') tok 2 rfl rfl rfl rfl rfl rfl hv rfl (by decide) rfl rfl rfl (Nat.le_of_ble_eq_true rfl) ?_ | refine s_store (a := .lit v') tok 3 rfl rfl rfl rfl rfl rfl hv rfl (by decide) rfl rfl rfl (Nat.le_of_ble_eq_true rfl) ?_))
            refine ⟨i + 1, v', by omega, by omega, by exact subQ, ?_⟩
            rw [hsucc, hr]
            first | exact .drop (.drop (OSub.refl _)) | exact .drop (OSub.refl _)
    · obtain rfl : i = zmu nodes := by omega
      have hex : nodes.length ≤ zmu nodes ∨ 6 ≤ zmu nodes := by unfold zmu; split <;> omega
      refine AWp.mono (Q := fun e st L => e = .exit 0 ∧ GoTo 124 st L (lk [(1, .im 2 (edges.map c82)), (4, .pt u4 0 0 0), (5, .pt u5 0 0 0)]) [(v, .row 138 4 (rawNs nodes (zmu nodes))), (u5, .box [.lit v, SN]), (u4, .box [SN, SN])]) ?_ (fun e st L h => ?_)
      · by_cases hA : zmu nodes < nodes.length
        all_goals
          repeat (first | refine gA pk ?_)
          exact ⟨rfl, GoTo.sub (by exact subQ) (OSub.refl _)⟩
      · obtain ⟨rfl, h⟩ := h
        refine zgt h ?_
        repeat (first | refine gA pk ?_)
        refine a_loop2 (fun (i : Nat) (w : Value) => [(1, .im 2 (edges.map c82)), (4, .pt u4 0 0 0), (5, .pt u5 0 0 0), (10, AI i)]) (fun i w => [(w, .row 140 7 ((madeEs (zmu nodes) edges i).map cEdg)), (v, .row 138 4 (rawNs nodes (zmu nodes))), (u5, .box [.lit v, .lit w]), (u4, .box [SN, SN])]) (fun i w => i ≤ min 5 edges.length) (fun i w => min 5 edges.length - i) 0 (.slice none 0 0) (Nat.zero_le _) ?_ (.free (OSub.refl _)) ?_
        · exact subQ
        · intro i w hi
          by_cases hlt : i < min 5 edges.length
          · have hx := List.getElem?_eq_getElem (l := edges) (i := i) (by omega)
            have hcr := hre i
            rw [codeAt_some hx] at hcr
            have hsucc := madeEs_succ (zmu nodes) edges i
            rw [codeAt_some hx] at hsucc
            generalize edges[i] = c at *
            obtain ⟨x, y⟩ := c
            simp only at hcr
            have xk : (edges.map c82)[(i : Int).toNat]? = some [A8 x, A8 y] := zmp (f := c82) hx
            have lr : (rawNs nodes (zmu nodes)).length = zmu nodes := by simp [rawNs]
            have le' : ((madeEs (zmu nodes) edges i).map cEdg).length = i := by simp [madeEs]
            have a1 := Int.emod_nonneg x (b := (zmu nodes : Int)) (by omega)
            have a2 := Int.emod_lt_of_pos x (b := (zmu nodes : Int)) (by omega)
            repeat (first | refine gN pk ?_ | (show AL _ _ _ _ _ _ _; first | refine jO tok 2 ?_ | refine zol tok 1 rfl rfl rfl rfl (by decide) rfl rfl rfl ?_))
            rw [lr]
            refine a_regTK (ks := (List.range 27).map fun i => if i = 1 ∨ i = 23 ∨ i = 24 ∨ i = 26 then .eff else .pure) (.br [0, 2, 3, 4, 5, 6, 7, 8, 9, 10, 11, 12, 13, 14, 15, 16, 17, 18, 19, 20, 21, 22] (.seg [1, 23, 24, 25, 26]) (.seg [23, 1, 24, 25, 26])) mixed rfl rfl (by decide +kernel) (atk_br ?_)
            have b1 := Int.emod_nonneg y (b := (zmu nodes : Int)) (by omega)
            have b2 := Int.emod_lt_of_pos y (b := (zmu nodes : Int)) (by omega)
            have he' : cEdg (madeE (zmu nodes) i (x, y)) = [AS (nmS edgeL i), AI (x % (zmu nodes : Int)), AI (y % (zmu nodes : Int)), AI 0, AI (-1), AI 0, AI (-1)] := rfl
            repeat (first | refine gY pk ?_ | (show AL _ _ _ _ _ _ _; first | refine jX tok xk ?_ | refine s_arrIp tok rfl rfl rfl rfl rfl rfl rfl rfl (by decide) (by decide) ?_ | refine zcv tok rfl rfl rfl rfl rfl rfl rfl (IntWalk.i64_in _ (by omega)) ?_ | refine s_rem rfl rfl rfl rfl rfl rfl (by omega) (by omega) ?_ | refine s_strSubI tok i (i + 1) rfl rfl rfl rfl rfl rfl (by exact ⟨_, _, rfl, rfl⟩) (by exact ⟨_, _, rfl, by omega⟩) (by omega) (by first | (show i + 1 ≤ 6; omega) | (show i + 1 ≤ 5; omega)) ?_))
            refine ⟨atk_seg ?_, atk_seg ?_⟩
            · repeat (first | refine gY pk ?_ | (show AL _ _ _ _ _ _ _; first | refine jO tok 2 ?_))
              refine zba tok rfl rfl rfl rfl rfl rfl rfl rfl (by decide) (fun u => ?_)
              refine zak tok 0 rfl rfl rfl rfl rfl rfl (by decide) rfl rfl rfl rfl (by omega) (by omega) (fun v' hv => ?_)
              repeat (first | refine gA pk ?_ | (show AL _ _ _ _ _ _ _; first | refine s_store (a := .lit v') tok 2 rfl rfl rfl rfl rfl rfl hv rfl (by decide) rfl rfl rfl (Nat.le_of_ble_eq_true rfl) ?_))
              refine ⟨i + 1, v', by omega, by omega, by exact subQ, ?_⟩
              rw [hsucc, List.map_append, List.map_cons, List.map_nil, he']
              exact OSub.refl _
            · refine zba tok rfl rfl rfl rfl rfl rfl rfl rfl (by decide) (fun u => ?_)
              repeat (first | refine gY pk ?_ | (show AL _ _ _ _ _ _ _; first | refine jO tok 3 ?_))
              refine zak tok 0 rfl rfl rfl rfl rfl rfl (by decide) rfl rfl rfl rfl (by omega) (by omega) (fun v' hv => ?_)
              repeat (first | refine gA pk ?_ | (show AL _ _ _ _ _ _ _; first | refine s_store (a := .lit v') tok 2 rfl rfl rfl rfl rfl rfl hv rfl (by decide) rfl rfl rfl (Nat.le_of_ble_eq_true rfl) ?_))
              refine ⟨i + 1, v', by omega, by omega, by exact subQ, ?_⟩
              rw [hsucc, List.map_append, List.map_cons, List.map_nil, he']
              exact OSub.refl _
          · obtain rfl : i = min 5 edges.length := by omega
            refine AWp.mono (Q := fun e st L => e = .exit 3 ∧ GoTo 124 st L (lk [(4, .pt u4 0 0 0), (5, .pt u5 0 0 0)]) [(w, .row 140 7 ((madeEs (zmu nodes) edges (min 5 edges.length)).map cEdg)), (v, .row 138 4 (rawNs nodes (zmu nodes))), (u5, .box [.lit v, .lit w]), (u4, .box [SN, SN])]) ?_ (fun e st L h => ?_)
            · by_cases hA : min 5 edges.length < edges.length
              all_goals
                repeat (first | refine gA pk ?_)
                exact ⟨rfl, GoTo.sub (by exact subQ) (OSub.refl _)⟩
            · obtain ⟨rfl, h⟩ := h
              refine zgt h ?_
              refine a_know 0 rfl (fun hw => ?_)
              refine a_know 1 rfl (fun hv => ?_)
              repeat (first | refine gV pk ?_ | (show AL _ _ _ _ _ _ _; first | refine jO tok 2 ?_ | refine s_store (a := .agg [.lit v, .lit w]) tok 3 rfl rfl rfl rfl rfl rfl (by simp [AV.storable, AV.cell, hv, hw]) rfl (by decide) rfl rfl rfl (Nat.le_of_ble_eq_true rfl) ?_))
              refine a_ownSub [(w, .row 140 7 ((madeEs (zmu nodes) edges (min 5 edges.length)).map cEdg)), (v, .row 138 4 (rawNs nodes (zmu nodes))), (u4, .box [.lit v, .lit w])] (.keep (.keep (.drop (.keep .nil)))) ?_
              refine a_freeze 0 rfl _ (FZS.refl _) [(v, .row 138 4 (rawNs nodes (zmu nodes))), (u4, .box [.lit v, .im 7 ((madeEs (zmu nodes) edges (min 5 edges.length)).map cEdg)])] ⟨rfl, rfl, rfl, rfl, by simp [rawNs, rawN], FZL.refl _, rfl, ⟨FZ.refl _, FZ.here, trivial⟩, trivial⟩ ?_
              refine a_freeze 0 rfl _ (FZS.refl _) [(u4, .box [.im 4 (rawNs nodes (zmu nodes)), .im 7 ((madeEs (zmu nodes) edges (min 5 edges.length)).map cEdg)])] ⟨rfl, ⟨FZ.here, FZ.refl _, trivial⟩, trivial⟩ ?_
              refine zfb 0 4 rfl rfl ?_
              refine a_ret ?_
              refine ⟨.inr rfl, _, .agg [.im 4 (rawNs nodes (zmu nodes)), .im 7 ((madeEs (zmu nodes) edges (min 5 edges.length)).map cEdg)], tysA (madeT nodes edges), [], rfl, rfl, Turn.of (Sub.agg (m := [nodsA (madeNs nodes (zmu nodes)), edgsA (madeEs (zmu nodes) edges (min 5 edges.length))]) ⟨Sub.im (rawNs_sub _ _), Sub.refl _, trivial⟩) (OSub.refl _), rfl, rfl⟩
end Go.Proofs.YtimfponihbfimaaGreat
end
section
namespace Go.Proofs.YtimfponihbfimaaGreat
open Go.Sj Go.Sj.Typ Go.Sj.Sta Go.Sj.Inc Go.Sj.Can Go.Sj.Pln
set_option maxRecDepth 8000
set_option maxHeartbeats 16000000
section
variable {P : Program} {N : Nat} {ops : List Oper} {Q : St → Own → Prop} {L : Own} {rest : List (Oper × Kd)} {l : List (Nat × AV)} {k : Kd} {q : Nat}
theorem s_indexJ (j : Nat) {tt : List (TypeId × TD)} (ok : TOK P tt) {o : Oper} {T : TypeId} {x y : Operand} {E : TypeId} {s1 b1 : Nat} {z1 : List Value} {d : TD} {sz : Nat}
    {es : List (List AV)} {e : List AV} {kk : IntKind} {i : Int} (ho : o.op = .indexAddr T x y) (hdst : o.dst = some q) (hd : Nat.blt q N = true) (hg : guardA ops o (lk l) = some true)
    (hT : lkT tt T = some ⟨.slice E, s1, b1, z1⟩) (hE : lkT tt E = some d) (hx : ev (lk l) x = .im sz es) (hs : sz = d.size) (hy : ev (lk l) y = .lit (.int kk i)) (hj : i = (j : Int)) (he : es[j]? = some e)
    (n : AL P N ops Q rest (lk ((q, .ip e) :: l)) L) : AL P N ops Q ((o, k) :: rest) (lk l) L :=
  s_index ok ho hdst hd hg hT hE hx hs hy (by omega) (by rw [hj]; exact he) n
end
structure CsF (t : Tys) (p g : Gr) : Prop where
  sm : Small t
  tp : TV t p
  tg : TV t g
  pn : p.nodes.length ≤ 3
  pe : p.edges.length ≤ 3
  gn : g.nodes.length ≤ 7
  ge : g.edges.length ≤ 10
theorem lmade_spec (d : DrP) (hd : OkDP d) : Go.Sj.ACalls Tryz.prog 18 [drPA d] [] (fun y L => (y = .tup [.agg [nilS, nilS, nilS, nilS, nilS, nilS], AB false] ∨ ∃ (t : Tys) (p g : Gr), y = .tup [cseA t p g, AB true] ∧ CsF t p g) ∧ L = []) := by
  obtain ⟨dn, de, ⟨pn, pe⟩, ⟨gn, ge⟩⟩ := d
  obtain ⟨h1, h2, h3, h4, h5, h6⟩ := hd
  simp only at h1 h2 h3 h4 h5 h6
  have sT := Made_spec dn de h1 h2 h3 h4
  have hT := tyG_madeP dn de
  generalize madeT dn de = t at *
  have sP := made17S_spec t hT ⟨pn, pe⟩ h5 true
  have sG := made17S_spec t hT ⟨gn, ge⟩ h6 false
  have b1 := h5.nl
  have b2 := h5.gl
  have b3 := h6.nl
  have b4 := h6.gl
  simp only at b1 b2 b3 b4 sP sG
  have l1 : (dn.map c82).length = dn.length := by simp
  have l2 : (de.map c82).length = de.length := by simp
  have l3 : (pn.map c8).length = pn.length := by simp
  have l4 : (pe.map c83).length = pe.length := by simp
  have l5 : (gn.map c8).length = gn.length := by simp
  have l6 : (ge.map c83).length = ge.length := by simp
  have htv : ∀ g : Gr, g.nodes.length ≤ 8 → g.edges.length ≤ 10 → (∀ x ∈ g.nodes, 0 ≤ x ∧ x < t.nodes.length) → EdS t.nodes t.edges g.nodes g.edges → TV t g := fun g a b c d => edS_TV hT a b c d
  have hsm := hT.sm
  clear hT
  change Go.Sj.ACalls _ _ [.agg [.im 2 (dn.map c82), .im 2 (de.map c82), bytesA pn, .im 3 (pe.map c83), bytesA gn, .im 3 (ge.map c83)]] _ _
  change Go.Sj.ACalls _ _ [tysA t, .agg [bytesA pn, .im 3 (pe.map c83)], AB true] _ _ at sP
  change Go.Sj.ACalls _ _ [tysA t, .agg [bytesA gn, .im 3 (ge.map c83)], AB false] _ _ at sG
  have hcs : (dn.length ≤ 8 ∧ de.length ≤ 8 ∧ pn.length ≤ 3 ∧ pe.length ≤ 3 ∧ gn.length ≤ 7 ∧ ge.length ≤ 10) ∨ 8 < dn.length ∨ (dn.length ≤ 8 ∧ 8 < de.length) ∨ (dn.length ≤ 8 ∧ de.length ≤ 8 ∧ 3 < pn.length) ∨ (dn.length ≤ 8 ∧ de.length ≤ 8 ∧ pn.length ≤ 3 ∧ 3 < pe.length) ∨ (dn.length ≤ 8 ∧ de.length ≤ 8 ∧ pn.length ≤ 3 ∧ pe.length ≤ 3 ∧ 7 < gn.length) ∨ (dn.length ≤ 8 ∧ de.length ≤ 8 ∧ pn.length ≤ 3 ∧ pe.length ≤ 3 ∧ gn.length ≤ 7 ∧ 10 < ge.length) := by omega
  rcases hcs with ⟨k1, k2, k3, k4, k5, k6⟩ | hc
  · obtain ⟨tn, te⟩ := t
    change Pure _ _ _ (.agg [nodsA tn, edgsA te]) at sT
    change Go.Sj.ACalls _ _ [.agg [nodsA tn, edgsA te], _, _] _ _ at sP
    change Go.Sj.ACalls _ _ [.agg [nodsA tn, edgsA te], _, _] _ _ at sG
    refine a_enterM (rs := [.cell 2 31, .tmp 3]) tok Tryz.func18 (by kernel_rfl) rfl Tryz.ntmps18 rfl (by decide) (by simp) ?_
    refine a_seq ?_
    refine a_reg ?_
    repeat (first | refine gZ pk ?_ | (show AL _ _ _ _ _ _ _; first | refine jB (fun u => ?_) | refine jL tok (fun U2 => ?_)))
    refine zfb 1 1 rfl rfl ?_
    repeat (first | refine gN pk ?_ | (show AL _ _ _ _ _ _ _; first | refine jP sT ?_ | refine jL tok (fun ut => ?_) | refine jS tok 0 ?_))
    refine zfb 0 4 rfl rfl ?_
    refine zrg ((List.range 12).map fun i => if inL [4, 8, 10] i = true then .eff else if inL [0, 1, 3, 5, 7] i = true then .read else .pure) [4, 8] [0, 1, 2, 3, 5, 6, 7] (.nd 4 [] (.nd 8 [9, 10, 11] .stop .stop) .stop) mixed rfl rfl (by decide +kernel) ?_
    repeat' (first | (with_reducible show AG _ _ _ _ _ _ _ _ _ _; first | exact zgn | refine zgs ?_ | refine znd ?_ ?_) | (show AMid _ _ _ _; first | refine zmf ?_ | refine zmg (by first | exact OSub.refl _ | exact .drop (OSub.refl _) | exact .drop (.drop (OSub.refl _))) ?_) | refine gY pk ?_ | (show AL _ _ _ _ _ _ _; first | refine zsc (Lc := []) rfl rfl rfl rfl rfl sP (SubL.of_eq rfl) (List.Perm.refl _) ?_; rintro _ _ ⟨⟨⟨Pn, Pe⟩, rfl, ⟨p1, p2⟩, p3, p4, p5, p6⟩, rfl⟩ | refine zsc (Lc := []) rfl rfl rfl rfl rfl sG (SubL.of_eq rfl) (List.Perm.refl _) ?_; rintro _ _ ⟨⟨⟨Gn, Ge⟩, rfl, ⟨q1, q2⟩, q3, q4, q5, q6⟩, rfl⟩ | refine jS tok 0 ?_) | fail)
    repeat (first | refine gV pk ?_ | (show AL _ _ _ _ _ _ _; first | refine jS tok 0 ?_))
    refine zfb 0 2 rfl rfl ?_
    refine a_ret ?_
    exact ⟨.inr rfl, _, _, [], rfl, Turn.of (Sub.refl _) (OSub.none _), .inr ⟨⟨tn, te⟩, ⟨Pn, Pe⟩, ⟨Gn, Ge⟩, rfl, hsm, htv _ p1 p3 p5 p6, htv _ q1 q3 q5 q6, Nat.le_trans p2 k3, Nat.le_trans p4 k4, Nat.le_trans q2 k5, q3⟩, rfl⟩
  · rcases hc with k1 | ⟨k1, k2⟩ | ⟨k1, k2, k3⟩ | ⟨k1, k2, k3, k4⟩ | ⟨k1, k2, k3, k4, k5⟩ | ⟨k1, k2, k3, k4, k5, k6⟩
    all_goals
      refine a_enterM (rs := [.cell 2 31, .tmp 3]) tok Tryz.func18 (by kernel_rfl) rfl Tryz.ntmps18 rfl (by decide) (by simp) ?_
      refine a_seq ?_
      refine a_reg ?_
      repeat (first | refine gZ pk ?_ | (show AL _ _ _ _ _ _ _; first | refine jB (fun u => ?_) | refine jL tok (fun U2 => ?_)))
      refine zfb 1 1 rfl rfl ?_
      repeat (first | refine gV pk ?_ | (show AL _ _ _ _ _ _ _; first | refine jS tok 0 ?_))
      refine zfb 0 2 rfl rfl ?_
      refine a_ret ?_
      exact ⟨.inr rfl, _, _, [], rfl, Turn.of (Sub.refl _) (OSub.none _), .inl rfl, rfl⟩
theorem csf_plan {t : Tys} {p g : Gr} (h : CsF t p g) (codes : List Int) : planE p (kn0 p) (mkP p (chF codes) 200 0 (kn0 p)) = 0 ∧ (mkP p (chF codes) 200 0 (kn0 p)).length ≤ 6 := by
  have h1 := h.pn
  have h2 := h.pe
  have hv := mkP_valid h.tp.graph (chF codes) 200 0 (kn0 p) (kn0_ok p) (by rw [unk_0]; omega)
  have hl := plan_len _ (kn0 p) (kn0_ok p) hv
  rw [unk_0] at hl
  exact ⟨hv, by omega⟩
theorem csf_ok {t : Tys} {p g : Gr} (h : CsF t p g) : OkG p ∧ OkG g := ⟨⟨by have := h.pn; omega, by have := h.pe; omega⟩, ⟨by have := h.gn; omega, by have := h.ge; omega⟩⟩
theorem PlanAgrees_spec (d : DrP) (hd : OkDP d) (codes : List Int) (hc0 : (∀ x ∈ codes, 0 ≤ x ∧ x ≤ 255) ∧ codes.length ≤ 140737488355328) (inj : Bool) : Pure Tryz.prog 4 [drPA d, bytesA codes, AB inj] (AB true) := by
  have hc := hc0.1
  have sa := awakeP_spec
  have s1 := lmade_spec d hd
  have lc : (codes.map c8).length = codes.length := by simp
  obtain ⟨dn, de, ⟨dpn, dpe⟩, ⟨dgn, dge⟩⟩ := d
  change Go.Sj.ACalls _ _ [.agg [.im 2 (dn.map c82), .im 2 (de.map c82), bytesA dpn, .im 3 (dpe.map c83), bytesA dgn, .im 3 (dge.map c83)]] _ _ at s1
  change Pure _ _ [.agg [.im 2 (dn.map c82), .im 2 (de.map c82), bytesA dpn, .im 3 (dpe.map c83), bytesA dgn, .im 3 (dge.map c83)], bytesA codes, AB inj] _
  refine zen Tryz.func4 (by kernel_rfl) rfl Tryz.ntmps4 rfl (by simp) ?_; refine a_seq ?_; refine a_reg ?_; (repeat (first | refine gZ pk ?_ | (show AL _ _ _ _ _ _ _; first | refine jB (fun u => ?_)))); refine zfb 0 3 rfl rfl ?_
  repeat (first | refine gN pk ?_)
  refine zsc (Lc := []) rfl rfl rfl rfl rfl s1 (SubL.of_eq rfl) (List.Perm.refl _) ?_
  rintro _ _ ⟨rfl | ⟨t, p, g, rfl, hF⟩, rfl⟩
  · repeat (first | refine gA pk ?_ | (show AL _ _ _ _ _ _ _; first | refine jL tok (fun uc => ?_) | refine jS tok 0 ?_ | refine jP sa ?_))
    refine finQ ?_
    exact ⟨rfl, rfl⟩
  obtain ⟨hO1, hO2⟩ := csf_ok hF
  by_cases hcl : codes.length ≤ 20
  rotate_left
  · clear hF
    obtain ⟨tn, te⟩ := t
    obtain ⟨pn, pe⟩ := p
    obtain ⟨gn, ge⟩ := g
    repeat (first | refine gA pk ?_ | (show AL _ _ _ _ _ _ _; first | refine jL tok (fun uc => ?_) | refine jS tok 0 ?_ | refine jP sa ?_))
    refine finQ ?_
    exact ⟨rfl, rfl⟩
  obtain ⟨hpl, hml⟩ := csf_plan hF codes
  have hv := tv_valid hF.tp hF.tg
  have hpn := hF.pn
  have hpe := hF.pe
  have s2 := gmade_spec p hF.tp.graph codes (by omega) hc
  generalize mkP p (chF codes) 200 0 (kn0 p) = M at *
  have s3 := prun_spec t hF.sm p g hO1 hO2 M (by omega) inj
  have s4 := gAll_spec t hF.sm p g hO1 hO2 inj
  have ha := run_agree inj hv hpl
  generalize allR t p g inj = A at *
  generalize runR t p g M inj = R at *
  obtain ⟨m, C, e⟩ := R
  simp only at s3 ha
  have lM : (M.map cOp).length = M.length := by simp
  have lC : (rowI C).length = C.length := by simp
  have lm : (m.map cMo).length = m.length := by simp
  clear hv hF hO1 hO2 hpl
  rcases ha with rfl | ⟨rfl, rfl, g1, g2, g3, g4⟩
  · obtain ⟨Am, Ae⟩ := A
    obtain ⟨tn, te⟩ := t
    obtain ⟨pn, pe⟩ := p
    obtain ⟨gn, ge⟩ := g
    simp only at *
    repeat (first | refine gA pk ?_ | (show AL _ _ _ _ _ _ _; first | refine jL tok (fun uc => ?_) | refine jS tok 0 ?_ | refine jP sa ?_ | refine jO tok 0 ?_ | refine jP s2 ?_ | refine jP s3 ?_ | refine jP s4 ?_))
    refine finQ ?_
    exact ⟨rfl, rfl⟩
  · have s5 := gSameAll_spec m m (fun x hx => by have := g4 x hx; exact ⟨by omega, by omega⟩) (fun x hx => by have := g4 x hx; exact ⟨by omega, by omega⟩) (by omega) (by omega)
    rw [decide_eq_true rfl] at s5
    clear g4
    obtain ⟨tn, te⟩ := t
    obtain ⟨pn, pe⟩ := p
    obtain ⟨gn, ge⟩ := g
    simp only at *
    by_cases hC : C.length = 0
    · repeat (first | refine gA pk ?_ | (show AL _ _ _ _ _ _ _; first | refine jL tok (fun uc => ?_) | refine jS tok 0 ?_ | refine jP sa ?_ | refine jO tok 0 ?_ | refine jP s2 ?_ | refine jP s3 ?_ | refine jP s4 ?_ | refine jP s5 ?_))
      refine finQ ?_
      exact ⟨rfl, rfl⟩
    · have hlast := g2 (fun h => by rw [h] at g1; exact hC g1)
      rw [List.getLast?_eq_getElem?] at hlast
      have xk : (rowI C)[C.length - 1]? = some [AI m.length] := zmp (f := cI) hlast
      rw [← lm] at xk
      repeat (first | refine gA pk ?_ | (show AL _ _ _ _ _ _ _; first | refine jL tok (fun uc => ?_) | refine jS tok 0 ?_ | refine jP sa ?_ | refine jO tok 0 ?_ | refine jP s2 ?_ | refine jP s3 ?_ | refine jP s4 ?_ | refine jP s5 ?_ | refine s_indexJ (C.length - 1) tok rfl rfl rfl rfl rfl rfl rfl rfl rfl (by omega) xk ?_))
      refine finQ ?_
      exact ⟨rfl, rfl⟩
end Go.Proofs.YtimfponihbfimaaGreat
end
