/- Parts of a proof. -/
import Derived.Test.YtddohheabpiljaaGreatU09
import Derived.Test.YtddohheabpiljaaGreatU10
import Derived.Test.YtddohheabpiljaaGreatU11
set_option linter.unusedVariables false
set_option linter.unusedSimpArgs false
section
namespace Go.Proofs.YtddohheabpiljaaGreat
open Go.Sj Go.Sj.Typ
set_option maxRecDepth 8000
set_option maxHeartbeats 4000000
abbrev SN : AV := .lit (.slice none 0 0)
def rawA (i : Nat) (y : Int) : AV := if y % 4 = 1 then .im 4 [[AS (nmS lower i), AI (-3), AI (3 + y / 4 % 9), SN]] else if y % 4 = 2 then .im 4 [[AS (nmS lower i), AI 0, AI 1, .im 1 [[AS offS], [AS onS]]]] else SN
def rawN (i : Nat) (c : Int × Int) : List AV := [AS (nmS upper i), AI (c.1 % (i + 1) - 1), AB (decide (c.1 / 16 % 4 = 3)), rawA i c.2]
def rawNs (l : List (Int × Int)) (n : Nat) : List (List AV) := (List.range n).map fun i => rawN i (codeAt l i)
theorem rawA_sub (i : Nat) (y : Int) : Sub (rawA i y) (attrsA (madeA i y)) := by
  unfold rawA madeA
  split
  · exact Sub.im ⟨⟨Sub.refl _, Sub.refl _, Sub.refl _, Sub.nil 1, trivial⟩, trivial⟩
  · split
    · exact Sub.refl _
    · exact Sub.nil 4
theorem rawNs_sub (l : List (Int × Int)) (n : Nat) : SubLL (rawNs l n) ((madeNs l n).map cNod) := by
  unfold rawNs madeNs
  rw [List.map_map]
  exact subLL_map (f := fun i => rawN i (codeAt l i)) (g := fun i => cNod (madeN i (codeAt l i).1 (codeAt l i).2)) (fun i => by unfold rawN cNod madeN; exact ⟨Sub.refl _, Sub.refl _, Sub.refl _, rawA_sub _ _, trivial⟩) _
theorem rawNs_succ (l : List (Int × Int)) (n : Nat) : rawNs l (n + 1) = rawNs l n ++ [rawN n (codeAt l n)] := by simp [rawNs, List.range_succ]
theorem madeEs_succ (n : Nat) (l : List (Int × Int)) (m : Nat) : madeEs n l (m + 1) = madeEs n l m ++ [madeE n m (codeAt l m)] := by simp [madeEs, List.range_succ]
theorem codeAt_some {l : List (Int × Int)} {i : Nat} {c : Int × Int} (h : l[i]? = some c) : codeAt l i = c := by simp [codeAt, List.getD_eq_getElem?_getD, h]
theorem codeAt_none {l : List (Int × Int)} {i : Nat} (h : l.length ≤ i) : codeAt l i = (0, 0) := by simp [codeAt, List.getD_eq_getElem?_getD, h]
theorem rawA_cell (i : Nat) (y : Int) : (rawA i y).cell = true := by
  unfold rawA
  split
  · rfl
  · split <;> rfl
theorem raw4_cell (a : ByteArray) (b : Int) (c : Bool) (i : Nat) (y : Int) : ([AS a, AI b, AB c, rawA i y] : List AV).all AV.cell = true := by
  simp only [List.all_cons, List.all_nil, rawA_cell, Bool.and_true]
  rfl
theorem Made_spec (nodes edges : List (Int × Int)) (hn : Cd nodes) (he : Cd edges) (hnl : nodes.length ≤ 140737488355328) (hel : edges.length ≤ 140737488355328) : Pure Tryz.prog 48 [.im 2 (nodes.map c82), .im 2 (edges.map c82)] (tysA (madeT nodes edges)) := by
  have lnn : (nodes.map c82).length = nodes.length := by simp
  have len : (edges.map c82).length = edges.length := by simp
  have hmn := madeNum_rng nodes
  have hrn := fun i => codeAt_rng hn i
  have hre := fun i => codeAt_rng he i
  refine a_enterC Tryz.func48 (by kernel_rfl) rfl Tryz.ntmps48 rfl (tok _ _ rfl) (by simp) ?_
  refine a_seq ?_
  refine a_reg ?_
  repeat (first | refine gZ pk ?_ | (show AL _ _ _ _ _ _ _; first | refine jL tok (fun u4 => ?_)))
  refine a_reg ?_
  repeat (first | refine gZ pk ?_ | (show AL _ _ _ _ _ _ _; first | refine jL tok (fun u5 => ?_)))
  refine a_reg ?_
  repeat (first | refine gZ pk ?_)
  refine a_loop2 (fun (i : Nat) (v : Value) => [(0, .im 2 (nodes.map c82)), (1, .im 2 (edges.map c82)), (4, .pt u4 0 0 0), (5, .pt u5 0 0 0), (6, AI i)]) (fun i v => [(v, .row 112 4 (rawNs nodes i)), (u5, .box [.lit v, SN]), (u4, .box [SN, SN])]) (fun i v => i ≤ zmu nodes) (fun i v => zmu nodes - i) 0 (.slice none 0 0) (Nat.zero_le _) ?_ (.free (OSub.refl _)) ?_
  · exact subQ
  · intro i v hi
    by_cases hlt : i < zmu nodes
    · have hgo : i = 0 ∨ (i < nodes.length ∧ i < 6) := by unfold zmu at hlt; split at hlt <;> omega
      have hi6 : i < 6 := by omega
      have hcr := hrn i
      have hsucc := rawNs_succ nodes i
      have lr : (rawNs nodes i).length = i := by simp [rawNs]
      obtain ⟨x, y, hcode⟩ : ∃ x y, codeAt nodes i = (x, y) := ⟨_, _, rfl⟩
      rw [hcode] at hcr hsucc
      simp only at hcr
      have hm1 := Int.emod_nonneg x (b := (i : Int) + 1) (by omega)
      have hm2 := Int.emod_lt_of_pos x (b := (i : Int) + 1) (by omega)
      refine a_mid (fun st L => GoTo 124 st L (lk [(0, .im 2 (nodes.map c82)), (1, .im 2 (edges.map c82)), (4, .pt u4 0 0 0), (5, .pt u5 0 0 0), (6, AI i)]) [(v, .row 112 4 (rawNs nodes i)), (u5, .box [.lit v, SN]), (u4, .box [SN, SN])]) ?_ (fun st L h => zgt h ?_)
      · rcases Nat.eq_zero_or_pos i with h0 | h0
        all_goals
          repeat (first | refine gA pk ?_)
          exact GoTo.sub (by exact subQ) (OSub.refl _)
      · refine a_seq ?_
        refine a_block ?_
        refine a_seq ?_
        refine a_reg ?_
        repeat (first | refine gY pk ?_ | (show AL _ _ _ _ _ _ _; first | refine s_zeroArr tok rfl rfl rfl rfl rfl rfl ?_ | refine jL tok (fun u7 => ?_) | refine jS tok 0 ?_))
        refine a_mid (fun st L => GoTo 124 st L (lk [(0, .im 2 (nodes.map c82)), (1, .im 2 (edges.map c82)), (4, .pt u4 0 0 0), (5, .pt u5 0 0 0), (6, AI i), (7, .pt u7 0 0 0)]) [(u7, .box [A8 x, A8 y]), (v, .row 112 4 (rawNs nodes i)), (u5, .box [.lit v, SN]), (u4, .box [SN, SN])]) ?_ (fun st L h => zgt h ?_)
        · by_cases hA : i < nodes.length
          · have hx := List.getElem?_eq_getElem hA
            rw [codeAt_some hx] at hcode
            rw [hcode] at hx
            have xk : (nodes.map c82)[(i : Int).toNat]? = some [A8 x, A8 y] := zmp (f := c82) hx
            repeat (first | refine gA pk ?_ | (show AL _ _ _ _ _ _ _; first | refine jX tok xk ?_ | refine jS tok 0 ?_))
            exact GoTo.sub (by exact subQ) (OSub.refl _)
          · rw [codeAt_none (by omega)] at hcode
            obtain ⟨rfl, rfl⟩ : x = 0 ∧ y = 0 := by cases hcode; exact ⟨rfl, rfl⟩
            repeat (first | refine gA pk ?_)
            exact GoTo.sub (by exact subQ) (OSub.refl _)
        · refine zfb 0 7 rfl rfl ?_
          refine a_seq ?_
          refine a_regP mixed (by decide +kernel) ?_
          repeat (first | refine gY pk ?_ | (show AL _ _ _ _ _ _ _; first | refine jL tok (fun u8 => ?_) | refine jS tok 0 ?_ | refine s_strSubI tok i (i + 1) rfl rfl rfl rfl rfl rfl (by exact ⟨_, _, rfl, rfl⟩) (by exact ⟨_, _, rfl, by omega⟩) (by omega) (by first | (show i + 1 ≤ 6; omega) | (show i + 1 ≤ 5; omega)) ?_ | refine s_arrIp tok rfl rfl rfl rfl rfl rfl rfl rfl (by decide) (by decide) ?_ | refine zcv tok rfl rfl rfl rfl rfl rfl rfl (IntWalk.i64_in _ (by omega)) ?_ | refine s_rem rfl rfl rfl rfl rfl rfl (by omega) (by omega) ?_ | refine s_quo rfl rfl rfl rfl rfl rfl (by omega) (by omega) (IntWalk.u8_in _ (by omega)) ?_ | refine s_eqD rfl rfl rfl rfl rfl rfl ?_))
          refine a_mid (fun st L => GoTo 124 st L (lk [(0, .im 2 (nodes.map c82)), (1, .im 2 (edges.map c82)), (4, .pt u4 0 0 0), (5, .pt u5 0 0 0), (6, AI i), (8, .pt u8 0 0 0)]) [(u8, .box [AS (nmS upper i), AI (x % (i + 1) - 1), AB (decide (x / 16 % 4 = 3)), rawA i y]), (v, .row 112 4 (rawNs nodes i)), (u5, .box [.lit v, SN]), (u4, .box [SN, SN])]) ?_ (fun st L h => zgt h ?_)
          · by_cases h1 : y % 4 = 1
            · rw [show rawA i y = .im 4 [[AS (nmS lower i), AI (-3), AI (3 + y / 4 % 9), SN]] by simp [rawA, h1]]
              repeat (first | refine gA pk ?_ | (show AL _ _ _ _ _ _ _; first | refine s_arrIp tok rfl rfl rfl rfl rfl rfl rfl rfl (by decide) (by decide) ?_ | refine zcv tok rfl rfl rfl rfl rfl rfl rfl (IntWalk.i64_in _ (by omega)) ?_ | refine s_rem rfl rfl rfl rfl rfl rfl (by omega) (by omega) ?_ | refine s_quo rfl rfl rfl rfl rfl rfl (by omega) (by omega) (IntWalk.u8_in _ (by omega)) ?_ | refine s_strSubI tok i (i + 1) rfl rfl rfl rfl rfl rfl (by exact ⟨_, _, rfl, rfl⟩) (by exact ⟨_, _, rfl, by omega⟩) (by omega) (by first | (show i + 1 ≤ 6; omega) | (show i + 1 ≤ 5; omega)) ?_ | refine s_frzNow 0 rfl rfl rfl (s_build tok rfl rfl rfl rfl rfl rfl rfl rfl (by decide) (by decide) (fun v => AL.nil ⟨v, rfl, rfl, rfl⟩)) ?_ | refine jS tok 0 ?_))
              exact GoTo.sub (by exact subQ) (OSub.refl _)
            · by_cases h2 : y % 4 = 2
              · rw [show rawA i y = .im 4 [[AS (nmS lower i), AI 0, AI 1, .im 1 [[AS offS], [AS onS]]]] by simp [rawA, h2]]
                repeat (first | refine gA pk ?_ | (show AL _ _ _ _ _ _ _; first | refine s_arrIp tok rfl rfl rfl rfl rfl rfl rfl rfl (by decide) (by decide) ?_ | refine zcv tok rfl rfl rfl rfl rfl rfl rfl (IntWalk.i64_in _ (by omega)) ?_ | refine s_rem rfl rfl rfl rfl rfl rfl (by omega) (by omega) ?_ | refine s_quo rfl rfl rfl rfl rfl rfl (by omega) (by omega) (IntWalk.u8_in _ (by omega)) ?_ | refine s_strSubI tok i (i + 1) rfl rfl rfl rfl rfl rfl (by exact ⟨_, _, rfl, rfl⟩) (by exact ⟨_, _, rfl, by omega⟩) (by omega) (by first | (show i + 1 ≤ 6; omega) | (show i + 1 ≤ 5; omega)) ?_ | refine s_frzNow 0 rfl rfl rfl (s_build tok rfl rfl rfl rfl rfl rfl rfl rfl (by decide) (by decide) (fun v => AL.nil ⟨v, rfl, rfl, rfl⟩)) ?_ | refine jS tok 0 ?_))
                exact GoTo.sub (by exact subQ) (OSub.refl _)
              · rw [show rawA i y = SN by simp [rawA, h1, h2]]
                repeat (first | refine gA pk ?_ | (show AL _ _ _ _ _ _ _; first | refine s_arrIp tok rfl rfl rfl rfl rfl rfl rfl rfl (by decide) (by decide) ?_ | refine zcv tok rfl rfl rfl rfl rfl rfl rfl (IntWalk.i64_in _ (by omega)) ?_ | refine s_rem rfl rfl rfl rfl rfl rfl (by omega) (by omega) ?_ | refine s_quo rfl rfl rfl rfl rfl rfl (by omega) (by omega) (IntWalk.u8_in _ (by omega)) ?_ | refine s_strSubI tok i (i + 1) rfl rfl rfl rfl rfl rfl (by exact ⟨_, _, rfl, rfl⟩) (by exact ⟨_, _, rfl, by omega⟩) (by omega) (by first | (show i + 1 ≤ 6; omega) | (show i + 1 ≤ 5; omega)) ?_ | refine s_frzNow 0 rfl rfl rfl (s_build tok rfl rfl rfl rfl rfl rfl rfl rfl (by decide) (by decide) (fun v => AL.nil ⟨v, rfl, rfl, rfl⟩)) ?_ | refine jS tok 0 ?_))
                exact GoTo.sub (by exact subQ) (OSub.refl _)
          · have hr : rawN i (x, y) = [AS (nmS upper i), AI (x % (i + 1) - 1), AB (decide (x / 16 % 4 = 3)), rawA i y] := rfl
            repeat (first | refine gA pk ?_ | (show AL _ _ _ _ _ _ _; first | refine jO tok 0 ?_ | refine jO tok 2 ?_))
            refine zba tok rfl rfl rfl rfl rfl rfl rfl rfl (by decide) (fun w => ?_)
            refine zak tok 1 rfl rfl rfl rfl rfl rfl (by decide) rfl rfl rfl (raw4_cell _ _ _ _ _) (by omega) (by omega) (fun v' hv => ?_)
            repeat (first | refine gA pk ?_ | (show AL _ _ _ _ _ _ _; first | refine s_store (a := .lit v') tok 2 rfl rfl rfl rfl rfl rfl hv rfl (by decide) rfl rfl rfl (Nat.le_of_ble_eq_true rfl) ?_ | refine s_store (a := .lit v') tok 3 rfl rfl rfl rfl rfl rfl hv rfl (by decide) rfl rfl rfl (Nat.le_of_ble_eq_true rfl) ?_))
            refine ⟨i + 1, v', by omega, by omega, by exact subQ, ?_⟩
            rw [hsucc, hr]
            first | exact .drop (.drop (OSub.refl _)) | exact .drop (OSub.refl _)
    · obtain rfl : i = zmu nodes := by omega
      have hex : nodes.length ≤ zmu nodes ∨ 6 ≤ zmu nodes := by unfold zmu; split <;> omega
      refine AWp.mono (Q := fun e st L => e = .exit 0 ∧ GoTo 124 st L (lk [(1, .im 2 (edges.map c82)), (4, .pt u4 0 0 0), (5, .pt u5 0 0 0)]) [(v, .row 112 4 (rawNs nodes (zmu nodes))), (u5, .box [.lit v, SN]), (u4, .box [SN, SN])]) ?_ (fun e st L h => ?_)
      · by_cases hA : zmu nodes < nodes.length
        all_goals
          repeat (first | refine gA pk ?_)
          exact ⟨rfl, GoTo.sub (by exact subQ) (OSub.refl _)⟩
      · obtain ⟨rfl, h⟩ := h
        refine zgt h ?_
        repeat (first | refine gA pk ?_)
        refine a_loop2 (fun (i : Nat) (w : Value) => [(1, .im 2 (edges.map c82)), (4, .pt u4 0 0 0), (5, .pt u5 0 0 0), (10, AI i)]) (fun i w => [(w, .row 114 7 ((madeEs (zmu nodes) edges i).map cEdg)), (v, .row 112 4 (rawNs nodes (zmu nodes))), (u5, .box [.lit v, .lit w]), (u4, .box [SN, SN])]) (fun i w => i ≤ min 5 edges.length) (fun i w => min 5 edges.length - i) 0 (.slice none 0 0) (Nat.zero_le _) ?_ (.free (OSub.refl _)) ?_
        · exact subQ
        · intro i w hi
          by_cases hlt : i < min 5 edges.length
          · have hx := List.getElem?_eq_getElem (l := edges) (i := i) (by omega)
            have hcr := hre i
            rw [codeAt_some hx] at hcr
            have hsucc := madeEs_succ (zmu nodes) edges i
            rw [codeAt_some hx] at hsucc
            generalize edges[i] = c at *
            obtain ⟨x, y⟩ := c
            simp only at hcr
            have xk : (edges.map c82)[(i : Int).toNat]? = some [A8 x, A8 y] := zmp (f := c82) hx
            have lr : (rawNs nodes (zmu nodes)).length = zmu nodes := by simp [rawNs]
            have le' : ((madeEs (zmu nodes) edges i).map cEdg).length = i := by simp [madeEs]
            have a1 := Int.emod_nonneg x (b := (zmu nodes : Int)) (by omega)
            have a2 := Int.emod_lt_of_pos x (b := (zmu nodes : Int)) (by omega)
            repeat (first | refine gN pk ?_ | (show AL _ _ _ _ _ _ _; first | refine jO tok 2 ?_ | refine zol tok 1 rfl rfl rfl rfl (by decide) rfl rfl rfl ?_))
            rw [lr]
            refine a_regTK (ks := (List.range 27).map fun i => if i = 1 ∨ i = 23 ∨ i = 24 ∨ i = 26 then .eff else .pure) (.br [0, 2, 3, 4, 5, 6, 7, 8, 9, 10, 11, 12, 13, 14, 15, 16, 17, 18, 19, 20, 21, 22] (.seg [1, 23, 24, 25, 26]) (.seg [23, 1, 24, 25, 26])) mixed rfl rfl (by decide +kernel) (atk_br ?_)
            have b1 := Int.emod_nonneg y (b := (zmu nodes : Int)) (by omega)
            have b2 := Int.emod_lt_of_pos y (b := (zmu nodes : Int)) (by omega)
            have he' : cEdg (madeE (zmu nodes) i (x, y)) = [AS (nmS edgeL i), AI (x % (zmu nodes : Int)), AI (y % (zmu nodes : Int)), AI 0, AI (-1), AI 0, AI (-1)] := rfl
            repeat (first | refine gY pk ?_ | (show AL _ _ _ _ _ _ _; first | refine jX tok xk ?_ | refine s_arrIp tok rfl rfl rfl rfl rfl rfl rfl rfl (by decide) (by decide) ?_ | refine zcv tok rfl rfl rfl rfl rfl rfl rfl (IntWalk.i64_in _ (by omega)) ?_ | refine s_rem rfl rfl rfl rfl rfl rfl (by omega) (by omega) ?_ | refine s_strSubI tok i (i + 1) rfl rfl rfl rfl rfl rfl (by exact ⟨_, _, rfl, rfl⟩) (by exact ⟨_, _, rfl, by omega⟩) (by omega) (by first | (show i + 1 ≤ 6; omega) | (show i + 1 ≤ 5; omega)) ?_))
            refine ⟨atk_seg ?_, atk_seg ?_⟩
            · repeat (first | refine gY pk ?_ | (show AL _ _ _ _ _ _ _; first | refine jO tok 2 ?_))
              refine zba tok rfl rfl rfl rfl rfl rfl rfl rfl (by decide) (fun u => ?_)
              refine zak tok 0 rfl rfl rfl rfl rfl rfl (by decide) rfl rfl rfl rfl (by omega) (by omega) (fun v' hv => ?_)
              repeat (first | refine gA pk ?_ | (show AL _ _ _ _ _ _ _; first | refine s_store (a := .lit v') tok 2 rfl rfl rfl rfl rfl rfl hv rfl (by decide) rfl rfl rfl (Nat.le_of_ble_eq_true rfl) ?_))
              refine ⟨i + 1, v', by omega, by omega, by exact subQ, ?_⟩
              rw [hsucc, List.map_append, List.map_cons, List.map_nil, he']
              exact OSub.refl _
            · refine zba tok rfl rfl rfl rfl rfl rfl rfl rfl (by decide) (fun u => ?_)
              repeat (first | refine gY pk ?_ | (show AL _ _ _ _ _ _ _; first | refine jO tok 3 ?_))
              refine zak tok 0 rfl rfl rfl rfl rfl rfl (by decide) rfl rfl rfl rfl (by omega) (by omega) (fun v' hv => ?_)
              repeat (first | refine gA pk ?_ | (show AL _ _ _ _ _ _ _; first | refine s_store (a := .lit v') tok 2 rfl rfl rfl rfl rfl rfl hv rfl (by decide) rfl rfl rfl (Nat.le_of_ble_eq_true rfl) ?_))
              refine ⟨i + 1, v', by omega, by omega, by exact subQ, ?_⟩
              rw [hsucc, List.map_append, List.map_cons, List.map_nil, he']
              exact OSub.refl _
          · obtain rfl : i = min 5 edges.length := by omega
            refine AWp.mono (Q := fun e st L => e = .exit 3 ∧ GoTo 124 st L (lk [(4, .pt u4 0 0 0), (5, .pt u5 0 0 0)]) [(w, .row 114 7 ((madeEs (zmu nodes) edges (min 5 edges.length)).map cEdg)), (v, .row 112 4 (rawNs nodes (zmu nodes))), (u5, .box [.lit v, .lit w]), (u4, .box [SN, SN])]) ?_ (fun e st L h => ?_)
            · by_cases hA : min 5 edges.length < edges.length
              all_goals
                repeat (first | refine gA pk ?_)
                exact ⟨rfl, GoTo.sub (by exact subQ) (OSub.refl _)⟩
            · obtain ⟨rfl, h⟩ := h
              refine zgt h ?_
              refine a_know 0 rfl (fun hw => ?_)
              refine a_know 1 rfl (fun hv => ?_)
              repeat (first | refine gV pk ?_ | (show AL _ _ _ _ _ _ _; first | refine jO tok 2 ?_ | refine s_store (a := .agg [.lit v, .lit w]) tok 3 rfl rfl rfl rfl rfl rfl (by simp [AV.storable, AV.cell, hv, hw]) rfl (by decide) rfl rfl rfl (Nat.le_of_ble_eq_true rfl) ?_))
              refine a_ownSub [(w, .row 114 7 ((madeEs (zmu nodes) edges (min 5 edges.length)).map cEdg)), (v, .row 112 4 (rawNs nodes (zmu nodes))), (u4, .box [.lit v, .lit w])] (.keep (.keep (.drop (.keep .nil)))) ?_
              refine a_freeze 0 rfl _ (FZS.refl _) [(v, .row 112 4 (rawNs nodes (zmu nodes))), (u4, .box [.lit v, .im 7 ((madeEs (zmu nodes) edges (min 5 edges.length)).map cEdg)])] ⟨rfl, rfl, rfl, rfl, by simp [rawNs, rawN], FZL.refl _, rfl, ⟨FZ.refl _, FZ.here, trivial⟩, trivial⟩ ?_
              refine a_freeze 0 rfl _ (FZS.refl _) [(u4, .box [.im 4 (rawNs nodes (zmu nodes)), .im 7 ((madeEs (zmu nodes) edges (min 5 edges.length)).map cEdg)])] ⟨rfl, ⟨FZ.here, FZ.refl _, trivial⟩, trivial⟩ ?_
              refine zfb 0 4 rfl rfl ?_
              refine a_ret ?_
              refine ⟨.inr rfl, _, .agg [.im 4 (rawNs nodes (zmu nodes)), .im 7 ((madeEs (zmu nodes) edges (min 5 edges.length)).map cEdg)], tysA (madeT nodes edges), [], rfl, rfl, Turn.of (Sub.agg (m := [nodsA (madeNs nodes (zmu nodes)), edgsA (madeEs (zmu nodes) edges (min 5 edges.length))]) ⟨Sub.im (rawNs_sub _ _), Sub.refl _, trivial⟩) (OSub.refl _), rfl, rfl⟩
end Go.Proofs.YtddohheabpiljaaGreat
end
