/-
  Rows of counts: copies, insertion, deletion: the walks of package slices. Conditions: short rows.
-/
import Derived.Test.YtcacbdohlfljfaaGreatSjQ8
import Derived.Test.YtcacbdohlfljfaaGreatTy
import Derived.Test.YtcacbdohlfljfaaGreatSjQN
import Derived.Test.YtcacbdohlfljfaaGreatSjQ7
namespace Go.Proofs.YtcacbdohlfljfaaGreat
open Go.Sj Go.Sj.Typ Go.Sj.Sta
set_option linter.unusedVariables false
set_option linter.unusedSimpArgs false
set_option maxHeartbeats 4000000

theorem cCnt_cell (l : List Cnt) : (l.map cCnt).all (fun e => e.all AV.cell) = true := by simp [cCnt, AV.cell, Value.oneCell']
theorem CloneC_spec (l : List Cnt) (hs : l.length ≤ 1099511627776) : Gives Tryz.prog 68 [cntsA l] 75 4 (l.map cCnt) := by
  have ll : (l.map cCnt).length = l.length := by simp
  refine a_enter Tryz.func68 (by kernel_rfl) rfl Tryz.ntmps68 rfl (by simp) ?_
  repeat (first | refine gA pk ?_)
  refine s_eqNil tok rfl rfl rfl rfl rfl rfl (fun h => ?_) ?_
  · repeat (first | refine gA pk ?_)
    refine fin (x := .lit _) (.inr rfl) rfl (Sub.refl _) ⟨_, rfl, rfl⟩ ?_
    rw [h]
    exact .free .nil
  · repeat (first | refine gA pk ?_ | (show AL _ _ _ _ _ _ _; first | refine s_build tok (parts := []) rfl rfl rfl rfl rfl rfl rfl rfl (by decide) (by decide) (fun v => ?_)))
    refine s_appendIm tok 0 rfl rfl rfl rfl rfl rfl (by decide) rfl rfl rfl rfl (cCnt_cell l) (by simp only [ll, List.length_nil]; omega) (by simp only [ll, List.length_nil]; omega) (fun v' => ?_)
    repeat (first | refine gA pk ?_)
    refine finR ?_
    exact ⟨_, rfl, rfl⟩
theorem ins_grow {A : Type} (Z : List A) (x : A) (r : List A) {n k : Nat} (hn : Z.length = n) (hk : k < n) (hr : r.length = n + 1 - k) :
    (((Z.take k ++ r).take k ++ [x].take 1 ++ (Z.take k ++ r).drop (k + 1)).take (k + 1) ++ ((Z.take n).drop k).take (n - k) ++ ((Z.take k ++ r).take k ++ [x].take 1 ++ (Z.take k ++ r).drop (k + 1)).drop (k + 1 + (n - k))) = Z.take k ++ x :: Z.drop k := by
  have h1 : (Z.take k).length = k := by rw [List.length_take]; omega
  have e1 : (Z.take k ++ r).take k = Z.take k := by rw [List.take_append_of_le_length (by omega), List.take_of_length_le (by omega)]
  have e2 : (Z.take k ++ r).drop (k + 1) = r.drop 1 := by rw [List.drop_append, h1, List.drop_eq_nil_of_le (by omega), show k + 1 - k = 1 by omega]; rfl
  have e3 : (Z.take n).drop k = Z.drop k := by rw [List.take_of_length_le (by omega)]
  have e4 : (Z.drop k).take (n - k) = Z.drop k := List.take_of_length_le (by rw [List.length_drop]; omega)
  rw [e1, e2, e3, e4, show [x].take 1 = [x] from rfl]
  have h2 : (Z.take k ++ [x]).length = k + 1 := by rw [List.length_append, h1]; rfl
  have f1 : (Z.take k ++ [x] ++ r.drop 1).take (k + 1) = Z.take k ++ [x] := by
    rw [List.take_append_of_le_length (by omega)]
    exact List.take_of_length_le (by omega)
  have f2 : (Z.take k ++ [x] ++ r.drop 1).drop (k + 1 + (n - k)) = [] := List.drop_eq_nil_of_le (by rw [List.length_append, h2, List.length_drop]; omega)
  rw [f1, f2]
  simp
theorem ins_room {A : Type} (Z : List A) (x : A) (r : List A) {n k : Nat} (hn : Z.length = n) (hk : k < n) (hr : r.length = 1) :
    (((Z ++ r).take (k + 1) ++ (((Z ++ r).take (n + 1)).drop k).take (n - k) ++ (Z ++ r).drop (k + 1 + (n - k))).take k ++ [x].take 1 ++ ((Z ++ r).take (k + 1) ++ (((Z ++ r).take (n + 1)).drop k).take (n - k) ++ (Z ++ r).drop (k + 1 + (n - k))).drop (k + 1)) = Z.take k ++ x :: Z.drop k := by
  have hl : (Z ++ r).length = n + 1 := by simp [hn, hr]
  have e1 : (Z ++ r).take (k + 1) = Z.take (k + 1) := List.take_append_of_le_length (by omega)
  have e2 : ((Z ++ r).take (n + 1)).drop k = Z.drop k ++ r := by rw [List.take_of_length_le (by omega), List.drop_append_of_le_length (by omega)]
  have e3 : (Z.drop k ++ r).take (n - k) = Z.drop k := by
    have : (Z.drop k).length = n - k := by rw [List.length_drop]; omega
    rw [List.take_append_of_le_length (by omega), List.take_of_length_le (by omega)]
  have e4 : (Z ++ r).drop (k + 1 + (n - k)) = [] := List.drop_eq_nil_of_le (by omega)
  rw [e1, e2, e3, e4, List.append_nil, show [x].take 1 = [x] from rfl]
  have h1 : (Z.take (k + 1)).length = k + 1 := by rw [List.length_take]; omega
  have e5 : (Z.take (k + 1) ++ Z.drop k).take k = Z.take k := by
    rw [List.take_append_of_le_length (by omega), List.take_take, Nat.min_eq_left (by omega)]
  have e6 : (Z.take (k + 1) ++ Z.drop k).drop (k + 1) = Z.drop k := by
    rw [List.drop_append, h1, List.drop_eq_nil_of_le (by omega), Nat.sub_self]; rfl
  rw [e5, e6]
  simp
theorem cell_sub {l : List (List AV)} {n k m : Nat} (h : l.all (fun e => e.all AV.cell) = true) : (((l.take n).drop k).take m).all (fun e => e.all AV.cell) = true := by
  rw [List.all_eq_true] at h ⊢
  exact fun e he => h e (List.mem_of_mem_take (List.mem_of_mem_drop (List.mem_of_mem_take he)))
theorem InsertC_spec (l : List Cnt) (x : Cnt) (k : Nat) (hk : k ≤ l.length) (hl : l.length ≤ 1000) (v u : Value) :
    ACalls Tryz.prog 70 [.lit v, AI k, .lit u] [(v, .row 75 4 (l.map cCnt)), (u, .row 75 4 [cCnt x])]
      (fun y L => ∃ v', y = .lit v' ∧ L = [(v', .row 75 4 ((l.take k ++ x :: l.drop k).map cCnt))]) := by
  have ll : (l.map cCnt).length = l.length := by simp
  have l1 : [cCnt x].length = 1 := rfl
  refine a_enter Tryz.func70 (by kernel_rfl) rfl Tryz.ntmps70 rfl (by simp) ?_
  refine a_knowRow 0 rfl (fun a c hv hc hm _ => ?_)
  subst hv
  rw [ll] at hc ⊢
  rcases Nat.lt_or_ge k l.length with h | h
  · rcases Nat.lt_or_ge c (l.length + 1) with hg | hg
    · repeat (first | refine gA pk ?_ | (show AL _ _ _ _ _ _ _; first | refine s_capPart tok k l.length rfl rfl rfl rfl rfl rfl rfl rfl (by first | exact rfl | exact ⟨_, _, rfl, by omega⟩) (by first | exact rfl | exact ⟨_, _, rfl, by omega⟩) (by omega) (by omega) ?_ | refine s_ownLen tok 0 rfl rfl rfl rfl (by decide) rfl rfl rfl ?_ | refine s_ownLen tok 1 rfl rfl rfl rfl (by decide) rfl rfl rfl ?_ | refine s_cap tok rfl rfl rfl rfl rfl rfl ?_))
      refine s_capPart tok 0 k rfl rfl rfl rfl rfl rfl rfl rfl (by first | exact rfl | exact ⟨_, _, rfl, by omega⟩) (by first | exact rfl | exact ⟨_, _, rfl, by omega⟩) (by omega) (by omega) ?_
      repeat (first | refine gA pk ?_)
      refine s_appendMake tok 0 k (l.length + 1 - k) rfl rfl rfl rfl rfl rfl rfl (by decide) rfl rfl rfl ⟨_, rfl, by omega⟩ (by omega) (by omega) (by omega) (by omega) (by show (k + (l.length + 1 - k)) * 32 ≤ _; omega) (fun v' => ?_)
      repeat (first | refine gA pk ?_)
      refine s_ownPart tok 0 rfl rfl rfl rfl (by decide) rfl rfl rfl rfl rfl ⟨_, rfl⟩ rfl (by simp only [List.length_append, List.length_take, List.length_replicate, ll]; omega) (Nat.le_refl _) ?_
      repeat (first | refine gA pk ?_)
      refine s_copyRow tok 0 2 k 1 rfl rfl rfl rfl rfl rfl (by decide) rfl rfl rfl rfl rfl rfl (by simp only [List.length_append, List.length_take, List.length_replicate, ll]; omega) (by simp only [List.length_append, List.length_take, List.length_replicate, ll, l1]; omega) rfl ?_
      repeat (first | refine gN pk ?_)
      obtain ⟨r, hr⟩ : ∃ r : List (List AV), List.replicate (l.length + 1 - k) [AI 0, AI 0, AI 0, AI 0] = r := ⟨_, rfl⟩
      have hrl : r.length = l.length + 1 - k := by rw [← hr]; simp
      obtain ⟨Z, hZ⟩ : ∃ Z, l.map cCnt = Z := ⟨_, rfl⟩
      rw [hZ] at ll
      obtain ⟨E1, hE1⟩ : ∃ E1, (Z.take k ++ r).take k ++ [cCnt x].take 1 ++ (Z.take k ++ r).drop (k + 1) = E1 := ⟨_, rfl⟩
      have hE1l : E1.length = l.length + 1 := by rw [← hE1]; simp only [List.length_append, List.length_take, List.length_drop, List.length_cons, List.length_nil, hrl, ll]; omega
      refine a_ownSub [(v', .row 75 4 E1), (.slice a l.length c, .row 75 4 Z), (u, .row 75 4 [cCnt x])] (by rw [← hE1, ← hr, ← hZ]; exact OSub.refl _) ?_
      refine a_knowRow 0 rfl (fun a2 c2 hv2 hc2 hm2 _ => ?_)
      subst hv2
      rw [hE1l] at hc2 ⊢
      refine a_regP mixed (by decide +kernel) ?_
      repeat (first | refine gY pk ?_ | (show AL _ _ _ _ _ _ _; first | refine s_capPart tok (k + 1) (l.length + 1) rfl rfl rfl rfl rfl rfl rfl rfl (by first | exact rfl | exact ⟨_, _, rfl, by omega⟩) (by first | exact rfl | exact ⟨_, _, rfl, by omega⟩) (by omega) (by omega) ?_ | refine s_capPart tok k l.length rfl rfl rfl rfl rfl rfl rfl rfl (by first | exact rfl | exact ⟨_, _, rfl, by omega⟩) (by first | exact rfl | exact ⟨_, _, rfl, by omega⟩) (by omega) (by omega) ?_ | refine s_copyPart tok 0 1 (k + 1) k l.length (l.length - k) rfl rfl rfl rfl rfl rfl (by decide) rfl rfl rfl (by omega) rfl rfl (by omega) (by omega) (by omega) (by omega) (by rw [← hZ]; exact cell_sub (cCnt_cell l)) ?_))
      have hfin := ins_grow Z (cCnt x) r ll h hrl
      rw [hE1] at hfin
      have hmap : (l.take k ++ x :: l.drop k).map cCnt = Z.take k ++ cCnt x :: Z.drop k := by rw [← hZ, List.map_append, List.map_cons, List.map_take, List.map_drop]
      repeat (first | refine gA pk ?_)
      refine fin (x := .lit _) (.inr rfl) rfl (Sub.refl _) ⟨_, rfl, rfl⟩ ?_
      rw [hmap, ← hfin]
      exact .keep (.drop (.drop .nil))
    · repeat (first | refine gA pk ?_ | (show AL _ _ _ _ _ _ _; first | refine s_capPart tok k l.length rfl rfl rfl rfl rfl rfl rfl rfl (by first | exact rfl | exact ⟨_, _, rfl, by omega⟩) (by first | exact rfl | exact ⟨_, _, rfl, by omega⟩) (by omega) (by omega) ?_ | refine s_ownLen tok 0 rfl rfl rfl rfl (by decide) rfl rfl rfl ?_ | refine s_ownLen tok 1 rfl rfl rfl rfl (by decide) rfl rfl rfl ?_ | refine s_cap tok rfl rfl rfl rfl rfl rfl ?_))
      refine s_extend tok 0 (m := l.length + 1) rfl rfl rfl rfl rfl rfl rfl rfl ⟨_, rfl, by omega⟩ (by omega) (by omega) ?_
      obtain ⟨Z, hZ⟩ : ∃ Z, l.map cCnt = Z := ⟨_, rfl⟩
      rw [hZ] at ll
      have hel : (Z ++ anyRow (l.length + 1 - l.length) 4).length = l.length + 1 := by simp [ll, anyRow]
      have hne : Z ++ anyRow (l.length + 1 - l.length) 4 ≠ [] := fun e => by rw [e] at hel; simp at hel
      have har : (anyRow (l.length + 1 - l.length) 4).length = 1 := by simp [anyRow]
      have hfin := ins_room Z (cCnt x) (anyRow (l.length + 1 - l.length) 4) ll h har
      have hcell : ((((Z ++ anyRow (l.length + 1 - l.length) 4).take (l.length + 1)).drop k).take (l.length - k)).all (fun e => e.all AV.cell) = true := by
        have e3 : (Z.drop k).length = l.length - k := by rw [List.length_drop, ll]
        have e4 : (Z.drop k ++ anyRow (l.length + 1 - l.length) 4).take (l.length - k) = Z.drop k := by
          rw [List.take_append_of_le_length (by omega)]
          exact List.take_of_length_le (by omega)
        have e5 : (Z ++ anyRow (l.length + 1 - l.length) 4).take (l.length + 1) = Z ++ anyRow (l.length + 1 - l.length) 4 := List.take_of_length_le (by omega)
        have e6 : (Z ++ anyRow (l.length + 1 - l.length) 4).drop k = Z.drop k ++ anyRow (l.length + 1 - l.length) 4 := List.drop_append_of_le_length (by omega)
        rw [e5, e6, e4]
        have := cCnt_cell l
        rw [hZ, List.all_eq_true] at this
        rw [List.all_eq_true]
        exact fun e he => this e (List.mem_of_mem_drop he)
      have hmap : (l.take k ++ x :: l.drop k).map cCnt = Z.take k ++ cCnt x :: Z.drop k := by rw [← hZ, List.map_append, List.map_cons, List.map_take, List.map_drop]
      rw [hZ]
      repeat (first | refine gA pk ?_ | (show AL _ _ _ _ _ _ _; first | refine s_capPart tok (k + 1) (l.length + 1) rfl rfl rfl rfl rfl rfl rfl rfl (by first | exact rfl | exact ⟨_, _, rfl, by omega⟩) (by first | exact rfl | exact ⟨_, _, rfl, by omega⟩) (by omega) (by omega) ?_))
      refine s_overlaps tok 0 1 (by decide) (tS := 33) (tR := 4) rfl rfl rfl rfl rfl Tryz.func91 (by kernel_rfl) (by kernel_rfl) (by kernel_rfl) (by kernel_rfl) rfl rfl (by decide) rfl rfl (by simp) rfl rfl hne rfl (by omega) ?_
      repeat (first | refine gA pk ?_ | (show AL _ _ _ _ _ _ _; first | refine s_capPart tok (k + 1) (l.length + 1) rfl rfl rfl rfl rfl rfl rfl rfl (by first | exact rfl | exact ⟨_, _, rfl, by omega⟩) (by first | exact rfl | exact ⟨_, _, rfl, by omega⟩) (by omega) (by omega) ?_ | refine s_capPart tok k (l.length + 1) rfl rfl rfl rfl rfl rfl rfl rfl (by first | exact rfl | exact ⟨_, _, rfl, by omega⟩) (by first | exact rfl | exact ⟨_, _, rfl, by omega⟩) (by omega) (by omega) ?_ | refine s_copyPart tok 0 0 (k + 1) k (l.length + 1) (l.length - k) rfl rfl rfl rfl rfl rfl (by decide) rfl rfl rfl (by omega) rfl rfl (by omega) (by omega) (by omega) (by omega) hcell ?_))
      refine s_copyRow tok 0 1 k 1 rfl rfl rfl rfl rfl rfl (by decide) rfl rfl rfl (by simp only [List.length_append, List.length_take, List.length_drop, hel]; omega) rfl rfl (by simp only [List.length_append, List.length_take, List.length_drop, hel]; omega) (by simp only [List.length_append, List.length_take, List.length_drop, hel, l1]; omega) rfl ?_
      repeat (first | refine gA pk ?_)
      refine fin (x := .lit _) (.inr rfl) rfl (Sub.refl _) ⟨_, rfl, rfl⟩ ?_
      rw [hmap, ← hfin]
      exact .keep (.drop .nil)
  · obtain rfl : k = l.length := by omega
    repeat (first | refine gA pk ?_ | (show AL _ _ _ _ _ _ _; first | refine s_capPart tok l.length l.length rfl rfl rfl rfl rfl rfl rfl rfl (by first | exact rfl | exact ⟨_, _, rfl, by omega⟩) (by first | exact rfl | exact ⟨_, _, rfl, by omega⟩) (by omega) (by omega) ?_ | refine s_ownLen tok 0 rfl rfl rfl rfl (by decide) rfl rfl rfl ?_ | refine s_ownLen tok 1 rfl rfl rfl rfl (by decide) rfl rfl rfl ?_ | refine s_cap tok rfl rfl rfl rfl rfl rfl ?_))
    refine s_appendOwn tok 0 1 rfl rfl rfl rfl rfl rfl (by decide) rfl rfl rfl rfl rfl rfl (by simp only [ll, l1]; omega) (by simp only [ll, l1]; omega) (fun v' => ?_)
    repeat (first | refine gA pk ?_)
    refine fin (x := .lit _) (.inr rfl) rfl (Sub.refl _) ⟨v', rfl, rfl⟩ ?_
    rw [List.take_length, List.drop_length, List.map_append]
    exact .keep (.drop .nil)
end Go.Proofs.YtcacbdohlfljfaaGreat
