/-
  Graphs sorted into classes: the walks.
-/
import Derived.Test.YtoaenbfidlgjhaaSjQ8
import Derived.Test.YtoaenbfidlgjhaaW19
namespace Go.Proofs.Ytoaenbfidlgjhaa
open Go.Sj Go.Sj.Typ Go.Sj.Sta Go.Sj.Can
set_option linter.unusedVariables false
set_option linter.unusedSimpArgs false
set_option maxHeartbeats 16000000

def idxX {α : Type} (l : List α) (p : α → Bool) : Int := match l.findIdx? p with | some i => i | none => -1
theorem idxX_any {α : Type} (l : List α) (p : α → Bool) : (l.any p = true ∧ 0 ≤ idxX l p) ∨ (l.any p = false ∧ idxX l p = -1) := by
  unfold idxX
  cases hf : l.findIdx? p with
  | none =>
    right
    rw [List.findIdx?_eq_none_iff] at hf
    exact ⟨by simpa using hf, rfl⟩
  | some i =>
    left
    rw [List.findIdx?_eq_some_iff_getElem] at hf
    obtain ⟨h1, h2, _⟩ := hf
    exact ⟨List.any_eq_true.2 ⟨_, List.getElem_mem h1, h2⟩, by simp only; omega⟩
theorem idxX_at {α : Type} {l : List α} {p : α → Bool} {k : Nat} {a : α} (h : ∀ x ∈ l.take k, p x = false) (hk : l[k]? = some a) (hp : p a = true) : idxX l p = k := by
  have : l.findIdx? p = some k := by
    rw [List.findIdx?_eq_some_iff_getElem]
    obtain ⟨hlt, he⟩ := List.getElem?_eq_some_iff.1 hk
    refine ⟨hlt, by rw [he]; exact hp, fun j hj => ?_⟩
    have := h l[j] (by rw [List.mem_take_iff_getElem]; exact ⟨j, by omega, rfl⟩)
    simp [this]
  unfold idxX
  rw [this]
def cLs (c : List Int) : List AV := [ints c]
def cGr (g : Gr) : List AV := [ints g.nodes, edsA g.edges]
abbrev grsA (l : List Gr) : AV := .im 2 (l.map cGr)
theorem IndexFuncL_spec (l : List (List Int)) (hl : l.length ≤ 1000000) (g : FuncId) (caps : List AV) (p : List Int → Bool) (hg : ∀ a ∈ l, Pure Try.prog g (ints a :: caps) (AB (p a))) :
    Pure Try.prog 56 [.im 1 (l.map cLs), .fn (.func g) [] caps] (AI (idxX l p)) := by
  have ll : (l.map cLs).length = l.length := by simp
  refine a_enter Try.func56 (by kernel_rfl) rfl Try.ntmps56 rfl (by simp) ?_
  repeat (first | refine gA pk ?_)
  rw [ll]
  refine a_loopX (fun k : Nat => [(0, .im 1 (l.map cLs)), (1, .fn (.func g) [] caps), (7, AI l.length), (8, AI k)]) (fun _ => []) (fun k => k ≤ l.length ∧ ∀ x ∈ l.take k, p x = false) (fun k => l.length - k) 0 ⟨Nat.zero_le _, by simp⟩ ?_ (OSub.refl _) ?_
  · exact subQ
  · rintro k ⟨hk, hp⟩
    rcases Nat.lt_or_ge k l.length with h | h
    · have hx := List.getElem?_eq_getElem h
      have ht := List.take_succ_eq_append_getElem h
      have hc := hg _ (List.getElem_mem h)
      generalize l[k] = y at hx ht hc
      have xk : (l.map cLs)[(k : Int).toNat]? = some (cLs y) := map_get hx
      cases hpy : p y with
      | true =>
        rw [hpy] at hc
        repeat (first | refine gA pk ?_ | (show AL _ _ _ _ _ _ _; first | refine jX tok xk ?_ | refine jP hc ?_))
        rw [← idxX_at hp hx hpy]
        refine finQ ?_
        exact ⟨rfl, rfl⟩
      | false =>
        rw [hpy] at hc
        repeat (first | refine gA pk ?_ | (show AL _ _ _ _ _ _ _; first | refine jX tok xk ?_ | refine jP hc ?_))
        refine ⟨k + 1, ⟨by omega, fun x hx' => ?_⟩, by omega, ?_, OSub.none _⟩
        · rw [ht] at hx'
          rcases List.mem_append.1 hx' with h1 | h1
          · exact hp x h1
          · obtain rfl := List.mem_singleton.1 h1
            exact hpy
        · exact subQ
    · obtain rfl : k = l.length := by omega
      rw [List.take_length] at hp
      repeat (first | refine gA pk ?_)
      rw [show (-1 : Int) = idxX l p from by
        rcases idxX_any l p with ⟨h1, _⟩ | ⟨_, h2⟩
        · obtain ⟨x, hx, hpx⟩ := List.any_eq_true.1 h1
          rw [hp x hx] at hpx; cases hpx
        · exact h2.symm]
      refine finQ ?_
      exact ⟨rfl, rfl⟩
theorem IndexFuncGr_spec (l : List Gr) (hl : l.length ≤ 1000000) (g : FuncId) (caps : List AV) (p : Gr → Bool) (hg : ∀ a ∈ l, Pure Try.prog g (.agg (cGr a) :: caps) (AB (p a))) :
    Pure Try.prog 55 [.im 2 (l.map cGr), .fn (.func g) [] caps] (AI (idxX l p)) := by
  have ll : (l.map cGr).length = l.length := by simp
  refine a_enter Try.func55 (by kernel_rfl) rfl Try.ntmps55 rfl (by simp) ?_
  repeat (first | refine gA pk ?_)
  rw [ll]
  refine a_loopX (fun k : Nat => [(0, .im 2 (l.map cGr)), (1, .fn (.func g) [] caps), (7, AI l.length), (8, AI k)]) (fun _ => []) (fun k => k ≤ l.length ∧ ∀ x ∈ l.take k, p x = false) (fun k => l.length - k) 0 ⟨Nat.zero_le _, by simp⟩ ?_ (OSub.refl _) ?_
  · exact subQ
  · rintro k ⟨hk, hp⟩
    rcases Nat.lt_or_ge k l.length with h | h
    · have hx := List.getElem?_eq_getElem h
      have ht := List.take_succ_eq_append_getElem h
      have hc := hg _ (List.getElem_mem h)
      generalize l[k] = y at hx ht hc
      have xk : (l.map cGr)[(k : Int).toNat]? = some (cGr y) := map_get hx
      cases hpy : p y with
      | true =>
        rw [hpy] at hc
        repeat (first | refine gA pk ?_ | (show AL _ _ _ _ _ _ _; first | refine jX tok xk ?_ | refine jP hc ?_))
        rw [← idxX_at hp hx hpy]
        refine finQ ?_
        exact ⟨rfl, rfl⟩
      | false =>
        rw [hpy] at hc
        repeat (first | refine gA pk ?_ | (show AL _ _ _ _ _ _ _; first | refine jX tok xk ?_ | refine jP hc ?_))
        refine ⟨k + 1, ⟨by omega, fun x hx' => ?_⟩, by omega, ?_, OSub.none _⟩
        · rw [ht] at hx'
          rcases List.mem_append.1 hx' with h1 | h1
          · exact hp x h1
          · obtain rfl := List.mem_singleton.1 h1
            exact hpy
        · exact subQ
    · obtain rfl : k = l.length := by omega
      rw [List.take_length] at hp
      repeat (first | refine gA pk ?_)
      rw [show (-1 : Int) = idxX l p from by
        rcases idxX_any l p with ⟨h1, _⟩ | ⟨_, h2⟩
        · obtain ⟨x, hx, hpx⟩ := List.any_eq_true.1 h1
          rw [hp x hx] at hpx; cases hpx
        · exact h2.symm]
      refine finQ ?_
      exact ⟨rfl, rfl⟩
theorem ContainsFuncGr_spec (l : List Gr) (hl : l.length ≤ 1000000) (g : FuncId) (caps : List AV) (p : Gr → Bool) (hg : ∀ a ∈ l, Pure Try.prog g (.agg (cGr a) :: caps) (AB (p a))) :
    Pure Try.prog 30 [.im 2 (l.map cGr), .fn (.func g) [] caps] (AB (l.any p)) := by
  have h := IndexFuncGr_spec l hl g caps p hg
  have hc := idxX_any l p
  generalize idxX l p = i at *
  rcases hc with ⟨h1, h2⟩ | ⟨h1, h2⟩
  · rw [h1]
    refine a_enter Try.func30 (by kernel_rfl) rfl Try.ntmps30 rfl (by simp) ?_
    repeat (first | refine gA pk ?_ | (show AL _ _ _ _ _ _ _; first | refine jP h ?_))
    refine finQ ?_
    exact ⟨rfl, rfl⟩
  · rw [h1]
    refine a_enter Try.func30 (by kernel_rfl) rfl Try.ntmps30 rfl (by simp) ?_
    repeat (first | refine gA pk ?_ | (show AL _ _ _ _ _ _ _; first | refine jP h ?_))
    refine finQ ?_
    exact ⟨rfl, rfl⟩

/-- The error of the first graph that has one. -/
def clsE (l : List Gr) : Int := match l.find? (fun g => decide (cvalid g ≠ 0)) with
  | some g => cvalid g
  | none => 0
def clsI (l : List Gr) (g : Gr) : Int := idxX (l.map codG) (fun x => decide (x = codG g))
def classR (l : List Gr) : List Int × Int := if 40 < l.length then ([], 3) else if clsE l ≠ 0 then ([], clsE l) else (l.map (clsI l), 0)
theorem clsE_stop {l : List Gr} {k : Nat} {g : Gr} (hno : ∀ x ∈ l.take k, cvalid x = 0) (hx : l[k]? = some g) (hg : cvalid g ≠ 0) : clsE l = cvalid g := by
  unfold clsE
  have h : l.find? (fun g => decide (cvalid g ≠ 0)) = some g := by
    rw [← List.take_append_drop k l, List.find?_append, List.find?_eq_none.2 (fun x hx' => by rw [decide_eq_true_eq]; exact fun h => h (hno x hx'))]
    obtain ⟨hk, he⟩ := List.getElem?_eq_some_iff.1 hx
    rw [List.drop_eq_getElem_cons hk, he, Option.none_or, List.find?_cons_of_pos (by rw [decide_eq_true_eq]; exact hg)]
  rw [h]
theorem clsE_none {l : List Gr} (hno : ∀ x ∈ l, cvalid x = 0) : clsE l = 0 := by
  unfold clsE
  rw [List.find?_eq_none.2 (fun x hx' => by rw [decide_eq_true_eq]; exact fun h => h (hno x hx'))]
theorem none_nextG {l : List Gr} {k : Nat} {x : Gr} (hx : l[k]? = some x) (h : cvalid x = 0) (hn : ∀ y ∈ l.take k, cvalid y = 0) : ∀ y ∈ l.take (k + 1), cvalid y = 0 := fun y hy => by
  rw [List.take_add_one, hx] at hy
  rcases List.mem_append.1 hy with hy | hy
  · exact hn y hy
  · simp at hy; subst hy; exact h
theorem cls1_spec (x c : List Int) (hx : x.length ≤ 1000) (hc : c.length ≤ 1000) : Pure Try.prog 57 [ints x, .ip [ints c]] (AB (decide (x = c))) := by
  have s1 := Equal_spec x c (by omega) (by omega)
  generalize decide (x = c) = r at *
  refine a_enter Try.func57 (by kernel_rfl) rfl Try.ntmps57 rfl (by simp) ?_
  repeat (first | refine gA pk ?_ | (show AL _ _ _ _ _ _ _; first | refine jP s1 ?_))
  refine finQ ?_
  exact ⟨rfl, rfl⟩
theorem Classify_spec (l : List Gr) (hl : l.length ≤ 1000) (hg : ∀ g ∈ l, OkG g ∧ (cvalid g = 0 → OkS' g)) : Pure Try.prog 32 [grsA l] (.tup [ints (classR l).1, AI (classR l).2]) := by
  have ll : (l.map cGr).length = l.length := by simp
  obtain ⟨r, hr⟩ : ∃ r, classR l = r := ⟨_, rfl⟩
  rw [hr]
  unfold classR at hr
  by_cases h40 : 40 < l.length
  · rw [if_pos h40] at hr
    subst hr
    refine a_enter Try.func32 (by kernel_rfl) rfl Try.ntmps32 rfl (by simp) ?_
    repeat (first | refine gA pk ?_)
    exact fin (x := .tup [.lit _, .lit _]) (.inr rfl) rfl (Sub.tup (l := [.lit (.slice none 0 0), AI 3]) (m := [ints [], AI 3]) ⟨Sub.nil 1, Sub.refl _, trivial⟩) ⟨rfl, rfl⟩ (OSub.none _)
  · rw [if_neg h40] at hr
    refine a_enter Try.func32 (by kernel_rfl) rfl Try.ntmps32 rfl (by simp) ?_
    repeat (first | refine gN pk ?_)
    rw [ll]
    refine a_loop2 (fun (k : Nat) (v : Value) => [(4, .lit v), (15, grsA l), (16, AI l.length), (17, AI k)]) (fun k v => [(v, .row 22 1 (((l.take k).map codG).map cLs))]) (fun k v => k ≤ l.length ∧ ∀ x ∈ l.take k, cvalid x = 0) (fun k v => l.length - k) 0 (.slice none 0 0) ⟨Nat.zero_le _, by simp⟩ ?_ (.free (OSub.none _)) ?_
    · exact subQ
    · rintro k v ⟨hk, hno⟩
      rcases Nat.lt_or_ge k l.length with h | h
      · have hx := List.getElem?_eq_getElem h
        have hgx := hg _ (List.getElem_mem h)
        generalize l[k] = g at hx hgx
        have xk : (l.map cGr)[(k : Int).toNat]? = some [ints g.nodes, edsA g.edges] := map_get (f := cGr) hx
        have s1 := Code_spec g hgx.1 hgx.2
        by_cases hc : cvalid g = 0
        · rw [codeR_zero hc] at s1
          have hn2 := none_nextG hx hc hno
          have hs : ((l.take (k + 1)).map codG).map cLs = ((l.take k).map codG).map cLs ++ [[ints (codG g)]] := by
            rw [List.take_add_one, hx, List.map_append, List.map_append]
            rfl
          have hlv : (((l.take k).map codG).map cLs).length = k := by simp; omega
          generalize codG g = c at *
          repeat (first | refine gA pk ?_ | (show AL _ _ _ _ _ _ _; first | refine jX tok xk ?_ | refine jL tok (fun u => ?_) | refine jS tok 0 ?_ | refine jO tok 0 ?_ | refine jP s1 ?_))
          (first | refine s_build1 tok rfl rfl rfl rfl rfl rfl rfl rfl (fun u => ?_) | refine s_build1M tok rfl rfl rfl rfl rfl rfl rfl (fun u => ?_) | refine s_build1A tok rfl rfl rfl rfl rfl rfl rfl rfl (by decide) (fun u => ?_)); refine s_append1 tok 1 rfl rfl rfl rfl rfl rfl (by decide) rfl rfl rfl rfl (by omega) (by omega) (fun w => ?_)
          repeat (first | refine gA pk ?_)
          exact ⟨k + 1, w, ⟨by omega, hn2⟩, by omega, by exact subQ, by rw [hs]; exact .drop (OSub.refl _)⟩
        · have he := clsE_stop hno hx hc
          rw [he, if_pos hc] at hr
          subst hr
          have hcr : codeR g = ([], cvalid g) := by unfold codeR; rw [if_pos hc]
          rw [hcr] at s1
          generalize cvalid g = e at *
          repeat (first | refine gA pk ?_ | (show AL _ _ _ _ _ _ _; first | refine jX tok xk ?_ | refine jL tok (fun u => ?_) | refine jS tok 0 ?_ | refine jO tok 0 ?_ | refine jP s1 ?_))
          exact fin (x := .tup [.lit _, .lit _]) (.inr rfl) rfl (Sub.tup (l := [.lit (.slice none 0 0), AI e]) (m := [ints [], AI e]) ⟨Sub.nil 1, Sub.refl _, trivial⟩) ⟨rfl, rfl⟩ (OSub.none _)
      · obtain rfl : k = l.length := by omega
        rw [List.take_length] at hno
        rw [List.take_length]
        refine a_frz 0 4 rfl rfl ?_
        have hC : ∀ c ∈ l.map codG, c.length ≤ 200 := fun c hc => by
          obtain ⟨g, hgm, rfl⟩ := List.mem_map.1 hc
          have hV := cvalid_zero.1 (hno g hgm)
          exact codG_le hV.1 hV.2
        have hre : r = (l.map (clsI l), 0) := by
          rw [clsE_none hno, if_neg (by decide)] at hr
          exact hr.symm
        subst hre
        have hcl : ∀ (j : Nat) (g : Gr), l[j]? = some g → clsI l g = idxX (l.map codG) (fun x => decide (x = codG g)) := fun _ _ _ => rfl
        have lc : ((l.map codG).map cLs).length = l.length := by simp
        repeat (first | refine gN pk ?_)
        rw [lc]
        refine a_loop2 (fun (j : Nat) (w : Value) => [(4, .im 1 ((l.map codG).map cLs)), (9, .lit w), (34, .im 1 ((l.map codG).map cLs)), (35, AI l.length), (36, AI j)]) (fun j w => [(w, .row 3 1 (rowI ((l.take j).map (clsI l))))]) (fun j w => j ≤ l.length) (fun j w => l.length - j) 0 (.slice none 0 0) (Nat.zero_le _) ?_ (.free (OSub.none _)) ?_
        · exact subQ
        · intro j w hj
          rcases Nat.lt_or_ge j l.length with h2 | h2
          · have hx := List.getElem?_eq_getElem h2
            have hs : rowI ((l.take (j + 1)).map (clsI l)) = rowI ((l.take j).map (clsI l)) ++ [[AI (clsI l l[j])]] := by
              rw [List.take_add_one, hx, List.map_append]
              simp [cI]
            have hcj := hC (codG l[j]) (List.mem_map.2 ⟨_, List.getElem_mem h2, rfl⟩)
            have six := IndexFuncL_spec (l.map codG) (by rw [List.length_map]; omega) 57 [.ip [ints (codG l[j])]] (fun x => decide (x = codG l[j])) (fun x hx' => cls1_spec x _ (by have := hC x hx'; omega) (by omega))
            have hci : idxX (l.map codG) (fun x => decide (x = codG l[j])) = clsI l l[j] := rfl
            rw [hci] at six
            generalize clsI l l[j] = ci at *
            generalize l[j] = g at *
            have yk : ((l.map codG).map cLs)[(j : Int).toNat]? = some [ints (codG g)] := by
              rw [Int.toNat_natCast, List.getElem?_map, List.getElem?_map, hx]; rfl
            have hlw : (rowI ((l.take j).map (clsI l))).length = j := by simp; omega
            generalize codG g = c at *
            repeat (first | refine gN pk ?_)
            repeat (first | refine gZ pk ?_ | (show AL _ _ _ _ _ _ _; first | refine jL tok (fun u => ?_) | refine jX tok yk ?_ | refine jS tok 0 ?_))
            refine a_frzBox 0 11 rfl rfl ?_
            repeat (first | refine gA pk ?_ | (show AL _ _ _ _ _ _ _; first | refine jP six ?_))
            (first | refine s_build1 tok rfl rfl rfl rfl rfl rfl rfl rfl (fun u => ?_) | refine s_build1M tok rfl rfl rfl rfl rfl rfl rfl (fun u => ?_) | refine s_build1A tok rfl rfl rfl rfl rfl rfl rfl rfl (by decide) (fun u => ?_)); refine s_append1 tok 0 rfl rfl rfl rfl rfl rfl (by decide) rfl rfl rfl rfl (by omega) (by omega) (fun w2 => ?_)
            repeat (first | refine gA pk ?_)
            exact ⟨j + 1, w2, by omega, by omega, by exact subQ, by rw [hs]; exact OSub.refl _⟩
          · obtain rfl : j = l.length := by omega
            rw [List.take_length]
            refine a_frz 0 9 rfl rfl ?_
            repeat (first | refine gA pk ?_)
            refine finQ ?_
            exact ⟨rfl, rfl⟩
theorem rClassify_spec (l : List Gr) (hl : l.length ≤ 1000) (hg : ∀ g ∈ l, OkG g) : Pure Try.prog 34 [grsA l] (.tup [ints (classR l).1, AI (classR l).2]) := by
  have ll : (l.map cGr).length = l.length := by simp
  obtain ⟨r, hr⟩ : ∃ r, classR l = r := ⟨_, rfl⟩
  rw [hr]
  unfold classR at hr
  by_cases h40 : 40 < l.length
  · rw [if_pos h40] at hr
    subst hr
    refine a_enter Try.func34 (by kernel_rfl) rfl Try.ntmps34 rfl (by simp) ?_
    repeat (first | refine gA pk ?_)
    exact fin (x := .tup [.lit _, .lit _]) (.inr rfl) rfl (Sub.tup (l := [.lit (.slice none 0 0), AI 3]) (m := [ints [], AI 3]) ⟨Sub.nil 1, Sub.refl _, trivial⟩) ⟨rfl, rfl⟩ (OSub.none _)
  · rw [if_neg h40] at hr
    refine a_enter Try.func34 (by kernel_rfl) rfl Try.ntmps34 rfl (by simp) ?_
    repeat (first | refine gN pk ?_)
    refine a_loop2 (fun (k : Nat) (v : Value) => [(0, grsA l), (4, .lit v), (5, AI k)]) (fun k v => [(v, .row 22 1 (((l.take k).map codG).map cLs))]) (fun k v => k ≤ l.length ∧ ∀ x ∈ l.take k, cvalid x = 0) (fun k v => l.length - k) 0 (.slice none 0 0) ⟨Nat.zero_le _, by simp⟩ ?_ (.free (OSub.none _)) ?_
    · exact subQ
    · rintro k v ⟨hk, hno⟩
      rcases Nat.lt_or_ge k l.length with h | h
      · have hx := List.getElem?_eq_getElem h
        have hgx := hg _ (List.getElem_mem h)
        generalize l[k] = g at hx hgx
        have xk : (l.map cGr)[(k : Int).toNat]? = some [ints g.nodes, edsA g.edges] := map_get (f := cGr) hx
        have s1 := rCode_spec g hgx
        by_cases hc : cvalid g = 0
        · rw [codeR_zero hc] at s1
          have hn2 := none_nextG hx hc hno
          have hs : ((l.take (k + 1)).map codG).map cLs = ((l.take k).map codG).map cLs ++ [[ints (codG g)]] := by
            rw [List.take_add_one, hx, List.map_append, List.map_append]
            rfl
          have hlv : (((l.take k).map codG).map cLs).length = k := by simp; omega
          generalize codG g = c at *
          repeat (first | refine gA pk ?_ | (show AL _ _ _ _ _ _ _; first | refine jX tok xk ?_ | refine jP s1 ?_))
          (first | refine s_build1 tok rfl rfl rfl rfl rfl rfl rfl rfl (fun u => ?_) | refine s_build1M tok rfl rfl rfl rfl rfl rfl rfl (fun u => ?_) | refine s_build1A tok rfl rfl rfl rfl rfl rfl rfl rfl (by decide) (fun u => ?_)); refine s_append1 tok 0 rfl rfl rfl rfl rfl rfl (by decide) rfl rfl rfl rfl (by omega) (by omega) (fun w => ?_)
          repeat (first | refine gA pk ?_)
          exact ⟨k + 1, w, ⟨by omega, hn2⟩, by omega, by exact subQ, by rw [hs]; exact OSub.refl _⟩
        · have he := clsE_stop hno hx hc
          rw [he, if_pos hc] at hr
          subst hr
          have hcr : codeR g = ([], cvalid g) := by unfold codeR; rw [if_pos hc]
          rw [hcr] at s1
          generalize cvalid g = e at *
          repeat (first | refine gA pk ?_ | (show AL _ _ _ _ _ _ _; first | refine jX tok xk ?_ | refine jP s1 ?_))
          exact fin (x := .tup [.lit _, .lit _]) (.inr rfl) rfl (Sub.tup (l := [.lit (.slice none 0 0), AI e]) (m := [ints [], AI e]) ⟨Sub.nil 1, Sub.refl _, trivial⟩) ⟨rfl, rfl⟩ (OSub.none _)
      · obtain rfl : k = l.length := by omega
        rw [List.take_length] at hno
        rw [List.take_length]
        refine a_frz 0 4 rfl rfl ?_
        have hC : ∀ c ∈ l.map codG, c.length ≤ 200 := fun c hc => by
          obtain ⟨g, hgm, rfl⟩ := List.mem_map.1 hc
          have hV := cvalid_zero.1 (hno g hgm)
          exact codG_le hV.1 hV.2
        have hre : r = (l.map (clsI l), 0) := by
          rw [clsE_none hno, if_neg (by decide)] at hr
          exact hr.symm
        subst hre
        have hcl : ∀ (j : Nat) (g : Gr), l[j]? = some g → clsI l g = idxX (l.map codG) (fun x => decide (x = codG g)) := fun _ _ _ => rfl
        have lc : ((l.map codG).map cLs).length = l.length := by simp
        repeat (first | refine gN pk ?_)
        refine a_loop2 (fun (j : Nat) (w : Value) => [(0, grsA l), (4, .im 1 ((l.map codG).map cLs)), (8, .lit w), (9, AI j)]) (fun j w => [(w, .row 3 1 (rowI ((l.take j).map (clsI l))))]) (fun j w => j ≤ l.length) (fun j w => l.length - j) 0 (.slice none 0 0) (Nat.zero_le _) ?_ (.free (OSub.none _)) ?_
        · exact subQ
        · intro j w hj
          rcases Nat.lt_or_ge j l.length with h2 | h2
          · have hx := List.getElem?_eq_getElem h2
            have hs : rowI ((l.take (j + 1)).map (clsI l)) = rowI ((l.take j).map (clsI l)) ++ [[AI (clsI l l[j])]] := by
              rw [List.take_add_one, hx, List.map_append]
              simp [cI]
            have hcj := hC (codG l[j]) (List.mem_map.2 ⟨_, List.getElem_mem h2, rfl⟩)
            have hat : ∀ k : Nat, (∀ x ∈ (l.map codG).take k, decide (x = codG l[j]) = false) → (l.map codG)[k]? = some (codG l[j]) → clsI l l[j] = k := fun k h1 h3 => idxX_at h1 h3 (decide_eq_true rfl)
            generalize clsI l l[j] = ci at *
            generalize l[j] = g at *
            have hxC : (l.map codG)[j]? = some (codG g) := by rw [List.getElem?_map, hx]; rfl
            have yk : ((l.map codG).map cLs)[(j : Int).toNat]? = some [ints (codG g)] := by
              rw [Int.toNat_natCast, List.getElem?_map, hxC]; rfl
            have hlw : (rowI ((l.take j).map (clsI l))).length = j := by simp; omega
            have hCk := fun (k : Nat) (x : List Int) (h : (l.map codG)[k]? = some x) => hC x (List.mem_of_getElem? h)
            have hCl : (l.map codG).length = l.length := by simp
            generalize codG g = c at *
            generalize hCC : l.map codG = C at *
            repeat (first | refine gN pk ?_)
            refine a_loopX (fun k : Nat => [(0, grsA l), (4, .im 1 (C.map cLs)), (8, .lit w), (9, AI j), (10, AI k)]) (fun k => [(w, .row 3 1 (rowI ((l.take j).map (clsI l))))]) (fun k => k ≤ j ∧ ∀ x ∈ C.take k, decide (x = c) = false) (fun k => j - k) 0 ⟨Nat.zero_le _, by simp⟩ ?_ (OSub.refl _) ?_
            · exact subQ
            · rintro k ⟨hk, hnk⟩
              have hz := List.getElem?_eq_getElem (l := C) (i := k) (by omega)
              generalize C[k]'(by omega) = y at hz
              have hyl := hCk k y hz
              have zk : (C.map cLs)[(k : Int).toNat]? = some [ints y] := map_get (f := cLs) hz
              have scm := rcmp_spec y c (by omega) (by omega)
              have hat' := hat k hnk
              by_cases hyc : y = c
              · have hci : ci = k := hat' (by rw [hz, hyc])
                have z0 : cmpL y c = 0 := by rw [hyc, cmpL_self]
                rw [z0] at scm
                rw [hci] at hs
                repeat (first | refine gN pk ?_)
                refine a_regG ((List.range 10).map fun i => if inL [8] i = true then .eff else .pure) [] [0, 1, 2, 3, 4, 5, 6, 7, 8, 9] .stop mixed rfl rfl (by decide +kernel) ?_
                repeat' (first | (with_reducible show AG _ _ _ _ _ _ _ _ _ _; first | exact ag_none | refine ag_stop ?_ | refine ag_nd ?_ ?_) | (show AMid _ _ _ _; first | refine amid_f ?_ | refine amid_g (by first | exact OSub.refl _ | exact .drop (OSub.refl _) | exact .drop (.drop (OSub.refl _))) ?_) | refine gY pk ?_ | (show AL _ _ _ _ _ _ _; first | refine jX tok zk ?_ | refine jX tok yk ?_ | refine jP scm ?_) | fail)
                repeat (first | refine gN pk ?_)
                (first | refine s_build1 tok rfl rfl rfl rfl rfl rfl rfl rfl (fun u => ?_) | refine s_build1M tok rfl rfl rfl rfl rfl rfl rfl (fun u => ?_) | refine s_build1A tok rfl rfl rfl rfl rfl rfl rfl rfl (by decide) (fun u => ?_)); refine s_append1 tok 0 rfl rfl rfl rfl rfl rfl (by decide) rfl rfl rfl rfl (by omega) (by omega) (fun w2 => ?_)
                repeat (first | refine gA pk ?_)
                exact ⟨j + 1, w2, by omega, by omega, by exact subQ, by rw [hs]; exact OSub.refl _⟩
              · have hkj : k < j := by
                  rcases Nat.lt_or_ge k j with h | h
                  · exact h
                  · exfalso
                    have : k = j := by omega
                    subst this
                    rw [hxC] at hz
                    exact hyc (Option.some.inj hz).symm
                have z0 : cmpL y c ≠ 0 := fun e => hyc (cmpL_eq e)
                generalize cmpL y c = z at *
                have hn3 : ∀ x ∈ C.take (k + 1), decide (x = c) = false := fun x hx' => by
                  rw [List.take_add_one, hz] at hx'
                  rcases List.mem_append.1 hx' with hx' | hx'
                  · exact hnk x hx'
                  · simp at hx'; subst hx'; exact decide_eq_false hyc
                repeat (first | refine gN pk ?_)
                refine a_regG ((List.range 10).map fun i => if inL [8] i = true then .eff else .pure) [] [0, 1, 2, 3, 4, 5, 6, 7, 8, 9] .stop mixed rfl rfl (by decide +kernel) ?_
                repeat' (first | (with_reducible show AG _ _ _ _ _ _ _ _ _ _; first | exact ag_none | refine ag_stop ?_ | refine ag_nd ?_ ?_) | (show AMid _ _ _ _; first | refine amid_f ?_ | refine amid_g (by first | exact OSub.refl _ | exact .drop (OSub.refl _) | exact .drop (.drop (OSub.refl _))) ?_) | refine gY pk ?_ | (show AL _ _ _ _ _ _ _; first | refine jX tok zk ?_ | refine jX tok yk ?_ | refine jP scm ?_) | fail)
                repeat (first | refine gA pk ?_)
                exact ⟨k + 1, ⟨by omega, hn3⟩, by omega, by exact subQ, OSub.refl _⟩
          · obtain rfl : j = l.length := by omega
            rw [List.take_length]
            refine a_frz 0 8 rfl rfl ?_
            repeat (first | refine gA pk ?_)
            refine finQ ?_
            exact ⟨rfl, rfl⟩
end Go.Proofs.Ytoaenbfidlgjhaa
