/- Parts of a proof. -/
import Derived.Handy
import Derived.Lib.AppendZerosOnto
import Derived.Lib.Overlaps
import Derived.Laws.Runes
import Derived.Laws.Externs
import Derived.Laws.Cover3
import Derived.WalkKit
import Derived.WalkSpells
import Derived.WalkLawsBesides
import Derived.Deep.Draws
import Derived.Orders
import Derived.Still
import Derived.Laws.Bits64
import Derived.Laws.Bits64b
import Derived.ProofKit
import Derived.WideKeyArgs
import Derived.OpenShut
import Derived.SizedLaws
import Derived.Sort.AssemblyPlain
import Derived.Test.YtimfponihbfimaaGreatP79
set_option linter.unusedVariables false
set_option linter.unusedSimpArgs false
section
namespace Go.Proofs.YtimfponihbfimaaGreat
open Go.Sj Go.Sj.Typ Go.Sj.Sta Go.Sj.Inc Go.Sj.Can
set_option maxRecDepth 8000
set_option maxHeartbeats 16000000
structure TyG (t : Tys) : Prop where
  sm : Small t
  pr : PR t.nodes t.nodes.length
  ed : ∀ e ∈ t.edges, 0 ≤ e.fr ∧ 0 ≤ e.to
  vl : (validR t).2 = 0
  ne : 1 ≤ t.nodes.length
def Amg (tn : List Nod) (k : Int) (ns r : List Int) : Prop := ∀ x ∈ r, (0 ≤ x ∧ x < ns.length) ∧ k ∈ up tn (ns.getD x.toNat 0)
def EdS (tn : List Nod) (te : List Edg) (ns : List Int) (es : List Ed) : Prop := ∀ e ∈ es, (0 ≤ e.ty ∧ e.ty < te.length) ∧ (0 ≤ e.fr ∧ e.fr < ns.length) ∧ (0 ≤ e.to ∧ e.to < ns.length) ∧ ∃ y : Edg, te[e.ty.toNat]? = some y ∧ y.fr ∈ up tn (ns.getD e.fr.toNat 0) ∧ y.to ∈ up tn (ns.getD e.to.toNat 0)
theorem amongS_spec (t : Tys) (ht : TyG t) (ns : List Int) (es : List Ed) (hn : ns.length ≤ 8) (hns : ∀ x ∈ ns, 0 ≤ x ∧ x < t.nodes.length) (k : Int) (hk : 0 ≤ k) (vn ve : Value) :
    Go.Sj.ACalls Tryz.prog 95 [tysA t, .agg [.lit vn, .lit ve], AI k] [(vn, .row 3 1 (rowI ns)), (ve, .row 112 3 (es.map cEd))]
      (fun y L => ∃ (r : List Int) (w : Value), y = .lit w ∧ r.length ≤ ns.length ∧ Amg t.nodes k ns r ∧ L = [(w, .row 3 1 (rowI r)), (vn, .row 3 1 (rowI ns)), (ve, .row 112 3 (es.map cEd))]) := by
  have ll : (rowI ns).length = ns.length := by simp
  have s1 := fun (a : Int) (h0 : 0 ≤ a) (ha : a < t.nodes.length) => Below1_spec t t.nodes.length (Nat.le_refl _) ht.pr k hk (a.toNat + 1) a (by omega) (by omega) ha
  obtain ⟨tn, te⟩ := t
  simp only at s1 hns
  change ∀ a : Int, 0 ≤ a → a < tn.length → Pure _ _ [.agg [nodsA tn, edgsA te], AI a, AI k] _ at s1
  change Go.Sj.ACalls _ _ [.agg [nodsA tn, edgsA te], _, _] _ _
  refine zen Tryz.func95 (by kernel_rfl) rfl Tryz.ntmps95 rfl (by simp) ?_
  refine a_seq ?_
  refine a_reg ?_
  repeat (first | refine gZ pk ?_ | (show AL _ _ _ _ _ _ _; first | refine jB (fun u => ?_)))
  refine zfb 1 3 rfl rfl ?_
  refine zfb 0 4 rfl rfl ?_
  repeat (first | refine gA pk ?_)
  refine a_loopG3 (fun (i : Nat) (r : List Int) (v : Value) => [(2, AI k), (3, .ip [nodsA tn, edgsA te]), (4, .ip [.lit vn, .lit ve]), (7, .lit v), (8, AI i)]) (fun i r v => [(v, .row 3 1 (rowI r)), (vn, .row 3 1 (rowI ns)), (ve, .row 112 3 (es.map cEd))]) (fun i r _ => i ≤ ns.length ∧ r.length ≤ i ∧ Amg tn k ns r) (fun i _ _ => ns.length - i) 0 [] (.slice none 0 0) ⟨Nat.zero_le _, Nat.le_refl _, fun x hx => by cases hx⟩ (.sub (by exact subQ) (.free (OSub.refl _))) ?_
  rintro i r v ⟨hi, hr, hA⟩
  have lr : (rowI r).length = r.length := by simp
  rcases Nat.lt_or_ge i ns.length with h | h
  · have h1 := List.getElem?_eq_getElem h
    have hx := hns _ (List.getElem_mem h)
    generalize ns[i] = x at h1 hx
    have s2 := s1 x hx.1 hx.2
    have gx : ns[((i : Nat) : Int).toNat]? = some x := by rw [Int.toNat_natCast]; exact h1
    have hA2 : k ∈ up tn x → Amg tn k ns (r ++ [(i : Int)]) := fun hk y hy => by
      rcases List.mem_append.1 hy with hy | hy
      · exact hA y hy
      · simp at hy
        subst hy
        refine ⟨by omega, ?_⟩
        rw [List.getD_eq_getElem?_getD, Int.toNat_natCast, h1]
        exact hk
    obtain ⟨b, hb⟩ : ∃ b, decide (k ∈ up tn x) = b := ⟨_, rfl⟩
    rw [hb] at s2
    have hset : rowI (r ++ [(i : Int)]) = rowI r ++ [[AI i]] := by simp [cI]
    repeat (first | refine gN pk ?_ | (show AL _ _ _ _ _ _ _; first | refine zol tok 1 rfl rfl rfl rfl (by decide) rfl rfl rfl ?_))
    refine zrg ((List.range 8).map fun i => if inL [7] i = true then .eff else if inL [0, 2, 4, 5] i = true then .read else .pure) [] [0, 1, 2, 3, 4, 5, 6, 7] .stop mixed rfl rfl (by decide +kernel) ?_
    cases b
    · repeat' (first | (with_reducible show AG _ _ _ _ _ _ _ _ _ _; first | exact zgn | refine zgs ?_ | refine znd ?_ ?_) | (show AMid _ _ _ _; first | refine zmf ?_ | refine zmg (by first | exact OSub.refl _ | exact .drop (OSub.refl _) | exact .drop (.drop (OSub.refl _))) ?_) | refine gY pk ?_ | (show AL _ _ _ _ _ _ _; first | refine zoi tok 1 rfl rfl rfl rfl (by decide) rfl rfl rfl rfl rfl rfl (by omega) (by omega) ?_ | refine s_loadI tok 1 rfl rfl rfl rfl (by decide) rfl rfl rfl rfl gx ?_ | refine jP s2 ?_) | fail)
      repeat (first | refine gA pk ?_)
      exact ⟨i + 1, r, v, ⟨by omega, by omega, hA⟩, by omega, .sub (by exact subQ) (OSub.refl _)⟩
    · repeat' (first | (with_reducible show AG _ _ _ _ _ _ _ _ _ _; first | exact zgn | refine zgs ?_ | refine znd ?_ ?_) | (show AMid _ _ _ _; first | refine zmf ?_ | refine zmg (by first | exact OSub.refl _ | exact .drop (OSub.refl _) | exact .drop (.drop (OSub.refl _))) ?_) | refine gY pk ?_ | (show AL _ _ _ _ _ _ _; first | refine zoi tok 1 rfl rfl rfl rfl (by decide) rfl rfl rfl rfl rfl rfl (by omega) (by omega) ?_ | refine s_loadI tok 1 rfl rfl rfl rfl (by decide) rfl rfl rfl rfl gx ?_ | refine jP s2 ?_) | fail)
      repeat (first | refine gA pk ?_ | (show AL _ _ _ _ _ _ _; first | refine s_build1 tok rfl rfl rfl rfl rfl rfl rfl rfl (fun lv => ?_) | refine zak tok 0 rfl rfl rfl rfl rfl rfl (by decide) rfl rfl rfl rfl (by omega) (by omega) (fun w hw => ?_)))
      exact ⟨i + 1, r ++ [(i : Int)], w, ⟨by omega, by simp; omega, hA2 (of_decide_eq_true hb)⟩, by omega, .sub (by exact subQ) (by rw [hset]; exact OSub.refl _)⟩
  · obtain rfl : i = ns.length := by omega
    repeat (first | refine gA pk ?_ | (show AL _ _ _ _ _ _ _; first | refine zol tok 1 rfl rfl rfl rfl (by decide) rfl rfl rfl ?_))
    exact fin (x := .lit _) (.inr rfl) rfl (Sub.refl _) ⟨r, v, rfl, hr, hA, rfl⟩ (OSub.refl _)
theorem made17S_spec (t : Tys) (ht : TyG t) (d : Dr5) (hd : OkD5 d) (abs : Bool) :
    Go.Sj.ACalls Tryz.prog 56 [tysA t, dr5A d, AB abs] [] (fun y L => (∃ g : Gr, y = grA g ∧ (g.nodes.length ≤ 8 ∧ g.nodes.length ≤ d.nodes.length) ∧ g.edges.length ≤ 10 ∧ g.edges.length ≤ d.edges.length ∧ (∀ x ∈ g.nodes, 0 ≤ x ∧ x < t.nodes.length) ∧ EdS t.nodes t.edges g.nodes g.edges) ∧ L = []) := by
  have sam := fun ns es h1 h2 k h3 vn ve => amongS_spec t ht ns es h1 h2 k h3 vn ve
  have ht1 := ht.sm.nodes
  have ht2 := ht.sm.edges
  have hed := ht.ed
  obtain ⟨tn, te⟩ := t
  obtain ⟨dn, de⟩ := d
  obtain ⟨hd1, hd2, hd3, hd4⟩ := hd
  simp only at sam ht1 ht2 hed hd1 hd2 hd3 hd4
  have ltn : (tn.map cNod).length = tn.length := by simp
  have lte : (te.map cEdg).length = te.length := by simp
  have ldn : (dn.map c8).length = dn.length := by simp
  have lde : (de.map c83).length = de.length := by simp
  have hr1 : ∀ (l : List Int), ∀ x ∈ rowI l, x.length = 1 := fun l x hx => by
    obtain ⟨y, _, rfl⟩ := List.mem_map.1 hx
    rfl
  have hr3 : ∀ (l : List Ed), ∀ x ∈ l.map cEd, x.length = 3 := fun l x hx => by
    obtain ⟨y, _, rfl⟩ := List.mem_map.1 hx
    rfl
  change Go.Sj.ACalls _ _ [.agg [nodsA tn, edgsA te], .agg [bytesA dn, .im 3 (de.map c83)], AB abs] _ _
  refine a_enterC Tryz.func56 (by kernel_rfl) rfl Tryz.ntmps56 rfl (tok _ _ rfl) (by simp) ?_
  refine a_seq ?_
  refine a_reg ?_
  repeat (first | refine gZ pk ?_ | (show AL _ _ _ _ _ _ _; first | refine jB (fun u => ?_) | refine jL tok (fun U6 => ?_)))
  refine zfb 2 3 rfl rfl ?_
  refine zfb 1 4 rfl rfl ?_
  repeat (first | refine gA pk ?_)
  refine a_loopG3 (fun (i : Nat) (K : List Int) (v : Value) => [(2, AB abs), (3, .ip [nodsA tn, edgsA te]), (4, .ip [bytesA dn, .im 3 (de.map c83)]), (6, .pt U6 0 0 0), (7, .lit v), (8, AI i)]) (fun i K v => [(v, .row 3 1 (rowI K)), (U6, .box [nilS, nilS])]) (fun i K _ => i ≤ tn.length ∧ K.length ≤ i ∧ ∀ x ∈ K, 0 ≤ x ∧ x < tn.length) (fun i _ _ => tn.length - i) 0 [] (.slice none 0 0) ⟨Nat.zero_le _, Nat.le_refl _, fun x hx => by cases hx⟩ (.sub (by exact subQ) (.free (OSub.refl _))) ?_
  rintro i K v ⟨hi, hK, hKr⟩
  have lK : (rowI K).length = K.length := by simp
  rcases Nat.lt_or_ge i tn.length with h | h
  · have h1 := List.getElem?_eq_getElem h
    generalize tn[i] = nd at h1
    obtain ⟨n1, n2, n3, n4⟩ := nd
    have xk : (tn.map cNod)[(i : Int).toNat]? = some [AS n1, AI n2, AB n3, attrsA n4] := zmp (f := cNod) h1
    have hset : rowI (K ++ [(i : Int)]) = rowI K ++ [[AI i]] := by simp [cI]
    have hK2 : ∀ x ∈ K ++ [(i : Int)], 0 ≤ x ∧ x < tn.length := fun x hx => by
      rcases List.mem_append.1 hx with hx | hx
      · exact hKr x hx
      · simp at hx
        omega
    cases abs <;> cases n3
    all_goals
      repeat (first | refine gA pk ?_ | (show AL _ _ _ _ _ _ _; first | refine jX tok xk ?_ | refine s_build1 tok rfl rfl rfl rfl rfl rfl rfl rfl (fun lv => ?_) | refine zak tok 0 rfl rfl rfl rfl rfl rfl (by decide) rfl rfl rfl rfl (by omega) (by omega) (fun w hw => ?_)))
      first
        | exact ⟨i + 1, K ++ [(i : Int)], w, ⟨by omega, by simp; omega, hK2⟩, by omega, .sub (by exact subQ) (by rw [hset]; exact OSub.refl _)⟩
        | exact ⟨i + 1, K, v, ⟨by omega, by omega, hKr⟩, by omega, .sub (by exact subQ) (OSub.refl _)⟩
  obtain rfl : i = tn.length := by omega
  have hKl : K.length ≤ 20 := by omega
  clear hK
  refine a_frz 0 7 rfl rfl ?_
  repeat (first | refine gZ pk ?_)
  refine a_reg ?_
  repeat (first | refine gZ pk ?_)
  refine a_reg ?_
  repeat (first | refine gY pk ?_ | (show AL _ _ _ _ _ _ _; first | refine jL tok (fun ug => ?_)))
  refine a_mid (fun st L => ∃ (G : List Int) (v : Value), (G.length ≤ 8 ∧ G.length ≤ dn.length ∧ ∀ x ∈ G, 0 ≤ x ∧ x < tn.length) ∧ GoTo 157 st L (lk [(3, .ip [nodsA tn, edgsA te]), (4, .ip [bytesA dn, .im 3 (de.map c83)]), (6, .pt U6 0 0 0), (9, .pt ug 0 0 0)]) [(ug, .box [.lit v, nilS]), (v, .row 3 1 (rowI G)), (U6, .box [nilS, nilS])]) ?_ (fun st L h => ?_)
  · repeat (first | refine gA pk ?_)
    refine a_loopG3 (fun (i : Nat) (G : List Int) (v : Value) => [(3, .ip [nodsA tn, edgsA te]), (4, .ip [bytesA dn, .im 3 (de.map c83)]), (6, .pt U6 0 0 0), (7, ints K), (9, .pt ug 0 0 0), (10, AI i)]) (fun i G v => [(ug, .box [.lit v, nilS]), (v, .row 3 1 (rowI G)), (U6, .box [nilS, nilS])]) (fun i G _ => i ≤ 8 ∧ i ≤ dn.length ∧ G.length = i ∧ ∀ x ∈ G, 0 ≤ x ∧ x < tn.length) (fun i _ _ => 8 - i) 0 [] (.slice none 0 0) ⟨by omega, Nat.zero_le _, rfl, fun x hx => by cases hx⟩ (.sub (by exact subQ) (.keep (.free (OSub.refl _)))) ?_
    rintro i G v ⟨hi8, hid, hG, hGr⟩
    have lG : (rowI G).length = G.length := by simp
    by_cases hgo : i < dn.length ∧ i < 8 ∧ 0 < K.length
    · obtain ⟨g1, g2, g3⟩ := hgo
      have h1 := List.getElem?_eq_getElem g1
      have hx := hd1 _ (List.getElem_mem g1)
      generalize dn[i] = x at h1 hx
      have xk : (dn.map c8)[(i : Int).toNat]? = some [A8 x] := zmp (f := c8) h1
      have hm0 := Int.emod_nonneg x (b := (K.length : Int)) (by omega)
      have hm1 := Int.emod_lt_of_pos x (b := (K.length : Int)) (by omega)
      have h2 := List.getElem?_eq_getElem (l := K) (i := (x % (K.length : Int)).toNat) (by omega)
      have hy := hKr _ (List.getElem_mem (l := K) (n := (x % (K.length : Int)).toNat) (by omega))
      generalize K[(x % (K.length : Int)).toNat] = y at h2 hy
      have yk : (rowI K)[(x % ((rowI K).length : Int)).toNat]? = some [AI y] := by rw [lK]; exact zmp (f := cI) h2
      rw [← lK] at hm0 hm1
      have hset : rowI (G ++ [y]) = rowI G ++ [[AI y]] := by simp [cI]
      have hG2 : ∀ z ∈ G ++ [y], 0 ≤ z ∧ z < tn.length := fun z hz => by
        rcases List.mem_append.1 hz with hz | hz
        · exact hGr z hz
        · simp at hz
          subst hz
          exact hy
      repeat (first | refine gN pk ?_ | (show AL _ _ _ _ _ _ _; first | refine jX tok xk ?_))
      refine zrg ((List.range 18).map fun i => if inL [14, 15, 17] i = true then .eff else if inL [1, 4, 6, 7, 10, 12, 13] i = true then .read else .pure) [14] [0, 1, 2, 3, 4, 5, 6, 7, 8, 9, 10, 11, 12, 13] (.nd 14 [15, 16, 17] .stop .stop) mixed rfl rfl (by decide +kernel) ?_
      repeat' (first | (with_reducible show AG _ _ _ _ _ _ _ _ _ _; first | exact zgn | refine zgs ?_ | refine znd ?_ ?_) | (show AMid _ _ _ _; first | refine zmf ?_ | refine zmg (by first | exact OSub.refl _ | exact .drop (OSub.refl _) | exact .drop (.drop (OSub.refl _))) ?_) | refine gY pk ?_ | (show AL _ _ _ _ _ _ _; first | refine jO tok 0 ?_ | refine jX tok xk ?_ | refine zcv tok rfl rfl rfl rfl rfl rfl rfl (IntWalk.i64_in _ (by omega)) ?_ | refine s_rem rfl rfl rfl rfl rfl rfl (by omega) (by omega) ?_ | refine s_index tok rfl rfl rfl rfl rfl rfl rfl rfl rfl hm0 yk ?_ | refine s_build1 tok rfl rfl rfl rfl rfl rfl rfl rfl (fun lv => ?_) | refine zak tok 1 rfl rfl rfl rfl rfl rfl (by decide) rfl rfl rfl rfl (by omega) (by omega) (fun w hw => ?_) | refine zsb tok 0 rfl rfl rfl rfl rfl rfl rfl hw rfl (Nat.le_of_ble_eq_true rfl) rfl ?_) | fail)
      all_goals
        repeat (first | refine gA pk ?_)
        exact ⟨i + 1, G ++ [y], w, ⟨by omega, by omega, by simp; omega, hG2⟩, by omega, .sub (by exact subQ) (by rw [hset]; exact OSub.refl _)⟩
    have hex : dn.length ≤ i ∨ (i < dn.length ∧ 8 ≤ i) ∨ (i < dn.length ∧ i < 8 ∧ K.length = 0) := by omega
    rcases hex with hx | ⟨hx1, hx2⟩ | ⟨hx1, hx2, hx3⟩
    all_goals
      repeat (first | refine gA pk ?_)
      exact ⟨G, v, ⟨by omega, by omega, hGr⟩, .sub (by exact subQ) (OSub.refl _)⟩
  obtain ⟨G, v, ⟨hG8, hGd, hGr⟩, h⟩ := h
  refine zgt h ?_
  clear h
  have lG : (rowI G).length = G.length := by simp
  refine a_mid (fun st L => ∃ (E : List Ed) (ve : Value), (E.length ≤ 10 ∧ E.length ≤ de.length ∧ EdS tn te G E) ∧ GoTo 157 st L (lk [(6, .pt U6 0 0 0), (9, .pt ug 0 0 0)]) [(v, .row 3 1 (rowI G)), (ve, .row 112 3 (E.map cEd)), (ug, .box [.lit v, .lit ve]), (U6, .box [nilS, nilS])]) ?_ (fun st L h => ?_)
  rotate_left
  · obtain ⟨E, ve, ⟨hE1, hE2, hE3⟩, h⟩ := h
    refine zgt h ?_
    clear h
    refine zgt (GoTo.freeze 0 rfl (FZS.refl _) [(ve, OB.row 112 3 (E.map cEd)), (ug, OB.box [ints G, .lit ve]), (U6, OB.box [nilS, nilS])] (zfw (hr3 _) (zfo ⟨FZ.here, FZ.refl _, trivial⟩ (zfo (FZL.refl _) trivial)))) ?_
    refine zgt (GoTo.freeze 0 rfl (FZS.refl _) [(ug, OB.box [ints G, edsA E]), (U6, OB.box [nilS, nilS])] (zfo ⟨FZ.refl _, FZ.here, trivial⟩ (zfo (FZL.refl _) trivial))) ?_
    refine zfb 0 9 rfl rfl ?_
    repeat (first | refine gV pk ?_ | (show AL _ _ _ _ _ _ _; first | refine jS tok 0 ?_))
    refine zfb 0 6 rfl rfl ?_
    refine a_ret ?_
    exact ⟨.inr rfl, _, _, _, _, rfl, rfl, Turn.of (Sub.of_eq rfl) (OSub.none _), ⟨⟨G, E⟩, rfl, ⟨hG8, hGd⟩, hE1, hE2, hGr, hE3⟩, rfl⟩
  · repeat (first | refine gA pk ?_)
    refine a_loopG3 (fun (i : Nat) (E : List Ed) (ve : Value) => [(3, .ip [nodsA tn, edgsA te]), (4, .ip [bytesA dn, .im 3 (de.map c83)]), (6, .pt U6 0 0 0), (9, .pt ug 0 0 0), (11, AI i)]) (fun i E ve => [(v, .row 3 1 (rowI G)), (ve, .row 112 3 (E.map cEd)), (ug, .box [.lit v, .lit ve]), (U6, .box [nilS, nilS])]) (fun i E _ => i ≤ 10 ∧ i ≤ de.length ∧ E.length ≤ i ∧ EdS tn te G E) (fun i _ _ => 10 - i) 0 [] (.slice none 0 0) ⟨by omega, Nat.zero_le _, Nat.le_refl _, fun x hx => by cases hx⟩ ((GoTo.perm (List.Perm.swap _ _ _)).trans (.sub (by exact subQ) (.keep (.free (OSub.refl _))))) ?_
    rintro j E ve ⟨hj10, hjd, hE, hEs⟩
    have lE : (E.map cEd).length = E.length := by simp
    by_cases hgo : j < de.length ∧ j < 10 ∧ 0 < te.length
    rotate_left
    · have hex : de.length ≤ j ∨ (j < de.length ∧ 10 ≤ j) ∨ (j < de.length ∧ j < 10 ∧ te.length = 0) := by omega
      rcases hex with hx | ⟨hx1, hx2⟩ | ⟨hx1, hx2, hx3⟩
      all_goals
        repeat (first | refine gA pk ?_)
        exact ⟨E, ve, ⟨by omega, by omega, hEs⟩, .sub (by exact subQ) (OSub.refl _)⟩
    obtain ⟨g1, g2, g3⟩ := hgo
    have h1 := List.getElem?_eq_getElem g1
    have hx := hd2 _ (List.getElem_mem g1)
    generalize de[j] = c at h1 hx
    obtain ⟨c1, c2, c3⟩ := c
    obtain ⟨hc1, hc2, hc3⟩ := hx
    simp only at hc1 hc2 hc3
    have xk : (de.map c83)[(j : Int).toNat]? = some [A8 c1, A8 c2, A8 c3] := zmp (f := c83) h1
    have hm0 := Int.emod_nonneg c1 (b := (te.length : Int)) (by omega)
    have hm1 := Int.emod_lt_of_pos c1 (b := (te.length : Int)) (by omega)
    have h2 := List.getElem?_eq_getElem (l := te) (i := (c1 % (te.length : Int)).toNat) (by omega)
    have hy := hed _ (List.getElem_mem (l := te) (n := (c1 % (te.length : Int)).toNat) (by omega))
    generalize te[(c1 % (te.length : Int)).toNat] = ty at h2 hy
    obtain ⟨y1, yf, yt, y4, y5, y6, y7⟩ := ty
    simp only at hy
    have yk : (te.map cEdg)[(c1 % ((te.map cEdg).length : Int)).toNat]? = some [AS y1, AI yf, AI yt, AI y4, AI y5, AI y6, AI y7] := by rw [lte]; exact zmp (f := cEdg) h2
    rw [← lte] at hm0 hm1
    have h2t : te[(c1 % ((te.map cEdg).length : Int)).toNat]? = some ⟨y1, yf, yt, y4, y5, y6, y7⟩ := by rw [lte]; exact h2
    have sf := sam G E hG8 hGr yf hy.1 v ve
    have st := sam G E hG8 hGr yt hy.2 v ve
    repeat (first | refine gN pk ?_)
    refine zrg ((List.range 12).map fun i => if inL [1, 3, 4, 5, 8, 9] i = true then .read else .pure) [] [0, 1, 2, 3, 4, 5, 6, 7, 8, 9, 10, 11] .stop mixed rfl rfl (by decide +kernel) ?_
    repeat' (first | (with_reducible show AG _ _ _ _ _ _ _ _ _ _; first | exact zgn | refine zgs ?_ | refine znd ?_ ?_) | (show AMid _ _ _ _; first | refine zmf ?_ | refine zmg (by first | exact OSub.refl _ | exact .drop (OSub.refl _) | exact .drop (.drop (OSub.refl _))) ?_) | refine gY pk ?_ | (show AL _ _ _ _ _ _ _; first | refine jX tok xk ?_ | refine s_arrIp tok rfl rfl rfl rfl rfl rfl rfl rfl (by decide) (by decide) ?_ | refine zcv tok rfl rfl rfl rfl rfl rfl rfl (IntWalk.i64_in _ (by omega)) ?_ | refine s_rem rfl rfl rfl rfl rfl rfl (by omega) (by omega) ?_) | fail)
    refine a_mid (fun st L => ∃ (r1 r2 : List Int) (w1 w2 : Value), (r1.length ≤ 8 ∧ r2.length ≤ 8 ∧ Amg tn yf G r1 ∧ Amg tn yt G r2) ∧ GoTo 157 st L (lk [(3, .ip [nodsA tn, edgsA te]), (4, .ip [bytesA dn, .im 3 (de.map c83)]), (6, .pt U6 0 0 0), (9, .pt ug 0 0 0), (11, AI j), (12, AI (c1 % ((te.map cEdg).length : Int))), (13, .lit w1), (14, .lit w2)]) [(w2, .row 3 1 (rowI r2)), (v, .row 3 1 (rowI G)), (ve, .row 112 3 (E.map cEd)), (w1, .row 3 1 (rowI r1)), (ug, .box [.lit v, .lit ve]), (U6, .box [nilS, nilS])]) ?_ (fun st L h => ?_)
    · refine zrg ((List.range 20).map fun i => if inL [8, 17] i = true then .eff else if inL [0, 1, 3, 5, 7, 9, 10, 12, 14, 16] i = true then .read else .pure) [8] [0, 1, 2, 3, 4, 5, 6, 7, 9, 10, 11, 12, 13, 14, 15, 16] (.nd 8 [17, 18, 19] .stop .stop) mixed rfl rfl (by decide +kernel) ?_
      repeat' (first | (with_reducible show AG _ _ _ _ _ _ _ _ _ _; first | exact zgn | refine zgs ?_ | refine znd ?_ ?_) | (show AMid _ _ _ _; first | refine zmf ?_ | refine zmg (by first | exact OSub.refl _ | exact .drop (OSub.refl _) | exact .drop (.drop (OSub.refl _))) ?_) | refine gY pk ?_ | (show AL _ _ _ _ _ _ _; first | refine jO tok 2 ?_ | refine jO tok 3 ?_ | refine s_index tok rfl rfl rfl rfl rfl rfl rfl rfl rfl hm0 yk ?_ | refine zsc (Lc := [(v, .row 3 1 (rowI G)), (ve, .row 112 3 (E.map cEd))]) (Lr := [(ug, .box [.lit v, .lit ve]), (U6, .box [nilS, nilS])]) rfl rfl rfl rfl rfl sf (SubL.of_eq rfl) (List.Perm.refl _) ?_; rintro _ _ ⟨r1, w1, rfl, q1, qa1, rfl⟩ | refine zsc (Lc := [(v, .row 3 1 (rowI G)), (ve, .row 112 3 (E.map cEd))]) (Lr := [(w1, .row 3 1 (rowI r1)), (ug, .box [.lit v, .lit ve]), (U6, .box [nilS, nilS])]) rfl rfl rfl rfl rfl st (SubL.of_eq rfl) (List.perm_middle (l₁ := [_, _]) (l₂ := [_, _])).symm ?_; rintro _ _ ⟨r2, w2, rfl, q2, qa2, rfl⟩) | fail)
      exact ⟨r1, r2, w1, w2, ⟨by omega, by omega, qa1, qa2⟩, .sub (by exact subQ) (OSub.refl _)⟩
    obtain ⟨r1, r2, w1, w2, ⟨q1, q2, qa1, qa2⟩, h⟩ := h
    refine zgt h ?_
    clear h sf st
    have lr1 : (rowI r1).length = r1.length := by simp
    have lr2 : (rowI r2).length = r2.length := by simp
    by_cases hboth : 0 < r1.length ∧ 0 < r2.length
    rotate_left
    · have hex : r1.length = 0 ∨ (0 < r1.length ∧ r2.length = 0) := by omega
      rcases hex with hx | ⟨hx1, hx2⟩
      all_goals
        repeat (first | refine gA pk ?_ | (show AL _ _ _ _ _ _ _; first | refine zol tok 3 rfl rfl rfl rfl (by decide) rfl rfl rfl ?_ | refine zol tok 0 rfl rfl rfl rfl (by decide) rfl rfl rfl ?_))
        exact ⟨j + 1, E, ve, ⟨by omega, by omega, by omega, hEs⟩, by omega, GoTo.sub (by exact subQ) (.drop (.keep (.keep (.drop (OSub.refl _)))))⟩
    obtain ⟨b1, b2⟩ := hboth
    have p0 := Int.emod_nonneg c2 (b := ((rowI r1).length : Int)) (by omega)
    have p1 := Int.emod_lt_of_pos c2 (b := ((rowI r1).length : Int)) (by omega)
    have p2 := Int.emod_nonneg c3 (b := ((rowI r2).length : Int)) (by omega)
    have p3 := Int.emod_lt_of_pos c3 (b := ((rowI r2).length : Int)) (by omega)
    have x1 := List.getElem?_eq_getElem (l := r1) (i := (c2 % ((rowI r1).length : Int)).toNat) (by omega)
    have x2 := List.getElem?_eq_getElem (l := r2) (i := (c3 % ((rowI r2).length : Int)).toNat) (by omega)
    generalize r1[(c2 % ((rowI r1).length : Int)).toNat] = z1 at x1
    generalize r2[(c3 % ((rowI r2).length : Int)).toNat] = z2 at x2
    have az1 := qa1 z1 (List.mem_of_getElem? x1)
    have az2 := qa2 z2 (List.mem_of_getElem? x2)
    have hE3 : EdS tn te G (E ++ [(⟨c1 % ((te.map cEdg).length : Int), z1, z2⟩ : Ed)]) := fun e he => by
      rcases List.mem_append.1 he with he | he
      · exact hEs e he
      · rw [List.mem_singleton] at he
        subst he
        exact ⟨⟨hm0, by show c1 % ((te.map cEdg).length : Int) < _; omega⟩, az1.1, az2.1, _, h2t, az1.2, az2.2⟩
    have hset : (E ++ [(⟨c1 % ((te.map cEdg).length : Int), z1, z2⟩ : Ed)]).map cEd = E.map cEd ++ [[AI (c1 % ((te.map cEdg).length : Int)), AI z1, AI z2]] := by simp [cEd]
    repeat (first | refine gN pk ?_ | (show AL _ _ _ _ _ _ _; first | refine zol tok 3 rfl rfl rfl rfl (by decide) rfl rfl rfl ?_ | refine zol tok 0 rfl rfl rfl rfl (by decide) rfl rfl rfl ?_))
    refine zrg ((List.range 34).map fun i => if inL [30, 31, 33] i = true then .eff else if inL [1, 5, 7, 8, 9, 12, 14, 15, 18, 20, 21, 22, 25, 27, 28] i = true then .read else .pure) [30] [0, 1, 2, 3, 4, 5, 6, 7, 8, 9, 10, 11, 12, 13, 14, 15, 16, 17, 18, 19, 20, 21, 22, 23, 24, 25, 26, 27, 28, 29] (.nd 30 [31, 32, 33] .stop .stop) mixed rfl rfl (by decide +kernel) ?_
    repeat' (first | (with_reducible show AG _ _ _ _ _ _ _ _ _ _; first | exact zgn | refine zgs ?_ | refine znd ?_ ?_) | (show AMid _ _ _ _; first | refine zmf ?_ | refine zmg (by first | exact OSub.refl _ | exact .drop (OSub.refl _) | exact .drop (.drop (OSub.refl _))) ?_) | refine gY pk ?_ | (show AL _ _ _ _ _ _ _; first | refine jO tok 4 ?_ | refine jX tok xk ?_ | refine zol tok 3 rfl rfl rfl rfl (by decide) rfl rfl rfl ?_ | refine zol tok 0 rfl rfl rfl rfl (by decide) rfl rfl rfl ?_ | refine s_arrIp tok rfl rfl rfl rfl rfl rfl rfl rfl (by decide) (by decide) ?_ | refine zcv tok rfl rfl rfl rfl rfl rfl rfl (IntWalk.i64_in _ (by omega)) ?_ | refine s_rem rfl rfl rfl rfl rfl rfl (by omega) (by omega) ?_ | refine zoi tok 3 rfl rfl rfl rfl (by decide) rfl rfl rfl rfl rfl rfl p0 p1 ?_ | refine s_loadI tok 3 rfl rfl rfl rfl (by decide) rfl rfl rfl rfl x1 ?_ | refine zoi tok 0 rfl rfl rfl rfl (by decide) rfl rfl rfl rfl rfl rfl p2 p3 ?_ | refine s_loadI tok 0 rfl rfl rfl rfl (by decide) rfl rfl rfl rfl x2 ?_ | refine zba tok rfl rfl rfl rfl rfl rfl rfl rfl (by decide) (fun lv => ?_) | refine zak tok 2 rfl rfl rfl rfl rfl rfl (by decide) rfl rfl rfl rfl (by omega) (by omega) (fun w hw => ?_) | refine zsb tok 4 rfl rfl rfl rfl rfl rfl rfl hw rfl (Nat.le_of_ble_eq_true rfl) rfl ?_) | fail)
    repeat (first | refine gA pk ?_)
    exact ⟨j + 1, E ++ [(⟨c1 % ((te.map cEdg).length : Int), z1, z2⟩ : Ed)], w, ⟨by omega, by omega, by simp; omega, hE3⟩, by omega, GoTo.sub (by exact subQ) (by rw [hset]; exact .drop (.keep (.keep (.drop (OSub.refl _)))))⟩
end Go.Proofs.YtimfponihbfimaaGreat
end
section
namespace Go.Proofs.YtimfponihbfimaaGreat
open Go.Sj Go.Sj.Typ Go.Sj.Sta Go.Sj.Inc Go.Sj.Pln
set_option maxRecDepth 8000
theorem tyG_madeP (nodes edges : List (Int × Int)) : TyG (madeT nodes edges) := by
  have hr := madeNum_rng nodes
  refine ⟨made_small nodes edges, ?_, fun e he => ?_, made_valid nodes edges, by rw [made_nodes]; exact hr.1⟩
  · rw [made_nodes]
    exact pr_of fun j hj => made_node hr.2 hj
  · unfold madeT madeEs at he
    obtain ⟨i, hi, rfl⟩ := List.mem_map.1 he
    unfold madeE
    exact ⟨Int.emod_nonneg _ (by omega), Int.emod_nonneg _ (by omega)⟩
theorem edS_TV {t : Tys} (ht : TyG t) {g : Gr} (hn : g.nodes.length ≤ 8) (he : g.edges.length ≤ 10) (h1 : ∀ x ∈ g.nodes, 0 ≤ x ∧ x < t.nodes.length) (h2 : EdS t.nodes t.edges g.nodes g.edges) : TV t g := by
  have s1 := ht.sm.nodes
  have s2 := ht.sm.edges
  have hat : ∀ i : Int, 0 ≤ i ∧ i < g.nodes.length → 0 ≤ nodeAt g i ∧ nodeAt g i < t.nodes.length := fun i hi => h1 _ (nodeAt_mem hi.1 hi.2)
  refine ⟨ht.vl, ⟨by omega, by omega, fun x hx => ?_, fun e hx => ?_⟩, h1, fun e hx => ?_⟩
  · have := h1 x hx
    omega
  · obtain ⟨a, b, c, _⟩ := h2 e hx
    exact ⟨by omega, b, c⟩
  · obtain ⟨a, b, c, y, d1, d2, d3⟩ := h2 e hx
    refine ⟨a, ?_⟩
    have hg : givenR t [nodeAt g e.fr, nodeAt g e.to] = 0 := by
      have k1 := hat _ b
      have k2 := hat _ c
      unfold givenR
      rw [if_neg (Decidable.not_not.2 ht.vl), if_neg]
      simp only [List.any_cons, List.any_nil, outB, Bool.or_false, Bool.or_eq_true, decide_eq_true_eq]
      omega
    unfold fitsR
    rw [if_neg (by rw [hg]; omega), d1]
    simp only [Bool.and_eq_true, decide_eq_true_eq]
    exact ⟨d2, d3⟩
theorem tv_typ {t : Tys} {g : Gr} (h : TV t g) : typT t g = true := by
  unfold typT
  rw [Bool.and_eq_true]
  constructor
  · simp only [Bool.not_eq_true', List.any_eq_false, decide_eq_true_eq]
    intro x hx
    have := h.nodes x hx
    omega
  · simp only [Bool.not_eq_true', List.any_eq_false, decide_eq_true_eq]
    intro e he
    have := (h.edges e he).1
    omega
theorem tv_valid {t : Tys} {p g : Gr} (hp : TV t p) (hg : TV t g) : validS t p g = 0 := by
  unfold validS
  rw [if_neg (Decidable.not_not.2 hp.types), if_neg (Decidable.not_not.2 (gvalid_zero.2 hp.graph)), if_neg (Decidable.not_not.2 (gvalid_zero.2 hg.graph)), if_pos (by rw [tv_typ hp, tv_typ hg]; rfl)]
theorem runR_eq {t : Tys} {p g : Gr} {l : List Opn} (inj : Bool) (hv : validS t p g = 0) (hl : planE p (kn0 p) l = 0) : runR t p g l inj = resR (runM (extM (seaA t p g inj)) [noMo p] l) := by
  unfold runR
  rw [if_neg (Decidable.not_not.2 hv), if_neg (Decidable.not_not.2 hl)]
theorem run_agree {t : Tys} {p g : Gr} {l : List Opn} (inj : Bool) (hv : validS t p g = 0) (hl : planE p (kn0 p) l = 0) :
    (runR t p g l inj).2.2 = 3 ∨ ((runR t p g l inj).2.2 = 0 ∧ allR t p g inj = ((runR t p g l inj).1, 0) ∧ (runR t p g l inj).2.1.length = l.length ∧ (l ≠ [] → (runR t p g l inj).2.1.getLast? = some ((runR t p g l inj).1.length : Int)) ∧ (runR t p g l inj).1.length ≤ 5000 ∧ ∀ m ∈ (runR t p g l inj).1, m.1.length = p.nodes.length ∧ m.2.length = p.edges.length) := by
  rw [runR_eq inj hv hl]
  obtain ⟨h1, h2, h3, h4, h5⟩ := zvz hv
  cases hr : runM (extM (seaA t p g inj)) [noMo p] l with
  | none => exact .inl rfl
  | some r =>
    obtain ⟨a, b, c, d, e, f⟩ := run_mat (S := seaA t p g inj) rfl rfl h2 h3 hl hr
    have hp := srtL_perm r.1
    have hm : srtL r.1 = matL (seaA t p g inj) := srtM_ext (le_srt (srtL_le r.1) (hp.nodup_iff.2 a)) (mat_srt _) fun x => hp.mem_iff.trans (b x)
    have hlen : (srtL r.1).length = r.1.length := hp.length_eq
    refine .inr ⟨rfl, ?_, e, fun hne => ?_, ?_, fun m hm => ?_⟩
    · show allR t p g inj = (srtL r.1, 0)
      unfold allR capR
      rw [if_neg (Decidable.not_not.2 hv), if_neg (by omega), hm]
    · show r.2.getLast? = some ((srtL r.1).length : Int)
      rw [hlen]
      exact f hne
    · show (srtL r.1).length ≤ 5000
      omega
    · have hm : m ∈ srtL r.1 := hm
      have := mat_mem.1 ((b m).1 (hp.mem_iff.1 hm))
      exact ⟨this.nl, this.el⟩
end Go.Proofs.YtimfponihbfimaaGreat
end
section
namespace Go.Proofs.YtimfponihbfimaaGreat
open Go.Sj Go.Sj.Typ Go.Sj.Sta Go.Sj.Inc Go.Sj.Can Go.Sj.Pln
set_option maxRecDepth 8000
set_option maxHeartbeats 16000000
structure DrP where
  nodes : List (Int × Int)
  edges : List (Int × Int)
  p : Dr5
  g : Dr5
abbrev drPL (d : DrP) : List AV := [.im 2 (d.nodes.map c82), .im 2 (d.edges.map c82), bytesA d.p.nodes, .im 3 (d.p.edges.map c83), bytesA d.g.nodes, .im 3 (d.g.edges.map c83)]
abbrev drPA (d : DrP) : AV := .agg (drPL d)
structure OkDP (d : DrP) : Prop where
  n : Cd d.nodes
  e : Cd d.edges
  nl : d.nodes.length ≤ 140737488355328
  el : d.edges.length ≤ 140737488355328
  p : OkD5 d.p
  g : OkD5 d.g
abbrev RDrP := List (List Int) × List (List Int) × RDr5 × RDr5 × Unit
def toDrP (x : RDrP) : DrP := ⟨x.1.map toC2, x.2.1.map toC2, toDr5 x.2.2.1, toDr5 x.2.2.2.1⟩
def gDrP (x : RDrP) : List AV := [.im 2 (x.1.map g8s)] ++ ([.im 2 (x.2.1.map g8s)] ++ (gDr5 x.2.2.1 ++ (gDr5 x.2.2.2.1 ++ [])))
theorem gDr5P_eq {x : RDr5} (hx : okRD5 x) : gDr5 x = dr5L (toDr5 x) := by
  have e3 : x.2.1.map g8s = (x.2.1.map toC3).map c83 := by rw [List.map_map]; exact List.map_congr_left fun a ha => toC3_c (hx.2.1.1 a ha).1
  show [AV.im 1 (x.1.map fun n => [.lit (.int .u8 n)]), AV.im 3 (x.2.1.map g8s)] = _
  rw [e3]; rfl
abbrev okRDP (x : RDrP) : Prop := ((∀ a ∈ x.1, a.length = 2 ∧ ∀ m ∈ a, (Lit.int .u8 m).wf = true) ∧ x.1.length ≤ reachBytes) ∧ ((∀ a ∈ x.2.1, a.length = 2 ∧ ∀ m ∈ a, (Lit.int .u8 m).wf = true) ∧ x.2.1.length ≤ reachBytes) ∧
  okRD5 x.2.2.1 ∧ okRD5 x.2.2.2.1 ∧ True
theorem drfP_vr {σ : Hp} {v : Value} {x : RDrP} (hx : okRDP x) (h : VR σ (.agg (gDrP x)) v) : VR σ (drPA (toDrP x)) v := by
  have e1 : x.1.map g8s = (x.1.map toC2).map c82 := by rw [List.map_map]; exact List.map_congr_left fun a ha => toC2_c (hx.1.1 a ha).1
  have e2 : x.2.1.map g8s = (x.2.1.map toC2).map c82 := by rw [List.map_map]; exact List.map_congr_left fun a ha => toC2_c (hx.2.1.1 a ha).1
  have e : gDrP x = drPL (toDrP x) := by
    unfold gDrP
    rw [e1, e2, gDr5P_eq hx.2.2.1, gDr5P_eq hx.2.2.2.1]
    rfl
  rw [e] at h
  exact h
theorem drfP_ok {x : RDrP} (hx : okRDP x) : OkDP (toDrP x) := by
  have r1 := hx.1.2
  have r2 := hx.2.1.2
  unfold reachBytes at r1 r2
  refine ⟨fun c hc => ?_, fun c hc => ?_, ?_, ?_, dr5_ok hx.2.2.1, dr5_ok hx.2.2.2.1⟩
  · obtain ⟨a, ha, rfl⟩ := List.mem_map.1 hc
    exact toC2_ok (hx.1.1 a ha)
  · obtain ⟨a, ha, rfl⟩ := List.mem_map.1 hc
    exact toC2_ok (hx.2.1.1 a ha)
  · show (x.1.map toC2).length ≤ _
    rw [List.length_map]; omega
  · show (x.2.1.map toC2).length ≤ _
    rw [List.length_map]; omega
end Go.Proofs.YtimfponihbfimaaGreat
end
