/-
  The laws on Valid, Is, Meet and Join: the walks.
-/
import Derived.Test.YtcacbdohlfljfaaGreatY19
import Derived.Test.YtcacbdohlfljfaaGreatY20
import Derived.Test.YtcacbdohlfljfaaGreatSjQT
namespace Go.Proofs.YtcacbdohlfljfaaGreat
open Go.Sj Go.Sj.Typ
set_option linter.unusedVariables false
set_option maxHeartbeats 4000000

/-! Type graphs among the arguments. -/
abbrev RAtt := ByteArray × Int × Int × List ByteArray × Unit
abbrev RNod := ByteArray × Int × Bool × List RAtt × Unit
abbrev REdg := ByteArray × Int × Int × Int × Int × Int × Int × Unit
abbrev RTys := List RNod × List REdg × Unit
def toAtt (x : RAtt) : Att := ⟨x.1, x.2.1, x.2.2.1, x.2.2.2.1⟩
def toNod (x : RNod) : Nod := ⟨x.1, x.2.1, x.2.2.1, x.2.2.2.1.map toAtt⟩
def toEdg (x : REdg) : Edg := ⟨x.1, x.2.1, x.2.2.1, x.2.2.2.1, x.2.2.2.2.1, x.2.2.2.2.2.1, x.2.2.2.2.2.2.1⟩
def toTys (x : RTys) : Tys := ⟨x.1.map toNod, x.2.1.map toEdg⟩
def gAtt (x : RAtt) : List AV := [.lit (.string x.1)] ++ ([.lit (.int .i64 x.2.1)] ++ ([.lit (.int .i64 x.2.2.1)] ++ ([.im 1 (x.2.2.2.1.map fun s => [.lit (.string s)])] ++ [])))
def gNod (x : RNod) : List AV := [.lit (.string x.1)] ++ ([.lit (.int .i64 x.2.1)] ++ ([.lit (.bool x.2.2.1)] ++ ([.im 4 (x.2.2.2.1.map gAtt)] ++ [])))
def gEdg (x : REdg) : List AV := [.lit (.string x.1)] ++ ([.lit (.int .i64 x.2.1)] ++ ([.lit (.int .i64 x.2.2.1)] ++ ([.lit (.int .i64 x.2.2.2.1)] ++ ([.lit (.int .i64 x.2.2.2.2.1)] ++ ([.lit (.int .i64 x.2.2.2.2.2.1)] ++ ([.lit (.int .i64 x.2.2.2.2.2.2.1)] ++ []))))))
def gTys (x : RTys) : List AV := [.im 4 (x.1.map gNod)] ++ ([.im 7 (x.2.1.map gEdg)] ++ [])
theorem gAtt_eq : gAtt = fun x => cAtt (toAtt x) := rfl
theorem gEdg_eq : gEdg = fun x => cEdg (toEdg x) := rfl
theorem gNod_eq : gNod = fun x => cNod (toNod x) := funext fun x => by
  show [AV.lit (.string x.1), AI x.2.1, AB x.2.2.1, .im 4 (x.2.2.2.1.map gAtt)] = [AV.lit (.string x.1), AI x.2.1, AB x.2.2.1, .im 4 ((x.2.2.2.1.map toAtt).map cAtt)]
  rw [gAtt_eq, List.map_map]; rfl
theorem tys_vr {σ : Hp} {v : Value} {x : RTys} (h : VR σ (.agg (gTys x)) v) : VR σ (tysA (toTys x)) v := by
  have e : gTys x = [nodsA (toTys x).nodes, edgsA (toTys x).edges] := by
    show [AV.im 4 (x.1.map gNod), AV.im 7 (x.2.1.map gEdg)] = [AV.im 4 ((x.1.map toNod).map cNod), AV.im 7 ((x.2.1.map toEdg).map cEdg)]
    rw [gNod_eq, gEdg_eq, List.map_map, List.map_map]; rfl
  rw [e] at h
  exact h
def okRN (okA : RAtt → Prop) (a : RNod) : Prop := a.1.size ≤ maxLen ∧ (Lit.int .i64 a.2.1).wf = true ∧ True ∧ ((∀ b ∈ a.2.2.2.1, okA b) ∧ a.2.2.2.1.length ≤ reachBytes) ∧ True
theorem tys_ok {x : RTys} {okA : RAtt → Prop} {p q : Prop} (h : ((∀ a ∈ x.1, okRN okA a) ∧ p) ∧ q) : OkT (toTys x) := fun n hn => by
  obtain ⟨a, ha, rfl⟩ := List.mem_map.1 hn
  have := (h.1.1 a ha).2.2.2.1.2
  simp only [toNod, List.length_map]
  unfold reachBytes at this
  omega
end Go.Proofs.YtcacbdohlfljfaaGreat
