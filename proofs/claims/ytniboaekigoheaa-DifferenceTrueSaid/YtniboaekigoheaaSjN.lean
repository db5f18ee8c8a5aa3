/-
  A row whose elements are rows that the call owns as well.
-/
import Derived.Test.YtniboaekigoheaaSjM5
namespace Go.Sj
set_option linter.unusedVariables false

def manyO (E : Nat) : List Value → List (List (List AV)) → Own
  | u :: vs, c :: cs => (u, .row E 1 c) :: manyO E vs cs
  | _, _ => []

theorem manyO_get {E : Nat} : ∀ {vs : List Value} {cs : List (List (List AV))} {i : Nat} {u : Value} {c : List (List AV)}, vs[i]? = some u → cs[i]? = some c → (manyO E vs cs)[i]? = some (u, .row E 1 c)
  | v :: vs, d :: cs, 0, u, c, h1, h2 => by
    simp at h1 h2; subst h1; subst h2; rfl
  | v :: vs, d :: cs, i + 1, u, c, h1, h2 => by
    simp only [manyO, List.getElem?_cons_succ]
    exact manyO_get (by simpa using h1) (by simpa using h2)
  | [], _, _, _, _, h1, _ => by simp at h1
  | _ :: _, [], _, _, _, _, h2 => by simp at h2
theorem manyO_set {E : Nat} : ∀ {vs : List Value} {cs : List (List (List AV))} {i : Nat} {u : Value} {c : List (List AV)}, (manyO E vs cs).set i (u, .row E 1 c) = manyO E (vs.set i u) (cs.set i c)
  | v :: vs, d :: cs, 0, u, c => rfl
  | v :: vs, d :: cs, i + 1, u, c => by simp only [manyO, List.set_cons_succ]; rw [manyO_set]
  | [], cs, i, u, c => by simp [manyO]
  | v :: vs, [], i, u, c => by cases i <;> simp [manyO]
theorem osub_many {E : Nat} {L : Own} : ∀ n : Nat, OSub (manyO E (List.replicate n (.slice none 0 0)) (List.replicate n []) ++ L) L
  | 0 => OSub.refl _
  | n + 1 => by
    simp only [List.replicate_succ, manyO, List.cons_append]
    exact .free (osub_many n)

abbrev litR (u : Value) : List AV := [.lit u]
abbrev imR (c : List (List AV)) : List AV := [.im 1 c]

theorem fzo_refl_many {E : Nat} {v : Value} {sz : Nat} {es : List (List AV)} : ∀ {vs : List Value} {cs : List (List (List AV))}, (∀ c ∈ cs, ∀ e ∈ c, e.length = 1) → FZO v sz es (manyO E vs cs) (manyO E vs cs)
  | u :: vs, c :: cs, h => ⟨rfl, rfl, rfl, rfl, h c (by simp), FZL.refl _, fzo_refl_many (fun d hd => h d (by simp [hd]))⟩
  | [], _, _ => by simp [manyO, FZO]
  | _ :: _, [], _ => by simp [manyO, FZO]

/-- All of them change no more. -/
theorem turn_many {x : AV} {E E' : Nat} {v : Value} : ∀ {vs : List Value} {cs : List (List (List AV))} {done : List (List AV)}, vs.length = cs.length → (∀ c ∈ cs, ∀ e ∈ c, e.length = 1) → (∀ a ∈ done, a.length = 1) →
    Turn x ((v, .row E' 1 (done ++ vs.map litR)) :: manyO E vs cs) x [(v, .row E' 1 (done ++ cs.map imR))]
  | [], [], done, _, _, _ => by simp only [List.map_nil]; exact .of (Sub.refl _) (OSub.refl _)
  | u :: vs, c :: cs, done, hl, hc, hd => by
    have step : Turn x ((v, .row E' 1 (done ++ (u :: vs).map litR)) :: manyO E (u :: vs) (c :: cs)) x ((v, .row E' 1 ((done ++ [imR c]) ++ vs.map litR)) :: manyO E vs cs) := fun τ F w z a b => by
      have hL : ((v, OB.row E' 1 (done ++ (u :: vs).map litR)) :: manyO E (u :: vs) (c :: cs))[1]? = some (u, .row E 1 c) := rfl
      have hM : FZO u 1 c (((v, OB.row E' 1 (done ++ (u :: vs).map litR)) :: manyO E (u :: vs) (c :: cs)).eraseIdx 1) ((v, .row E' 1 ((done ++ [imR c]) ++ vs.map litR)) :: manyO E vs cs) := by
        refine ⟨rfl, rfl, rfl, by simp, fun e he => ?_, ?_, fzo_refl_many (fun d hd' => hc d (by simp [hd']))⟩
        · simp only [List.mem_append, List.mem_singleton, List.mem_map] at he
          rcases he with (he | rfl) | ⟨y, _, rfl⟩
          · exact hd e he
          · rfl
          · rfl
        · rw [List.append_assoc, List.flatten_append, List.flatten_append]
          exact fzl_append _ ⟨FZ.here, FZL.refl _⟩
      obtain ⟨h1, h2⟩ := (a.at hL).freeze hM
      exact ⟨_, frz_le τ w u, h1, b.mono (frz_le τ w u)⟩
    have ih := turn_many (x := x) (E := E) (E' := E') (v := v) (vs := vs) (cs := cs) (done := done ++ [imR c]) (by simpa using hl) (fun d hd' => hc d (by simp [hd'])) (fun e he => by
      simp only [List.mem_append, List.mem_singleton] at he
      rcases he with he | rfl
      · exact hd e he
      · rfl)
    have e1 : done ++ (c :: cs).map imR = (done ++ [imR c]) ++ cs.map imR := by simp
    rw [e1]
    exact step.trans ih
  | [], _ :: _, _, hl, _, _ => by simp at hl
  | _ :: _, [], _, hl, _, _ => by simp at hl
end Go.Sj
