/- What a heap's changes come to where the first version is the one that is seen. -/
import Derived.Test.YtbhlkninmbafcaaGreatHeapT
set_option maxRecDepth 100000
set_option autoImplicit false
set_option linter.unusedVariables false
set_option linter.unusedSimpArgs false
namespace Go.Proofs.YtbhlkninmbafcaaGreat
open Go.RX Go Go.RowKit

theorem killR_hit {st : Int → Int} {x0 : VerM} {r vs' : List VerM} {v : VwM} {key e : Int} (hst : st v.own = 1) (hf : findP st v key x0 = true) (ho : othP st v x0.died = false)
    (hq : killR st v (x0 :: r) key e vs') : e = 0 ∧ vs' = ⟨x0.key, x0.text, x0.born, v.own⟩ :: r := by
  rcases hq with ⟨hx, _⟩ | ⟨_, hall, _⟩ | ⟨_, k, x, hx, hfx, hne, hq⟩
  · exact absurd hst hx
  · have := hall x0 (by simp); rw [hf] at this; cases this
  cases k with
  | zero =>
    simp at hx
    subst hx
    rcases hq with ⟨h1, _⟩ | ⟨_, hu, hR⟩
    · rw [ho] at h1; cases h1
    · exact ⟨hu, hR⟩
  | succ k => have := hne x0 (by simp); rw [hf] at this; cases this
theorem killR_clash {st : Int → Int} {x0 : VerM} {r vs' : List VerM} {v : VwM} {key e : Int} (hst : st v.own = 1) (hf : findP st v key x0 = true) (ho : othP st v x0.died = true)
    (hq : killR st v (x0 :: r) key e vs') : e = 6 ∧ vs' = x0 :: r := by
  rcases hq with ⟨hx, _⟩ | ⟨_, hall, _⟩ | ⟨_, k, x, hx, hfx, hne, hq⟩
  · exact absurd hst hx
  · have := hall x0 (by simp); rw [hf] at this; cases this
  cases k with
  | zero =>
    simp at hx
    subst hx
    rcases hq with ⟨_, hu, hR⟩ | ⟨h1, _⟩
    · exact ⟨hu, hR⟩
    · rw [ho] at h1; cases h1
  | succ k => have := hne x0 (by simp); rw [hf] at this; cases this

theorem updR_hit {st : Int → Int} {x0 : VerM} {r vs' : List VerM} {v : VwM} {q : RowM} {e : Int} (hst : st v.own = 1) (hf : findP st v q.key x0 = true) (ho : othP st v x0.died = false)
    (hq : updR st v (x0 :: r) q e vs') : e = 0 ∧ vs' = (⟨x0.key, x0.text, x0.born, v.own⟩ :: r) ++ [⟨q.key, q.text, v.own, 0⟩] := by
  obtain ⟨vs1, hk, rfl⟩ := hq
  obtain ⟨rfl, rfl⟩ := killR_hit hst hf ho hk
  exact ⟨rfl, rfl⟩
theorem updR_clash {st : Int → Int} {x0 : VerM} {r vs' : List VerM} {v : VwM} {q : RowM} {e : Int} (hst : st v.own = 1) (hf : findP st v q.key x0 = true) (ho : othP st v x0.died = true)
    (hq : updR st v (x0 :: r) q e vs') : e = 6 ∧ vs' = x0 :: r := by
  obtain ⟨vs1, hk, rfl⟩ := hq
  obtain ⟨rfl, rfl⟩ := killR_clash hst hf ho hk
  exact ⟨rfl, rfl⟩
end Go.Proofs.YtbhlkninmbafcaaGreat
