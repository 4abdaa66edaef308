/- RX, part 6: a statement whose order is open: every order that its edges let, with a condition on the world that holds as long as none of some operations has been carried out. -/
import Derived.Test.YthpcahgdobnljaaGreatRxVC
set_option autoImplicit false
set_option linter.unusedVariables false
set_option linter.unusedSimpArgs false
namespace Go.RX
open Go

/-- None of some operations has come up. -/
def Unl (M : List Nat) (listed : Array Bool) : Prop := ∀ m ∈ M, listed.getD m true = false
/-- The condition, as long as none of them has. -/
def SX (M : List Nat) (LB : World → Prop) (listed : Array Bool) (w : World) : Prop := Unl M listed → LB w

def wpAnyX (P : Program) (ops : Array Oper) (Q : Exit → Act → World → Prop) (M : List Nat) (LB : World → Prop) : Nat → Array Bool → Act → World → Prop
  | 0, listed, a, w => Region.ready .any ops listed = [] ∧ Q .normal a w
  | fuel + 1, listed, a, w =>
    (Region.ready .any ops listed = [] → Q .normal a w) ∧
    ∀ i ∈ Region.ready .any ops listed, wpOp P ops Q i (fun a' w' => SX M LB (listed.setIfInBounds i true) w' ∧ wpAnyX P ops Q M LB fuel (listed.setIfInBounds i true) a' w') a w

section
variable {P : Program} {ops : Array Oper} {Q : Exit → Act → World → Prop} {M : List Nat} {LB : World → Prop}

theorem wpAny_of_X : ∀ (fuel : Nat) (listed : Array Bool) (a : Act) (w : World), wpAnyX P ops Q M LB fuel listed a w → wpAny P .any ops Q fuel listed a w
  | 0, _, _, _, h => h
  | fuel + 1, _, _, _, h => ⟨h.1, fun i hi => wpOp_mono (fun a' w' h' => wpAny_of_X fuel _ a' w' h'.2) (h.2 i hi)⟩

/-- What has come up has come up behind what it waits for. -/
def Closed (ops : Array Oper) (listed : Array Bool) : Prop := ∀ j oj, ops[j]? = some oj → listed.getD j false = true → ∀ e ∈ oj.after, Region.binds .any e = true → listed.getD e.on false = true

theorem Closed.step {listed : Array Bool} {j : Nat} (hc : Closed ops listed) (hj : j ∈ Region.ready .any ops listed) : Closed ops (listed.setIfInBounds j true) := by
  intro i oi hoi hi e he hb
  by_cases hij : i = j
  · subst hij
    obtain ⟨_, oj, hoj, hall⟩ := mem_ready.1 hj
    rw [hoi] at hoj; cases hoj
    exact getD_set_true (hall e he hb)
  · rw [getD_set_ne false (Ne.symm hij)] at hi
    exact getD_set_true (hc i oi hoi hi e he hb)

theorem Closed.start (ops : Array Oper) (n : Nat) : Closed ops (Array.replicate n false) := by
  intro j oj _ hj
  rcases Nat.lt_or_ge j n with h | h
  · simp [h] at hj
  · simp [Array.getElem?_eq_none, h] at hj

/-- An operation comes ahead of another one by edges. -/
inductive AheadT (ops : Array Oper) : Nat → Nat → Prop
  | edge {m i : Nat} {om : Oper} {e : Edge} : ops[m]? = some om → e ∈ om.after → Region.binds .any e = true → e.on = i → AheadT ops m i
  | way {m i : Nat} {om : Oper} {e : Edge} : ops[m]? = some om → e ∈ om.after → Region.binds .any e = true → AheadT ops e.on i → AheadT ops m i

theorem AheadT.listed {m i : Nat} (h : AheadT ops m i) {listed : Array Bool} (hc : Closed ops listed) (hm : listed.getD m false = true) : listed.getD i false = true := by
  induction h with
  | edge h1 h2 h3 h4 => subst h4; exact hc _ _ h1 hm _ h2 h3
  | way h1 h2 h3 _ ih => exact ih (hc _ _ h1 hm _ h2 h3)

/-- Operation 'i' comes ahead of each of M. -/
def Ahead (ops : Array Oper) (M : List Nat) (i : Nat) : Prop := ∀ m ∈ M, AheadT ops m i

theorem Unl.step {listed : Array Bool} {i j : Nat} (hu : Unl M listed) (ha : Ahead ops M i) (hc : Closed ops listed) (hi : i ∈ Region.ready .any ops listed) (hj : j ∈ Region.ready .any ops listed) : Unl M (listed.setIfInBounds j true) ∧ j ∉ M := by
  have hjm : j ∉ M := fun hm => by
    have hil : listed.getD i false = true := by
      obtain ⟨_, oj, hoj, hall⟩ := mem_ready.1 hj
      cases ha j hm with
      | edge h1 h2 h3 h4 => rw [hoj] at h1; cases h1; subst h4; exact hall _ h2 h3
      | way h1 h2 h3 h4 => rw [hoj] at h1; cases h1; exact h4.listed hc (hall _ h2 h3)
    have h0 := (mem_ready.1 hi).1
    rcases Nat.lt_or_ge i listed.size with h' | h'
    · simp [h'] at h0 hil; rw [h0] at hil; cases hil
    · simp [Array.getElem?_eq_none h'] at hil
  refine ⟨fun m hm => ?_, hjm⟩
  have hne : j ≠ m := fun e => hjm (by rw [e]; exact hm)
  rw [getD_set_ne true hne]
  exact hu m hm

/-- An operation that touches no memory, or reads what the condition tells of, is taken first. -/
theorem wpAnyX_first {i : Nat} {oi : Oper} {v : Value} {T : World → Prop} (hi : ops[i]? = some oi) (hsel : ∀ (j : Nat) (o : Oper) cs b, ops[j]? = some o → o.op ≠ .select cs b)
    (hQ : ∀ c a w, Q (.panic c) (a.put oi.dst v) w → Q (.panic c) a w) (hiM : i ∉ M) :
    ∀ (fuel : Nat) (listed : Array Bool) (a : Act) (w : World),
      (∀ j oj, ops[j]? = some oj → j ≠ i → listed.getD j true = false → (∀ e ∈ oj.after, Region.binds .any e = true → e.on ≠ i) → oi.apart ops oj = true) →
      i ∈ Region.ready .any ops listed → YieldsIf P ops T oi v a →
      Closed ops listed → ((∀ w, T w) ∨ (T = LB ∧ Ahead ops M i ∧ Unl M listed)) → SX M LB listed w →
      (SX M LB (listed.setIfInBounds i true) w → wpAnyX P ops Q M LB fuel (listed.setIfInBounds i true) (a.put oi.dst v) w) → wpAnyX P ops Q M LB (fuel + 1) listed a w := by
  have sx : ∀ (listed : Array Bool) (w : World), i ∈ Region.ready .any ops listed → SX M LB listed w → SX M LB (listed.setIfInBounds i true) w := by
    intro listed w hr hS hu
    refine hS fun m hm => ?_
    have := hu m hm
    by_cases hmi : m = i
    · subst hmi
      exact (mem_ready.1 hr).1
    · rwa [getD_set_ne true (fun e => hmi e.symm)] at this
  intro fuel
  induction fuel with
  | zero =>
    intro listed a w _ hr hy hcl hT hS H
    have hTw : T w := by
      rcases hT with hT | ⟨rfl, _, hu⟩
      · exact hT w
      · exact hS hu
    refine ⟨fun h => (by rw [h] at hr; cases hr), fun j hj => ?_⟩
    by_cases hji : j = i
    · subst hji; exact hy.wpOp hi hTw ⟨sx _ _ hr hS, H (sx _ _ hr hS)⟩
    · have := ready_mono hj hji
      rw [(H (sx _ _ hr hS)).1] at this
      cases this
  | succ fuel ih =>
    intro listed a w hfree hr hy hcl hT hS H
    have hTw : T w := by
      rcases hT with hT | ⟨rfl, _, hu⟩
      · exact hT w
      · exact hS hu
    refine ⟨fun h => (by rw [h] at hr; cases hr), fun j hj => ?_⟩
    by_cases hji : j = i
    · subst hji; exact hy.wpOp hi hTw ⟨sx _ _ hr hS, H (sx _ _ hr hS)⟩
    · have h1 := (H (sx _ _ hr hS)).2 j (ready_mono hj hji)
      obtain ⟨hjun, oj, hoj, hall⟩ := mem_ready.1 hj
      have hnot : ∀ e ∈ oj.after, Region.binds .any e = true → e.on ≠ i := fun e he hb heq => by
        have h1 := hall e he hb
        have h0 := (mem_ready.1 hr).1
        rw [heq] at h1
        rcases Nat.lt_or_ge i listed.size with h' | h'
        · simp [h'] at h0 h1; rw [h0] at h1; cases h1
        · simp [Array.getElem?_eq_none h'] at h1
      have h2 := wpOp_putIf hoj (hfree j oj hoj hji hjun hnot) (fun cs b => hsel i oi cs b hi) (fun cs b => hsel j oj cs b hoj) hQ hy h1
      have hfree' : ∀ k ok, ops[k]? = some ok → k ≠ i → (listed.setIfInBounds j true).getD k true = false →
          (∀ e ∈ ok.after, Region.binds .any e = true → e.on ≠ i) → oi.apart ops ok = true := fun k ok hk hki hun hno => by
        refine hfree k ok hk hki ?_ hno
        by_cases hjk : j = k
        · subst hjk; exact hjun
        · rw [getD_set_ne true hjk] at hun; exact hun
      have hT' : (∀ w, T w) ∨ (T = LB ∧ Ahead ops M i ∧ Unl M (listed.setIfInBounds j true)) := by
        rcases hT with hT | ⟨h1, h2, hu⟩
        · exact .inl hT
        · exact .inr ⟨h1, h2, (hu.step h2 hcl hr hj).1⟩
      have hr' := ready_mono hr (Ne.symm hji)
      have hcomm : (listed.setIfInBounds i true).setIfInBounds j true = (listed.setIfInBounds j true).setIfInBounds i true := Array.setIfInBounds_comm _ _ (Ne.symm hji)
      refine wpOp_mono (fun a' w' h3 => ?_) h2
      rw [hcomm] at h3
      -- behind 'j' the condition as it was ahead of 'i'
      have hS' : SX M LB (listed.setIfInBounds j true) w' := by
        intro hu
        refine h3.2.1 fun m hm => ?_
        have := hu m hm
        have hne : i ≠ m := fun e => hiM (by rw [e]; exact hm)
        rwa [getD_set_ne true hne]
      exact ⟨hS', ih (listed.setIfInBounds j true) a' w' hfree' hr' h3.1 (hcl.step hj) hT' hS' (fun _ => h3.2.2)⟩

end
end Go.RX
