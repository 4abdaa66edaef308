/- The laws RetryTakes and RetryOrder: what each run comes to. -/
import Derived.Test.YthpcahgdobnljaaGreatL14
import Derived.Test.YthpcahgdobnljaaGreatRxB
import Derived.KernelRfl
set_option maxRecDepth 100000
set_option autoImplicit false
set_option linter.unusedVariables false
set_option linter.unusedSimpArgs false
namespace Go.Proofs.YthpcahgdobnljaaGreat.Rt
open Go.RX Go Go.RowKit Go.ChangeShapes Go.WideShapes Go.ChangeAt

theorem tmod_nat14 {n : Int} (m : Int) (hm : 0 < m) (h0 : 0 ≤ n) : ∃ K : Nat, n.tmod m = K ∧ (K : Int) < m := by
  have h1 := Int.tmod_nonneg m h0
  have h2 := Int.tmod_lt_of_pos n hm
  exact ⟨(n.tmod m).toNat, by omega, by omega⟩
def ownT (n : Int) : ByteArray := if n.tmod 7 = 6 then ⟨#[]⟩ else bytesOf [97 + n.tmod 3]
/-! ### plain -/
theorem riseT_at {xs : List ItemM} (h : RiseT xs) : xs.Pairwise fun a b => a.at_ ≤ b.at_ := h.imp fun {a b} hab => by
  rw [keyT_lt] at hab
  by_cases h : b.at_ = a.at_
  · omega
  · rw [if_neg h] at hab
    have := of_decide_eq_false hab; omega
theorem due_left (k : Int) : ∀ {xs : List ItemM}, (xs.Pairwise fun a b => a.at_ ≤ b.at_) → ∀ x ∈ xs.drop (dueL k xs).length, k < x.at_
  | [], _, x, hx => by simp at hx
  | y :: r, h, x, hx => by
    obtain ⟨h1, h2⟩ := List.pairwise_cons.1 h
    by_cases hy : y.at_ ≤ k
    · rw [dueL, List.filter_cons_of_pos (by simpa using hy)] at hx
      simp only [List.map_cons, List.length_cons, List.drop_succ_cons] at hx
      exact due_left k h2 x hx
    · have h0 : dueL k (y :: r) = [] := by
        rw [dueL, List.filter_eq_nil_iff.2]
        · rfl
        · intro z hz
          rcases List.mem_cons.1 hz with rfl | hz
          · simpa using hy
          · have := h1 z hz; simp; omega
      rw [h0] at hx
      simp only [List.length_nil, List.drop_zero] at hx
      rcases List.mem_cons.1 hx with rfl | hx
      · omega
      · have := h1 x hx; omega
theorem due_drop (k : Int) {xs : List ItemM} (h : xs.Pairwise fun a b => a.at_ ≤ b.at_) : dueL k (xs.drop (dueL k xs).length) = [] := by
  have hd := due_left k h
  generalize xs.drop (dueL k xs).length = ys at hd
  rw [dueL, List.filter_eq_nil_iff.2]
  · rfl
  · intro z hz; have := hd z hz; simp; omega
theorem riseT_drop {xs : List ItemM} (h : RiseT xs) (n : Nat) : RiseT (xs.drop n) := List.Pairwise.sublist (List.drop_sublist _ _) h

/-- What waits behind some acts: none twice, in order, not more than so many. -/
structure GoodT (i : Nat) (xs : List ItemM) : Prop where
  ok : OkT xs
  rise : RiseT xs
  len : xs.length ≤ i
theorem GoodT.nil : GoodT 0 [] := ⟨List.nodup_nil, List.Pairwise.nil, Nat.le_refl _⟩
theorem GoodT.add {i : Nat} {xs ys : List ItemM} {e : EventM} {o : ByteArray} {at_ : Int} (h : GoodT i xs) (hA : AddT xs e o at_ ys) : GoodT (i + 1) ys := by
  obtain ⟨k1, k2, k3, k4⟩ := hA.ok h.ok h.rise
  refine ⟨k1, k2, ?_⟩
  have := h.len
  by_cases h0 : addE xs e o = 0
  · have := k3 h0; omega
  · rw [k4 h0]; omega

end Go.Proofs.YthpcahgdobnljaaGreat.Rt
