/- The laws of layer 14: the example, RetryNil, RetryTries, RetryFull. -/
import Derived.Test.YthpcahgdobnljaaGreatRetry
set_option maxRecDepth 100000
set_option autoImplicit false
set_option linter.unusedVariables false
set_option linter.unusedSimpArgs false
namespace Go.Proofs.YthpcahgdobnljaaGreat.Rt
open Go.RX Go Go.RowKit


abbrev tA : ByteArray := ⟨#[97]⟩
abbrev evI (n : Int) : EventM := ⟨n, 0, ⟨#[]⟩, 0, 0, 0, 0, ⟨#[]⟩⟩
abbrev evIT (n t : Int) : EventM := ⟨n, 0, ⟨#[]⟩, t, 0, 0, 0, ⟨#[]⟩⟩
theorem tA_ne : ¬ (tA.toList == ByteArray.toList ⟨#[]⟩) = true := fun h => by simp at h
theorem addE_first (e : EventM) : addE [] e tA = 0 := by
  rw [addE, if_neg tA_ne, if_neg (by simp), if_neg (by simp)]
theorem AddT.first {e : EventM} {at_ : Int} {ys : List ItemM} (h : AddT [] e tA at_ ys) : ys = [newIt e tA at_] := by
  rcases h with ⟨_, h1, _⟩ | ⟨h0, _⟩
  · exact (List.singleton_perm.1 h1).symm
  · exact absurd (addE_first e) h0

theorem and_le (a : Int) : 0 ≤ IntKind.i64.wrap (BitVec.ofInt IntKind.i64.bits a &&& BitVec.ofInt IntKind.i64.bits 2147483647).toNat ∧ IntKind.i64.wrap (BitVec.ofInt IntKind.i64.bits a &&& BitVec.ofInt IntKind.i64.bits 2147483647).toNat ≤ 2147483647 := by
  have h : (BitVec.ofInt IntKind.i64.bits a &&& BitVec.ofInt IntKind.i64.bits 2147483647).toNat ≤ 2147483647 := by
    rw [BitVec.toNat_and]
    exact Nat.le_trans Nat.and_le_right (Nat.le_of_eq rfl)
  rw [← wrap_i64 (by omega) (by omega)]
  omega

theorem triesUp_lt {t : Int} (h : t < 2147483647) : triesUp t = t + 1 := by rw [triesUp, if_neg (by omega)]
theorem triesUp_max : triesUp 2147483647 = 2147483647 := rfl

/-! ### RetryFull -/
structure FullI (n : Int) (i : Nat) (xs : List ItemM) : Prop where
  ok : OkT xs
  rise : RiseT xs
  len : xs.length = i
  all : ∀ x ∈ xs, x.at_ = n ∧ x.ev.owner = tA ∧ 0 ≤ x.ev.id ∧ x.ev.id < i
theorem FullI.no {n : Int} {i : Nat} {xs : List ItemM} (h : FullI n i xs) (k : Int) (hk : (i : Int) ≤ k) : xs.any (hasP (evI k) tA) = false := by
  rw [List.any_eq_false]
  intro x hx hh
  have := (h.all x hx).2.2.2
  simp only [hasP, Bool.and_eq_true, decide_eq_true_eq] at hh
  have := hh.1
  omega
theorem FullI.add {n : Int} {i : Nat} {xs ys : List ItemM} (h : FullI n i xs) (hi : i < 16) (hA : AddT xs (evI i) tA n ys) : addE xs (evI i) tA = 0 ∧ FullI n (i + 1) ys ∧ addE ys (evI i) tA = 5 := by
  have h0 : addE xs (evI i) tA = 0 := by rw [addE, if_neg tA_ne, if_neg (by rw [h.no i (Int.le_refl _)]; simp), if_neg (by rw [h.len]; omega)]
  obtain ⟨k1, k2, k3, _⟩ := hA.ok h.ok h.rise
  rcases hA with ⟨_, p1, _⟩ | ⟨hne, _⟩
  rotate_left
  · exact absurd h0 hne
  refine ⟨h0, ⟨k1, k2, by rw [k3 h0, h.len], fun x hx => ?_⟩, ?_⟩
  · have := p1.mem_iff.2 hx
    rcases List.mem_append.1 this with hx | hx
    · obtain ⟨a1, a2, a3, a4⟩ := h.all x hx
      exact ⟨a1, a2, a3, by omega⟩
    · simp at hx; subst hx
      exact ⟨rfl, rfl, by simp only [newIt]; omega, by simp only [newIt]; omega⟩
  · rw [addE, if_neg tA_ne, if_pos]
    rw [List.any_eq_true]
    exact ⟨newIt (evI i) tA n, p1.mem_iff.1 (by simp), by simp [hasP, newIt]⟩
theorem AddT.no {xs ys : List ItemM} {e : EventM} {o : ByteArray} {at_ : Int} (h : AddT xs e o at_ ys) (hne : addE xs e o ≠ 0) : ys = xs := by
  rcases h with ⟨h0, _⟩ | ⟨_, rfl⟩
  · exact absurd h0 hne
  · rfl

end Go.Proofs.YthpcahgdobnljaaGreat.Rt
