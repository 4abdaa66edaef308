/- The law's managers: the program's and the reference's, alike. -/
import Derived.Test.YthpcahgdobnljaaGreatR06
set_option maxRecDepth 100000
set_option autoImplicit false
set_option linter.unusedVariables false
set_option linter.unusedSimpArgs false
namespace Go.Proofs.YthpcahgdobnljaaGreat
open Go.RX Go Go.RowKit


theorem txOf_beg (R : List Int) : begS (txOf R) = txOf (R ++ [1]) := by
  simp only [begS, txOf, pos_append, List.length_append, List.length_cons, List.length_nil]
  simp
theorem pos_not_mem (k : Int) (R : List Int) : ¬ ((R.length : Int) + 1) ∈ pos k R := fun h => by have := pos_mem.1 h; omega
theorem del_last (R : List Int) : del ((R.length : Int) + 1) (pos 1 (R ++ [1])) = pos 1 R := by
  rw [pos_append, if_pos rfl, del, List.filter_append]
  have : (pos 1 R).filter (fun y => !decide (y = (R.length : Int) + 1)) = pos 1 R := List.filter_eq_self.2 fun a ha => by
    have : a ≠ (R.length : Int) + 1 := fun h => pos_not_mem 1 R (h ▸ ha)
    simp [this]
  rw [this]; simp
theorem txOf_abort (R : List Int) : (⟨(txOf (R ++ [1])).next, del ((R.length : Int) + 1) (txOf (R ++ [1])).O, (txOf (R ++ [1])).D⟩ : TxS) = txOf (R ++ [3]) := by
  simp only [txOf, del_last]
  simp only [pos_append, List.length_append, List.length_cons, List.length_nil]
  simp
theorem txOf_commit (R : List Int) : (⟨(txOf (R ++ [1])).next, del ((R.length : Int) + 1) (txOf (R ++ [1])).O, ins ((R.length : Int) + 1) (txOf (R ++ [1])).D⟩ : TxS) = txOf (R ++ [2]) := by
  have h : ins ((R.length : Int) + 1) (pos 2 (R ++ [1])) = pos 2 (R ++ [2]) := by
    rw [pos_append, pos_append, if_neg (by decide), if_pos rfl, List.append_nil, ins, if_neg (pos_not_mem 2 R)]
  simp only [txOf, del_last, h]
  simp only [pos_append, List.length_append, List.length_cons, List.length_nil]
  simp

/-- Both managers. -/
abbrev mgrR (m b1 b2 br : Nat) (Ar : Option Addr) (cr : Nat) (R : List Int) : List Res := txB m b1 b2 (txOf R) ++ refB br Ar cr R
def mgrQ (n : Nat) : Value → List Res → Prop := fun v Rs => ∃ m b1 b2 br Ar cr R, v = .tuple #[.pointer (some ⟨m, 0, none⟩), .pointer (some ⟨br, 0, none⟩)] ∧ okR R ∧ R.length ≤ n ∧ Rs = mgrR m b1 b2 br Ar cr R

end Go.Proofs.YthpcahgdobnljaaGreat
