/- The laws of layer 12: events, the example, BatchNone. -/
import Derived.Test.YthpcahgdobnljaaGreatBatch
import Derived.Test.YthpcahgdobnljaaGreatRxB
import Derived.KernelRfl
set_option maxRecDepth 100000
set_option autoImplicit false
set_option linter.unusedVariables false
set_option linter.unusedSimpArgs false
namespace Go.Proofs.YthpcahgdobnljaaGreat.Bt
open Go.RX Go Go.RowKit Go.ChangeShapes Go.WideShapes Go.ChangeAt

theorem tmod_nat {n : Int} (m : Int) (hm : 0 < m) (h0 : 0 ≤ n) : ∃ K : Nat, n.tmod m = K ∧ (K : Int) < m := by
  have h1 := Int.tmod_nonneg m h0
  have h2 := Int.tmod_lt_of_pos n hm
  exact ⟨(n.tmod m).toNat, by omega, by omega⟩
def ownB (k : Int) : ByteArray := if k = 0 then ⟨#[97]⟩ else if k = 1 then ⟨#[98]⟩ else emptyS
def ev51 : EventM := ⟨5, 1, emptyS, 0, 0, 0, 0, emptyS⟩
theorem Srt.len {xs ys : List EventM} (h : Srt xs ys) : ys.length = xs.length := h.2.2
end Go.Proofs.YthpcahgdobnljaaGreat.Bt
