/- The law BatchOwners: what its run comes to. -/
import Derived.Test.YthpcahgdobnljaaGreatL12
import Derived.Test.YthpcahgdobnljaaGreatMgr
set_option maxRecDepth 100000
set_option autoImplicit false
set_option linter.unusedVariables false
set_option linter.unusedSimpArgs false
namespace Go.Proofs.YthpcahgdobnljaaGreat.Bt
open Go.RX Go Go.RowKit Go.ChangeShapes Go.WideShapes Go.ChangeAt


theorem bsEq_iff {a b : ByteArray} : bsEq a b = true ↔ a = b := by
  simp only [bsEq, beq_iff_eq]
  exact ⟨toList_inj, fun h => by rw [h]⟩
theorem dueB_iff {e : EventM} {o : ByteArray} : dueB e o = true ↔ e.owner = emptyS ∨ e.owner = o := by simp [dueB, bsEq_iff]
abbrev sA : ByteArray := ⟨#[97]⟩
abbrev sB : ByteArray := ⟨#[98]⟩
abbrev sC : ByteArray := ⟨#[99]⟩
theorem ne_AB : sA ≠ sB := by decide
theorem ne_AC : sA ≠ sC := by decide
theorem ne_BC : sB ≠ sC := by decide
theorem ne_A0 : sA ≠ emptyS := by decide
theorem ne_B0 : sB ≠ emptyS := by decide
theorem bofP_due {st : Int → Int} {f t : SnM} {o : ByteArray} {e : EventM} (h : bofP st f t o e = true) : e.owner = emptyS ∨ e.owner = o := by
  simp only [bofP, Bool.and_eq_true] at h
  exact dueB_iff.1 h.2.1
theorem Srt.mem_of {xs ys : List EventM} (h : Srt xs ys) {e : EventM} (he : e ∈ ys) : e ∈ xs := (h.1.mem e).2 he
end Go.Proofs.YthpcahgdobnljaaGreat.Bt
