/-
  No cell of these rows narrows 'for every input' (looked for: loops, veiled, ifaces, maps, wideKeys, modest, calm, conditions, laid).
  DERIVED. THE GIVEN ROWS OF THIS SEAT. 6 by the template 'for every input the law returns true; each argument reads behind the call as it read before'; 0 by the template 'total and deterministic' (their statements: YtmlaaddkdemmlaaTotals.lean).
  GIVEN WITH THE SEED: the statements are not yours to turn. If you find one false, say at which input.
  Laid BY PROGRAM, IN A SANDBOX (cutbox-rows.mjs): the forced cells as the released guide's own fill.sh prints them over the translation 538b4886b600d81f… (all of the seat's roots in one cut). By AI agents, Wed Nov 11 2026. No macro, syntax, notation, axiom, sorry.
-/
import Derived.Test.YtmlaaddkdemmlaaChecked
import GoSem.Claim
import GoSem.ClaimJoined
import GoSem.ClaimMapViews
import Derived.JoinedTies
import Derived.KernelRfl
namespace Go.Proofs.Ytmlaaddkdemmlaa
/- THE CELL 'sum', in the pinned program and in every row, IS THE sha256 OF THE DUMP (.gsa) THAT YtmlaaddkdemmlaaProg.lean LOADS. Nothing in Lean hashes anything: it is a label: what it is worth is what the hold of that sum in a sandbox is worth. -/
noncomputable def Try.pinned : Pinned := { name := "ytmlaaddkdemmlaa", sum := "538b4886b600d81f0e89003497aad2bb216d4c321a94512bea63155d20345828", checked := Try.checked }
namespace Rows
def none {H : Type} : Left H := { results := [], args := [] }

/-- 'carrierlaw13.CursorErrs': WHATEVER THE INPUT: true; the input reads as it did. -/
def cursorErrsSpec : ChangeSpec := { name := "cursorErrs", fn := fun _ => fun
  | [d1, d2] => { results := [.lit (.bool true)], args := [d1, d2] }
  | _ => none }
def cursorErrsRow : OpenClaim := { program := "ytmlaaddkdemmlaa", sum := "538b4886b600d81f0e89003497aad2bb216d4c321a94512bea63155d20345828", func := "carrier/carrierlaw13.CursorErrs", spec := "cursorErrs", apart := false }
def CursorErrsSaid : Prop := cursorErrsRow.holds Try.pinned (OpenSpec.ofChange cursorErrsSpec)

/-- ITS FALSE NEIGHBOUR: 'it returns false'. Refute it at one input. -/
def cursorErrsWrong : ChangeSpec := { name := "cursorErrs", fn := fun _ => fun
  | [d1, d2] => { results := [.lit (.bool false)], args := [d1, d2] }
  | _ => none }
def CursorErrsWrongFalsely : Prop := cursorErrsRow.holds Try.pinned (OpenSpec.ofChange cursorErrsWrong)

/-- 'carrierlaw13.CursorSteps': WHATEVER THE INPUT: true; the input reads as it did. -/
def cursorStepsSpec : ChangeSpec := { name := "cursorSteps", fn := fun _ => fun
  | [d] => { results := [.lit (.bool true)], args := [d] }
  | _ => none }
def cursorStepsRow : OpenClaim := { program := "ytmlaaddkdemmlaa", sum := "538b4886b600d81f0e89003497aad2bb216d4c321a94512bea63155d20345828", func := "carrier/carrierlaw13.CursorSteps", spec := "cursorSteps", apart := false }
def CursorStepsSaid : Prop := cursorStepsRow.holds Try.pinned (OpenSpec.ofChange cursorStepsSpec)

/-- ITS FALSE NEIGHBOUR: 'it returns false'. Refute it at one input. -/
def cursorStepsWrong : ChangeSpec := { name := "cursorSteps", fn := fun _ => fun
  | [d] => { results := [.lit (.bool false)], args := [d] }
  | _ => none }
def CursorStepsWrongFalsely : Prop := cursorStepsRow.holds Try.pinned (OpenSpec.ofChange cursorStepsWrong)

/-- 'carrierlaw13.CursorFull': WHATEVER THE INPUT: true; the input reads as it did. -/
def cursorFullSpec : ChangeSpec := { name := "cursorFull", fn := fun _ => fun
  | [d] => { results := [.lit (.bool true)], args := [d] }
  | _ => none }
def cursorFullRow : OpenClaim := { program := "ytmlaaddkdemmlaa", sum := "538b4886b600d81f0e89003497aad2bb216d4c321a94512bea63155d20345828", func := "carrier/carrierlaw13.CursorFull", spec := "cursorFull", unfollowed := true, recurses := true, apart := false }
def CursorFullSaid : Prop := cursorFullRow.holds Try.pinned (OpenSpec.ofChange cursorFullSpec)

/-- ITS FALSE NEIGHBOUR: 'it returns false'. Refute it at one input. -/
def cursorFullWrong : ChangeSpec := { name := "cursorFull", fn := fun _ => fun
  | [d] => { results := [.lit (.bool false)], args := [d] }
  | _ => none }
def CursorFullWrongFalsely : Prop := cursorFullRow.holds Try.pinned (OpenSpec.ofChange cursorFullWrong)

/-- 'carrierlaw13.CursorNames': WHATEVER THE INPUT: true; the input reads as it did. -/
def cursorNamesSpec : ChangeSpec := { name := "cursorNames", fn := fun _ => fun
  | [d] => { results := [.lit (.bool true)], args := [d] }
  | _ => none }
def cursorNamesRow : OpenClaim := { program := "ytmlaaddkdemmlaa", sum := "538b4886b600d81f0e89003497aad2bb216d4c321a94512bea63155d20345828", func := "carrier/carrierlaw13.CursorNames", spec := "cursorNames", unfollowed := true, recurses := true, apart := false }
def CursorNamesSaid : Prop := cursorNamesRow.holds Try.pinned (OpenSpec.ofChange cursorNamesSpec)

/-- ITS FALSE NEIGHBOUR: 'it returns false'. Refute it at one input. -/
def cursorNamesWrong : ChangeSpec := { name := "cursorNames", fn := fun _ => fun
  | [d] => { results := [.lit (.bool false)], args := [d] }
  | _ => none }
def CursorNamesWrongFalsely : Prop := cursorNamesRow.holds Try.pinned (OpenSpec.ofChange cursorNamesWrong)

/-- 'carrierlaw13.CursorPlays': WHATEVER THE INPUT: true; the input reads as it did. -/
def cursorPlaysSpec : ChangeSpec := { name := "cursorPlays", fn := fun _ => fun
  | [d] => { results := [.lit (.bool true)], args := [d] }
  | _ => none }
def cursorPlaysRow : OpenClaim := { program := "ytmlaaddkdemmlaa", sum := "538b4886b600d81f0e89003497aad2bb216d4c321a94512bea63155d20345828", func := "carrier/carrierlaw13.CursorPlays", spec := "cursorPlays", unfollowed := true, recurses := true, apart := false }
def CursorPlaysSaid : Prop := cursorPlaysRow.holds Try.pinned (OpenSpec.ofChange cursorPlaysSpec)

/-- ITS FALSE NEIGHBOUR: 'it returns false'. Refute it at one input. -/
def cursorPlaysWrong : ChangeSpec := { name := "cursorPlays", fn := fun _ => fun
  | [d] => { results := [.lit (.bool false)], args := [d] }
  | _ => none }
def CursorPlaysWrongFalsely : Prop := cursorPlaysRow.holds Try.pinned (OpenSpec.ofChange cursorPlaysWrong)

/-- 'carrierlaw13.CursorNil': WHATEVER THE INPUT: true; the input reads as it did. -/
def cursorNilSpec : ChangeSpec := { name := "cursorNil", fn := fun _ => fun
  | [d1, d2] => { results := [.lit (.bool true)], args := [d1, d2] }
  | _ => none }
def cursorNilRow : OpenClaim := { program := "ytmlaaddkdemmlaa", sum := "538b4886b600d81f0e89003497aad2bb216d4c321a94512bea63155d20345828", func := "carrier/carrierlaw13.CursorNil", spec := "cursorNil", unfollowed := true, recurses := true, apart := false }
def CursorNilSaid : Prop := cursorNilRow.holds Try.pinned (OpenSpec.ofChange cursorNilSpec)

/-- ITS FALSE NEIGHBOUR: 'it returns false'. Refute it at one input. -/
def cursorNilWrong : ChangeSpec := { name := "cursorNil", fn := fun _ => fun
  | [d1, d2] => { results := [.lit (.bool false)], args := [d1, d2] }
  | _ => none }
def CursorNilWrongFalsely : Prop := cursorNilRow.holds Try.pinned (OpenSpec.ofChange cursorNilWrong)

/- THE SECOND FORM. 'bulk': how many values and letters a reading holds, each counted each time it is reached (what is shared counts as often as it is met; a slice's spare places count too). A statement '..UptoSaid' is the law's where the arguments, and the package variables that the reading takes, are together of bulk at most 1048576: NARROWER than '..Said'. Prove '..Said' where nothing that the law and all that it calls make is longer than what came in: it says more and counts as full. Else prove '..UptoSaid'. A law counts once. -/
mutual
def uptoBulk {H : Type} : DataW H → Nat
  | .lit (.string bytes) => bytes.length + 1
  | .lit _ => 1
  | .nil => 1
  | .ptr d => uptoBulk d + 1
  | .slice elems spare => uptoBulkAll elems + uptoBulkAll spare + 1
  | .agg parts => uptoBulkAll parts + 1
  | .iface _ d => uptoBulk d + 1
  | .map entries => uptoBulkEntries entries + 1
  | .held _ => 1
def uptoBulkAll {H : Type} : List (DataW H) → Nat
  | [] => 0
  | d :: r => uptoBulk d + uptoBulkAll r
def uptoBulkEntries {H : Type} : List (Lit × DataW H) → Nat
  | [] => 0
  | x :: r => uptoBulkEntry x + uptoBulkEntries r
def uptoBulkEntry {H : Type} : Lit × DataW H → Nat
  | (.string bytes, d) => bytes.length + uptoBulk d + 1
  | (_, d) => uptoBulk d + 1
 end
def uptoSmall : (H : Type) → List (DataW H) → Bool := fun _ ds => decide (uptoBulkAll ds ≤ 1048576)
def OpenSpec.upto (s : _root_.Go.ChangeSpec) : _root_.Go.OpenSpec := { _root_.Go.OpenSpec.ofChange s with cond := some uptoSmall }

/-- 'carrierlaw13.CursorErrs', WHERE WHAT IT READS IS OF BULK AT MOST 1048576: true; the input reads as it did. -/
def cursorErrsUptoRow : OpenClaim := { program := "ytmlaaddkdemmlaa", sum := "538b4886b600d81f0e89003497aad2bb216d4c321a94512bea63155d20345828", func := "carrier/carrierlaw13.CursorErrs", spec := "cursorErrs", apart := false, narrowed := true }
def CursorErrsUptoSaid : Prop := cursorErrsUptoRow.holds Try.pinned (OpenSpec.upto cursorErrsSpec)

/-- 'carrierlaw13.CursorSteps', WHERE WHAT IT READS IS OF BULK AT MOST 1048576: true; the input reads as it did. -/
def cursorStepsUptoRow : OpenClaim := { program := "ytmlaaddkdemmlaa", sum := "538b4886b600d81f0e89003497aad2bb216d4c321a94512bea63155d20345828", func := "carrier/carrierlaw13.CursorSteps", spec := "cursorSteps", apart := false, narrowed := true }
def CursorStepsUptoSaid : Prop := cursorStepsUptoRow.holds Try.pinned (OpenSpec.upto cursorStepsSpec)

/-- 'carrierlaw13.CursorFull', WHERE WHAT IT READS IS OF BULK AT MOST 1048576: true; the input reads as it did. -/
def cursorFullUptoRow : OpenClaim := { program := "ytmlaaddkdemmlaa", sum := "538b4886b600d81f0e89003497aad2bb216d4c321a94512bea63155d20345828", func := "carrier/carrierlaw13.CursorFull", spec := "cursorFull", unfollowed := true, recurses := true, apart := false, narrowed := true }
def CursorFullUptoSaid : Prop := cursorFullUptoRow.holds Try.pinned (OpenSpec.upto cursorFullSpec)

/-- 'carrierlaw13.CursorNames', WHERE WHAT IT READS IS OF BULK AT MOST 1048576: true; the input reads as it did. -/
def cursorNamesUptoRow : OpenClaim := { program := "ytmlaaddkdemmlaa", sum := "538b4886b600d81f0e89003497aad2bb216d4c321a94512bea63155d20345828", func := "carrier/carrierlaw13.CursorNames", spec := "cursorNames", unfollowed := true, recurses := true, apart := false, narrowed := true }
def CursorNamesUptoSaid : Prop := cursorNamesUptoRow.holds Try.pinned (OpenSpec.upto cursorNamesSpec)

/-- 'carrierlaw13.CursorPlays', WHERE WHAT IT READS IS OF BULK AT MOST 1048576: true; the input reads as it did. -/
def cursorPlaysUptoRow : OpenClaim := { program := "ytmlaaddkdemmlaa", sum := "538b4886b600d81f0e89003497aad2bb216d4c321a94512bea63155d20345828", func := "carrier/carrierlaw13.CursorPlays", spec := "cursorPlays", unfollowed := true, recurses := true, apart := false, narrowed := true }
def CursorPlaysUptoSaid : Prop := cursorPlaysUptoRow.holds Try.pinned (OpenSpec.upto cursorPlaysSpec)

/-- 'carrierlaw13.CursorNil', WHERE WHAT IT READS IS OF BULK AT MOST 1048576: true; the input reads as it did. -/
def cursorNilUptoRow : OpenClaim := { program := "ytmlaaddkdemmlaa", sum := "538b4886b600d81f0e89003497aad2bb216d4c321a94512bea63155d20345828", func := "carrier/carrierlaw13.CursorNil", spec := "cursorNil", unfollowed := true, recurses := true, apart := false, narrowed := true }
def CursorNilUptoSaid : Prop := cursorNilUptoRow.holds Try.pinned (OpenSpec.upto cursorNilSpec)

end Rows
end Go.Proofs.Ytmlaaddkdemmlaa
