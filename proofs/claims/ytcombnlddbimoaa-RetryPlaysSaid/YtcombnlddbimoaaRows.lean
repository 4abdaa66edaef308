/-
  No cell of these rows narrows 'for every input' (looked for: loops, veiled, ifaces, maps, wideKeys, modest, calm, conditions, laid).
  DERIVED. THE GIVEN ROWS OF THIS SEAT. 6 by the template 'for every input the law returns true; each argument reads behind the call as it read before'; 0 by the template 'total and deterministic' (their statements: YtcombnlddbimoaaTotals.lean).
  GIVEN WITH THE SEED: the statements are not yours to turn. If you find one false, say at which input.
  Laid BY PROGRAM, IN A SANDBOX (cutbox-rows.mjs): the forced cells as the released guide's own fill.sh prints them over the translation c723f985133652ef… (all of the seat's roots in one cut). By AI agents, Wed Nov 11 2026. No macro, syntax, notation, axiom, sorry.
-/
import Derived.Test.YtcombnlddbimoaaChecked
import GoSem.Claim
import GoSem.ClaimJoined
import GoSem.ClaimMapViews
import Derived.JoinedTies
import Derived.KernelRfl
namespace Go.Proofs.Ytcombnlddbimoaa
/- THE CELL 'sum', in the pinned program and in every row, IS THE sha256 OF THE DUMP (.gsa) THAT YtcombnlddbimoaaProg.lean LOADS. Nothing in Lean hashes anything: it is a label: what it is worth is what the hold of that sum in a sandbox is worth. -/
noncomputable def Try.pinned : Pinned := { name := "ytcombnlddbimoaa", sum := "c723f985133652ef045d18b5979f8d72699fc8d8b0eb3b2c6c3ff1ff89c3b102", checked := Try.checked }
namespace Rows
def none {H : Type} : Left H := { results := [], args := [] }

/-- 'carrierlaw14.RetryOrder': WHATEVER THE INPUT: true; the input reads as it did. -/
def retryOrderSpec : ChangeSpec := { name := "retryOrder", fn := fun _ => fun
  | [d] => { results := [.lit (.bool true)], args := [d] }
  | _ => none }
def retryOrderRow : OpenClaim := { program := "ytcombnlddbimoaa", sum := "c723f985133652ef045d18b5979f8d72699fc8d8b0eb3b2c6c3ff1ff89c3b102", func := "carrier/carrierlaw14.RetryOrder", spec := "retryOrder", unfollowed := true, recurses := true, apart := false }
def RetryOrderSaid : Prop := retryOrderRow.holds Try.pinned (OpenSpec.ofChange retryOrderSpec)

/-- ITS FALSE NEIGHBOUR: 'it returns false'. Refute it at one input. -/
def retryOrderWrong : ChangeSpec := { name := "retryOrder", fn := fun _ => fun
  | [d] => { results := [.lit (.bool false)], args := [d] }
  | _ => none }
def RetryOrderWrongFalsely : Prop := retryOrderRow.holds Try.pinned (OpenSpec.ofChange retryOrderWrong)

/-- 'carrierlaw14.RetryFull': WHATEVER THE INPUT: true; the input reads as it did. -/
def retryFullSpec : ChangeSpec := { name := "retryFull", fn := fun _ => fun
  | [d] => { results := [.lit (.bool true)], args := [d] }
  | _ => none }
def retryFullRow : OpenClaim := { program := "ytcombnlddbimoaa", sum := "c723f985133652ef045d18b5979f8d72699fc8d8b0eb3b2c6c3ff1ff89c3b102", func := "carrier/carrierlaw14.RetryFull", spec := "retryFull", unfollowed := true, recurses := true, apart := false }
def RetryFullSaid : Prop := retryFullRow.holds Try.pinned (OpenSpec.ofChange retryFullSpec)

/-- ITS FALSE NEIGHBOUR: 'it returns false'. Refute it at one input. -/
def retryFullWrong : ChangeSpec := { name := "retryFull", fn := fun _ => fun
  | [d] => { results := [.lit (.bool false)], args := [d] }
  | _ => none }
def RetryFullWrongFalsely : Prop := retryFullRow.holds Try.pinned (OpenSpec.ofChange retryFullWrong)

/-- 'carrierlaw14.RetryTakes': WHATEVER THE INPUT: true; the input reads as it did. -/
def retryTakesSpec : ChangeSpec := { name := "retryTakes", fn := fun _ => fun
  | [d1, d2] => { results := [.lit (.bool true)], args := [d1, d2] }
  | _ => none }
def retryTakesRow : OpenClaim := { program := "ytcombnlddbimoaa", sum := "c723f985133652ef045d18b5979f8d72699fc8d8b0eb3b2c6c3ff1ff89c3b102", func := "carrier/carrierlaw14.RetryTakes", spec := "retryTakes", unfollowed := true, recurses := true, apart := false }
def RetryTakesSaid : Prop := retryTakesRow.holds Try.pinned (OpenSpec.ofChange retryTakesSpec)

/-- ITS FALSE NEIGHBOUR: 'it returns false'. Refute it at one input. -/
def retryTakesWrong : ChangeSpec := { name := "retryTakes", fn := fun _ => fun
  | [d1, d2] => { results := [.lit (.bool false)], args := [d1, d2] }
  | _ => none }
def RetryTakesWrongFalsely : Prop := retryTakesRow.holds Try.pinned (OpenSpec.ofChange retryTakesWrong)

/-- 'carrierlaw14.RetryTries': WHATEVER THE INPUT: true; the input reads as it did. -/
def retryTriesSpec : ChangeSpec := { name := "retryTries", fn := fun _ => fun
  | [d] => { results := [.lit (.bool true)], args := [d] }
  | _ => none }
def retryTriesRow : OpenClaim := { program := "ytcombnlddbimoaa", sum := "c723f985133652ef045d18b5979f8d72699fc8d8b0eb3b2c6c3ff1ff89c3b102", func := "carrier/carrierlaw14.RetryTries", spec := "retryTries", unfollowed := true, recurses := true, apart := false }
def RetryTriesSaid : Prop := retryTriesRow.holds Try.pinned (OpenSpec.ofChange retryTriesSpec)

/-- ITS FALSE NEIGHBOUR: 'it returns false'. Refute it at one input. -/
def retryTriesWrong : ChangeSpec := { name := "retryTries", fn := fun _ => fun
  | [d] => { results := [.lit (.bool false)], args := [d] }
  | _ => none }
def RetryTriesWrongFalsely : Prop := retryTriesRow.holds Try.pinned (OpenSpec.ofChange retryTriesWrong)

/-- 'carrierlaw14.RetryPlays': WHATEVER THE INPUT: true; the input reads as it did. -/
def retryPlaysSpec : ChangeSpec := { name := "retryPlays", fn := fun _ => fun
  | [d] => { results := [.lit (.bool true)], args := [d] }
  | _ => none }
def retryPlaysRow : OpenClaim := { program := "ytcombnlddbimoaa", sum := "c723f985133652ef045d18b5979f8d72699fc8d8b0eb3b2c6c3ff1ff89c3b102", func := "carrier/carrierlaw14.RetryPlays", spec := "retryPlays", unfollowed := true, recurses := true, apart := false }
def RetryPlaysSaid : Prop := retryPlaysRow.holds Try.pinned (OpenSpec.ofChange retryPlaysSpec)

/-- ITS FALSE NEIGHBOUR: 'it returns false'. Refute it at one input. -/
def retryPlaysWrong : ChangeSpec := { name := "retryPlays", fn := fun _ => fun
  | [d] => { results := [.lit (.bool false)], args := [d] }
  | _ => none }
def RetryPlaysWrongFalsely : Prop := retryPlaysRow.holds Try.pinned (OpenSpec.ofChange retryPlaysWrong)

/-- 'carrierlaw14.RetryNil': WHATEVER THE INPUT: true; the input reads as it did. -/
def retryNilSpec : ChangeSpec := { name := "retryNil", fn := fun _ => fun
  | [d] => { results := [.lit (.bool true)], args := [d] }
  | _ => none }
def retryNilRow : OpenClaim := { program := "ytcombnlddbimoaa", sum := "c723f985133652ef045d18b5979f8d72699fc8d8b0eb3b2c6c3ff1ff89c3b102", func := "carrier/carrierlaw14.RetryNil", spec := "retryNil", unfollowed := true, recurses := true, apart := false }
def RetryNilSaid : Prop := retryNilRow.holds Try.pinned (OpenSpec.ofChange retryNilSpec)

/-- ITS FALSE NEIGHBOUR: 'it returns false'. Refute it at one input. -/
def retryNilWrong : ChangeSpec := { name := "retryNil", fn := fun _ => fun
  | [d] => { results := [.lit (.bool false)], args := [d] }
  | _ => none }
def RetryNilWrongFalsely : Prop := retryNilRow.holds Try.pinned (OpenSpec.ofChange retryNilWrong)

/- THE SECOND FORM. 'bulk': how many values and letters a reading holds, each counted each time it is reached (what is shared counts as often as it is met; a slice's spare places count too). A statement '..UptoSaid' is the law's where the arguments, and the package variables that the reading takes, are together of bulk at most 1048576: NARROWER than '..Said'. Prove '..Said' where nothing that the law and all that it calls make is longer than what came in: it says more and counts as full. Else prove '..UptoSaid'. A law counts once. -/
mutual
def uptoBulk {H : Type} : DataW H → Nat
  | .lit (.string bytes) => bytes.length + 1
  | .lit _ => 1
  | .nil => 1
  | .ptr d => uptoBulk d + 1
  | .slice elems spare => uptoBulkAll elems + uptoBulkAll spare + 1
  | .agg parts => uptoBulkAll parts + 1
  | .iface _ d => uptoBulk d + 1
  | .map entries => uptoBulkEntries entries + 1
  | .held _ => 1
def uptoBulkAll {H : Type} : List (DataW H) → Nat
  | [] => 0
  | d :: r => uptoBulk d + uptoBulkAll r
def uptoBulkEntries {H : Type} : List (Lit × DataW H) → Nat
  | [] => 0
  | x :: r => uptoBulkEntry x + uptoBulkEntries r
def uptoBulkEntry {H : Type} : Lit × DataW H → Nat
  | (.string bytes, d) => bytes.length + uptoBulk d + 1
  | (_, d) => uptoBulk d + 1
 end
def uptoSmall : (H : Type) → List (DataW H) → Bool := fun _ ds => decide (uptoBulkAll ds ≤ 1048576)
def OpenSpec.upto (s : _root_.Go.ChangeSpec) : _root_.Go.OpenSpec := { _root_.Go.OpenSpec.ofChange s with cond := some uptoSmall }

/-- 'carrierlaw14.RetryOrder', WHERE WHAT IT READS IS OF BULK AT MOST 1048576: true; the input reads as it did. -/
def retryOrderUptoRow : OpenClaim := { program := "ytcombnlddbimoaa", sum := "c723f985133652ef045d18b5979f8d72699fc8d8b0eb3b2c6c3ff1ff89c3b102", func := "carrier/carrierlaw14.RetryOrder", spec := "retryOrder", unfollowed := true, recurses := true, apart := false, narrowed := true }
def RetryOrderUptoSaid : Prop := retryOrderUptoRow.holds Try.pinned (OpenSpec.upto retryOrderSpec)

/-- 'carrierlaw14.RetryFull', WHERE WHAT IT READS IS OF BULK AT MOST 1048576: true; the input reads as it did. -/
def retryFullUptoRow : OpenClaim := { program := "ytcombnlddbimoaa", sum := "c723f985133652ef045d18b5979f8d72699fc8d8b0eb3b2c6c3ff1ff89c3b102", func := "carrier/carrierlaw14.RetryFull", spec := "retryFull", unfollowed := true, recurses := true, apart := false, narrowed := true }
def RetryFullUptoSaid : Prop := retryFullUptoRow.holds Try.pinned (OpenSpec.upto retryFullSpec)

/-- 'carrierlaw14.RetryTakes', WHERE WHAT IT READS IS OF BULK AT MOST 1048576: true; the input reads as it did. -/
def retryTakesUptoRow : OpenClaim := { program := "ytcombnlddbimoaa", sum := "c723f985133652ef045d18b5979f8d72699fc8d8b0eb3b2c6c3ff1ff89c3b102", func := "carrier/carrierlaw14.RetryTakes", spec := "retryTakes", unfollowed := true, recurses := true, apart := false, narrowed := true }
def RetryTakesUptoSaid : Prop := retryTakesUptoRow.holds Try.pinned (OpenSpec.upto retryTakesSpec)

/-- 'carrierlaw14.RetryTries', WHERE WHAT IT READS IS OF BULK AT MOST 1048576: true; the input reads as it did. -/
def retryTriesUptoRow : OpenClaim := { program := "ytcombnlddbimoaa", sum := "c723f985133652ef045d18b5979f8d72699fc8d8b0eb3b2c6c3ff1ff89c3b102", func := "carrier/carrierlaw14.RetryTries", spec := "retryTries", unfollowed := true, recurses := true, apart := false, narrowed := true }
def RetryTriesUptoSaid : Prop := retryTriesUptoRow.holds Try.pinned (OpenSpec.upto retryTriesSpec)

/-- 'carrierlaw14.RetryPlays', WHERE WHAT IT READS IS OF BULK AT MOST 1048576: true; the input reads as it did. -/
def retryPlaysUptoRow : OpenClaim := { program := "ytcombnlddbimoaa", sum := "c723f985133652ef045d18b5979f8d72699fc8d8b0eb3b2c6c3ff1ff89c3b102", func := "carrier/carrierlaw14.RetryPlays", spec := "retryPlays", unfollowed := true, recurses := true, apart := false, narrowed := true }
def RetryPlaysUptoSaid : Prop := retryPlaysUptoRow.holds Try.pinned (OpenSpec.upto retryPlaysSpec)

/-- 'carrierlaw14.RetryNil', WHERE WHAT IT READS IS OF BULK AT MOST 1048576: true; the input reads as it did. -/
def retryNilUptoRow : OpenClaim := { program := "ytcombnlddbimoaa", sum := "c723f985133652ef045d18b5979f8d72699fc8d8b0eb3b2c6c3ff1ff89c3b102", func := "carrier/carrierlaw14.RetryNil", spec := "retryNil", unfollowed := true, recurses := true, apart := false, narrowed := true }
def RetryNilUptoSaid : Prop := retryNilUptoRow.holds Try.pinned (OpenSpec.upto retryNilSpec)

end Rows
end Go.Proofs.Ytcombnlddbimoaa
