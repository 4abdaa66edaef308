/-
  No cell of these rows narrows 'for every input' (looked for: loops, veiled, ifaces, maps, wideKeys, modest, calm, conditions, laid).
  DERIVED. THE GIVEN ROWS OF THIS SEAT. 7 by the template 'for every input the law returns true; each argument reads behind the call as it read before'; 0 by the template 'total and deterministic' (their statements: YtkhnnaekinoghaaTotals.lean).
  GIVEN WITH THE SEED: the statements are not yours to turn. If you find one false, say at which input.
  Laid BY PROGRAM, IN A SANDBOX (cutbox-rows.mjs): the forced cells as the released guide's own fill.sh prints them over the translation 0615db19667eed3a… (all of the seat's roots in one cut). By AI agents, Wed Nov 11 2026. No macro, syntax, notation, axiom, sorry.
-/
import Derived.Test.YtkhnnaekinoghaaChecked
import GoSem.Claim
import GoSem.ClaimJoined
import GoSem.ClaimMapViews
import Derived.JoinedTies
import Derived.KernelRfl
namespace Go.Proofs.Ytkhnnaekinoghaa
/- THE CELL 'sum', in the pinned program and in every row, IS THE sha256 OF THE DUMP (.gsa) THAT YtkhnnaekinoghaaProg.lean LOADS. Nothing in Lean hashes anything: it is a label: what it is worth is what the hold of that sum in a sandbox is worth. -/
noncomputable def Try.pinned : Pinned := { name := "ytkhnnaekinoghaa", sum := "0615db19667eed3ac96d59653f1509047934a0b6af6257b5d42796097a849d94", checked := Try.checked }
namespace Rows
def none {H : Type} : Left H := { results := [], args := [] }

/-- 'carrierlaw11.TickFull': WHATEVER THE INPUT: true; the input reads as it did. -/
def tickFullSpec : ChangeSpec := { name := "tickFull", fn := fun _ => fun
  | [d] => { results := [.lit (.bool true)], args := [d] }
  | _ => none }
def tickFullRow : OpenClaim := { program := "ytkhnnaekinoghaa", sum := "0615db19667eed3ac96d59653f1509047934a0b6af6257b5d42796097a849d94", func := "carrier/carrierlaw11.TickFull", spec := "tickFull", unfollowed := true, recurses := true, apart := false }
def TickFullSaid : Prop := tickFullRow.holds Try.pinned (OpenSpec.ofChange tickFullSpec)

/-- ITS FALSE NEIGHBOUR: 'it returns false'. Refute it at one input. -/
def tickFullWrong : ChangeSpec := { name := "tickFull", fn := fun _ => fun
  | [d] => { results := [.lit (.bool false)], args := [d] }
  | _ => none }
def TickFullWrongFalsely : Prop := tickFullRow.holds Try.pinned (OpenSpec.ofChange tickFullWrong)

/-- 'carrierlaw11.TickRises': WHATEVER THE INPUT: true; the input reads as it did. -/
def tickRisesSpec : ChangeSpec := { name := "tickRises", fn := fun _ => fun
  | [d1, d2, d3, d4, d5, d6] => { results := [.lit (.bool true)], args := [d1, d2, d3, d4, d5, d6] }
  | _ => none }
def tickRisesRow : OpenClaim := { program := "ytkhnnaekinoghaa", sum := "0615db19667eed3ac96d59653f1509047934a0b6af6257b5d42796097a849d94", func := "carrier/carrierlaw11.TickRises", spec := "tickRises", unfollowed := true, recurses := true, apart := false }
def TickRisesSaid : Prop := tickRisesRow.holds Try.pinned (OpenSpec.ofChange tickRisesSpec)

/-- ITS FALSE NEIGHBOUR: 'it returns false'. Refute it at one input. -/
def tickRisesWrong : ChangeSpec := { name := "tickRises", fn := fun _ => fun
  | [d1, d2, d3, d4, d5, d6] => { results := [.lit (.bool false)], args := [d1, d2, d3, d4, d5, d6] }
  | _ => none }
def TickRisesWrongFalsely : Prop := tickRisesRow.holds Try.pinned (OpenSpec.ofChange tickRisesWrong)

/-- 'carrierlaw11.TickPuts': WHATEVER THE INPUT: true; the input reads as it did. -/
def tickPutsSpec : ChangeSpec := { name := "tickPuts", fn := fun _ => fun
  | [d1, d2, d3] => { results := [.lit (.bool true)], args := [d1, d2, d3] }
  | _ => none }
def tickPutsRow : OpenClaim := { program := "ytkhnnaekinoghaa", sum := "0615db19667eed3ac96d59653f1509047934a0b6af6257b5d42796097a849d94", func := "carrier/carrierlaw11.TickPuts", spec := "tickPuts", unfollowed := true, recurses := true, apart := false }
def TickPutsSaid : Prop := tickPutsRow.holds Try.pinned (OpenSpec.ofChange tickPutsSpec)

/-- ITS FALSE NEIGHBOUR: 'it returns false'. Refute it at one input. -/
def tickPutsWrong : ChangeSpec := { name := "tickPuts", fn := fun _ => fun
  | [d1, d2, d3] => { results := [.lit (.bool false)], args := [d1, d2, d3] }
  | _ => none }
def TickPutsWrongFalsely : Prop := tickPutsRow.holds Try.pinned (OpenSpec.ofChange tickPutsWrong)

/-- 'carrierlaw11.TickAfter': WHATEVER THE INPUT: true; the input reads as it did. -/
def tickAfterSpec : ChangeSpec := { name := "tickAfter", fn := fun _ => fun
  | [d1, d2, d3] => { results := [.lit (.bool true)], args := [d1, d2, d3] }
  | _ => none }
def tickAfterRow : OpenClaim := { program := "ytkhnnaekinoghaa", sum := "0615db19667eed3ac96d59653f1509047934a0b6af6257b5d42796097a849d94", func := "carrier/carrierlaw11.TickAfter", spec := "tickAfter", unfollowed := true, recurses := true, apart := false }
def TickAfterSaid : Prop := tickAfterRow.holds Try.pinned (OpenSpec.ofChange tickAfterSpec)

/-- ITS FALSE NEIGHBOUR: 'it returns false'. Refute it at one input. -/
def tickAfterWrong : ChangeSpec := { name := "tickAfter", fn := fun _ => fun
  | [d1, d2, d3] => { results := [.lit (.bool false)], args := [d1, d2, d3] }
  | _ => none }
def TickAfterWrongFalsely : Prop := tickAfterRow.holds Try.pinned (OpenSpec.ofChange tickAfterWrong)

/-- 'carrierlaw11.TickOwn': WHATEVER THE INPUT: true; the input reads as it did. -/
def tickOwnSpec : ChangeSpec := { name := "tickOwn", fn := fun _ => fun
  | [d] => { results := [.lit (.bool true)], args := [d] }
  | _ => none }
def tickOwnRow : OpenClaim := { program := "ytkhnnaekinoghaa", sum := "0615db19667eed3ac96d59653f1509047934a0b6af6257b5d42796097a849d94", func := "carrier/carrierlaw11.TickOwn", spec := "tickOwn", unfollowed := true, recurses := true, apart := false }
def TickOwnSaid : Prop := tickOwnRow.holds Try.pinned (OpenSpec.ofChange tickOwnSpec)

/-- ITS FALSE NEIGHBOUR: 'it returns false'. Refute it at one input. -/
def tickOwnWrong : ChangeSpec := { name := "tickOwn", fn := fun _ => fun
  | [d] => { results := [.lit (.bool false)], args := [d] }
  | _ => none }
def TickOwnWrongFalsely : Prop := tickOwnRow.holds Try.pinned (OpenSpec.ofChange tickOwnWrong)

/-- 'carrierlaw11.TickPlays': WHATEVER THE INPUT: true; the input reads as it did. -/
def tickPlaysSpec : ChangeSpec := { name := "tickPlays", fn := fun _ => fun
  | [d] => { results := [.lit (.bool true)], args := [d] }
  | _ => none }
def tickPlaysRow : OpenClaim := { program := "ytkhnnaekinoghaa", sum := "0615db19667eed3ac96d59653f1509047934a0b6af6257b5d42796097a849d94", func := "carrier/carrierlaw11.TickPlays", spec := "tickPlays", unfollowed := true, recurses := true, apart := false }
def TickPlaysSaid : Prop := tickPlaysRow.holds Try.pinned (OpenSpec.ofChange tickPlaysSpec)

/-- ITS FALSE NEIGHBOUR: 'it returns false'. Refute it at one input. -/
def tickPlaysWrong : ChangeSpec := { name := "tickPlays", fn := fun _ => fun
  | [d] => { results := [.lit (.bool false)], args := [d] }
  | _ => none }
def TickPlaysWrongFalsely : Prop := tickPlaysRow.holds Try.pinned (OpenSpec.ofChange tickPlaysWrong)

/-- 'carrierlaw11.TickNil': WHATEVER THE INPUT: true; the input reads as it did. -/
def tickNilSpec : ChangeSpec := { name := "tickNil", fn := fun _ => fun
  | [d] => { results := [.lit (.bool true)], args := [d] }
  | _ => none }
def tickNilRow : OpenClaim := { program := "ytkhnnaekinoghaa", sum := "0615db19667eed3ac96d59653f1509047934a0b6af6257b5d42796097a849d94", func := "carrier/carrierlaw11.TickNil", spec := "tickNil", unfollowed := true, recurses := true, apart := false }
def TickNilSaid : Prop := tickNilRow.holds Try.pinned (OpenSpec.ofChange tickNilSpec)

/-- ITS FALSE NEIGHBOUR: 'it returns false'. Refute it at one input. -/
def tickNilWrong : ChangeSpec := { name := "tickNil", fn := fun _ => fun
  | [d] => { results := [.lit (.bool false)], args := [d] }
  | _ => none }
def TickNilWrongFalsely : Prop := tickNilRow.holds Try.pinned (OpenSpec.ofChange tickNilWrong)

/- THE SECOND FORM. 'bulk': how many values and letters a reading holds, each counted each time it is reached (what is shared counts as often as it is met; a slice's spare places count too). A statement '..UptoSaid' is the law's where the arguments, and the package variables that the reading takes, are together of bulk at most 1048576: NARROWER than '..Said'. Prove '..Said' where nothing that the law and all that it calls make is longer than what came in: it says more and counts as full. Else prove '..UptoSaid'. A law counts once. -/
mutual
def uptoBulk {H : Type} : DataW H → Nat
  | .lit (.string bytes) => bytes.length + 1
  | .lit _ => 1
  | .nil => 1
  | .ptr d => uptoBulk d + 1
  | .slice elems spare => uptoBulkAll elems + uptoBulkAll spare + 1
  | .agg parts => uptoBulkAll parts + 1
  | .iface _ d => uptoBulk d + 1
  | .map entries => uptoBulkEntries entries + 1
  | .held _ => 1
def uptoBulkAll {H : Type} : List (DataW H) → Nat
  | [] => 0
  | d :: r => uptoBulk d + uptoBulkAll r
def uptoBulkEntries {H : Type} : List (Lit × DataW H) → Nat
  | [] => 0
  | x :: r => uptoBulkEntry x + uptoBulkEntries r
def uptoBulkEntry {H : Type} : Lit × DataW H → Nat
  | (.string bytes, d) => bytes.length + uptoBulk d + 1
  | (_, d) => uptoBulk d + 1
 end
def uptoSmall : (H : Type) → List (DataW H) → Bool := fun _ ds => decide (uptoBulkAll ds ≤ 1048576)
def OpenSpec.upto (s : _root_.Go.ChangeSpec) : _root_.Go.OpenSpec := { _root_.Go.OpenSpec.ofChange s with cond := some uptoSmall }

/-- 'carrierlaw11.TickFull', WHERE WHAT IT READS IS OF BULK AT MOST 1048576: true; the input reads as it did. -/
def tickFullUptoRow : OpenClaim := { program := "ytkhnnaekinoghaa", sum := "0615db19667eed3ac96d59653f1509047934a0b6af6257b5d42796097a849d94", func := "carrier/carrierlaw11.TickFull", spec := "tickFull", unfollowed := true, recurses := true, apart := false, narrowed := true }
def TickFullUptoSaid : Prop := tickFullUptoRow.holds Try.pinned (OpenSpec.upto tickFullSpec)

/-- 'carrierlaw11.TickRises', WHERE WHAT IT READS IS OF BULK AT MOST 1048576: true; the input reads as it did. -/
def tickRisesUptoRow : OpenClaim := { program := "ytkhnnaekinoghaa", sum := "0615db19667eed3ac96d59653f1509047934a0b6af6257b5d42796097a849d94", func := "carrier/carrierlaw11.TickRises", spec := "tickRises", unfollowed := true, recurses := true, apart := false, narrowed := true }
def TickRisesUptoSaid : Prop := tickRisesUptoRow.holds Try.pinned (OpenSpec.upto tickRisesSpec)

/-- 'carrierlaw11.TickPuts', WHERE WHAT IT READS IS OF BULK AT MOST 1048576: true; the input reads as it did. -/
def tickPutsUptoRow : OpenClaim := { program := "ytkhnnaekinoghaa", sum := "0615db19667eed3ac96d59653f1509047934a0b6af6257b5d42796097a849d94", func := "carrier/carrierlaw11.TickPuts", spec := "tickPuts", unfollowed := true, recurses := true, apart := false, narrowed := true }
def TickPutsUptoSaid : Prop := tickPutsUptoRow.holds Try.pinned (OpenSpec.upto tickPutsSpec)

/-- 'carrierlaw11.TickAfter', WHERE WHAT IT READS IS OF BULK AT MOST 1048576: true; the input reads as it did. -/
def tickAfterUptoRow : OpenClaim := { program := "ytkhnnaekinoghaa", sum := "0615db19667eed3ac96d59653f1509047934a0b6af6257b5d42796097a849d94", func := "carrier/carrierlaw11.TickAfter", spec := "tickAfter", unfollowed := true, recurses := true, apart := false, narrowed := true }
def TickAfterUptoSaid : Prop := tickAfterUptoRow.holds Try.pinned (OpenSpec.upto tickAfterSpec)

/-- 'carrierlaw11.TickOwn', WHERE WHAT IT READS IS OF BULK AT MOST 1048576: true; the input reads as it did. -/
def tickOwnUptoRow : OpenClaim := { program := "ytkhnnaekinoghaa", sum := "0615db19667eed3ac96d59653f1509047934a0b6af6257b5d42796097a849d94", func := "carrier/carrierlaw11.TickOwn", spec := "tickOwn", unfollowed := true, recurses := true, apart := false, narrowed := true }
def TickOwnUptoSaid : Prop := tickOwnUptoRow.holds Try.pinned (OpenSpec.upto tickOwnSpec)

/-- 'carrierlaw11.TickPlays', WHERE WHAT IT READS IS OF BULK AT MOST 1048576: true; the input reads as it did. -/
def tickPlaysUptoRow : OpenClaim := { program := "ytkhnnaekinoghaa", sum := "0615db19667eed3ac96d59653f1509047934a0b6af6257b5d42796097a849d94", func := "carrier/carrierlaw11.TickPlays", spec := "tickPlays", unfollowed := true, recurses := true, apart := false, narrowed := true }
def TickPlaysUptoSaid : Prop := tickPlaysUptoRow.holds Try.pinned (OpenSpec.upto tickPlaysSpec)

/-- 'carrierlaw11.TickNil', WHERE WHAT IT READS IS OF BULK AT MOST 1048576: true; the input reads as it did. -/
def tickNilUptoRow : OpenClaim := { program := "ytkhnnaekinoghaa", sum := "0615db19667eed3ac96d59653f1509047934a0b6af6257b5d42796097a849d94", func := "carrier/carrierlaw11.TickNil", spec := "tickNil", unfollowed := true, recurses := true, apart := false, narrowed := true }
def TickNilUptoSaid : Prop := tickNilUptoRow.holds Try.pinned (OpenSpec.upto tickNilSpec)

end Rows
end Go.Proofs.Ytkhnnaekinoghaa
