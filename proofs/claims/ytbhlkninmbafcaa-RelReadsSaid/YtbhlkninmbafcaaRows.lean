/-
  No cell of these rows narrows 'for every input' (looked for: loops, veiled, ifaces, maps, wideKeys, modest, calm, conditions, laid).
  DERIVED. THE GIVEN ROWS OF THIS SEAT. 6 by the template 'for every input the law returns true; each argument reads behind the call as it read before'; 0 by the template 'total and deterministic' (their statements: YtbhlkninmbafcaaTotals.lean).
  GIVEN WITH THE SEED: the statements are not yours to turn. If you find one false, say at which input.
  Laid BY PROGRAM, IN A SANDBOX (cutbox-rows.mjs): the forced cells as the released guide's own fill.sh prints them over the translation c7e455efa355af22… (all of the seat's roots in one cut). By AI agents, Wed Nov 11 2026. No macro, syntax, notation, axiom, sorry.
-/
import Derived.Test.YtbhlkninmbafcaaChecked
import GoSem.Claim
import GoSem.ClaimJoined
import GoSem.ClaimMapViews
import Derived.JoinedTies
import Derived.KernelRfl
namespace Go.Proofs.Ytbhlkninmbafcaa
/- THE CELL 'sum', in the pinned program and in every row, IS THE sha256 OF THE DUMP (.gsa) THAT YtbhlkninmbafcaaProg.lean LOADS. Nothing in Lean hashes anything: it is a label: what it is worth is what the hold of that sum in a sandbox is worth. -/
noncomputable def Try.pinned : Pinned := { name := "ytbhlkninmbafcaa", sum := "c7e455efa355af2227368085d238b4624ad4c4f301ec69950598143a89e1b57f", checked := Try.checked }
namespace Rows
def none {H : Type} : Left H := { results := [], args := [] }

/-- 'carrierlaw08.RelOps': WHATEVER THE INPUT: true; the input reads as it did. -/
def relOpsSpec : ChangeSpec := { name := "relOps", fn := fun _ => fun
  | [d1, d2, d3, d4] => { results := [.lit (.bool true)], args := [d1, d2, d3, d4] }
  | _ => none }
def relOpsRow : OpenClaim := { program := "ytbhlkninmbafcaa", sum := "c7e455efa355af2227368085d238b4624ad4c4f301ec69950598143a89e1b57f", func := "carrier/carrierlaw08.RelOps", spec := "relOps", apart := false }
def RelOpsSaid : Prop := relOpsRow.holds Try.pinned (OpenSpec.ofChange relOpsSpec)

/-- ITS FALSE NEIGHBOUR: 'it returns false'. Refute it at one input. -/
def relOpsWrong : ChangeSpec := { name := "relOps", fn := fun _ => fun
  | [d1, d2, d3, d4] => { results := [.lit (.bool false)], args := [d1, d2, d3, d4] }
  | _ => none }
def RelOpsWrongFalsely : Prop := relOpsRow.holds Try.pinned (OpenSpec.ofChange relOpsWrong)

/-- 'carrierlaw08.RelTables': WHATEVER THE INPUT: true; the input reads as it did. -/
def relTablesSpec : ChangeSpec := { name := "relTables", fn := fun _ => fun
  | [d] => { results := [.lit (.bool true)], args := [d] }
  | _ => none }
def relTablesRow : OpenClaim := { program := "ytbhlkninmbafcaa", sum := "c7e455efa355af2227368085d238b4624ad4c4f301ec69950598143a89e1b57f", func := "carrier/carrierlaw08.RelTables", spec := "relTables", apart := false }
def RelTablesSaid : Prop := relTablesRow.holds Try.pinned (OpenSpec.ofChange relTablesSpec)

/-- ITS FALSE NEIGHBOUR: 'it returns false'. Refute it at one input. -/
def relTablesWrong : ChangeSpec := { name := "relTables", fn := fun _ => fun
  | [d] => { results := [.lit (.bool false)], args := [d] }
  | _ => none }
def RelTablesWrongFalsely : Prop := relTablesRow.holds Try.pinned (OpenSpec.ofChange relTablesWrong)

/-- 'carrierlaw08.RelNil': WHATEVER THE INPUT: true; the input reads as it did. -/
def relNilSpec : ChangeSpec := { name := "relNil", fn := fun _ => fun
  | [d1, d2] => { results := [.lit (.bool true)], args := [d1, d2] }
  | _ => none }
def relNilRow : OpenClaim := { program := "ytbhlkninmbafcaa", sum := "c7e455efa355af2227368085d238b4624ad4c4f301ec69950598143a89e1b57f", func := "carrier/carrierlaw08.RelNil", spec := "relNil", unfollowed := true, recurses := true, apart := false }
def RelNilSaid : Prop := relNilRow.holds Try.pinned (OpenSpec.ofChange relNilSpec)

/-- ITS FALSE NEIGHBOUR: 'it returns false'. Refute it at one input. -/
def relNilWrong : ChangeSpec := { name := "relNil", fn := fun _ => fun
  | [d1, d2] => { results := [.lit (.bool false)], args := [d1, d2] }
  | _ => none }
def RelNilWrongFalsely : Prop := relNilRow.holds Try.pinned (OpenSpec.ofChange relNilWrong)

/-- 'carrierlaw08.RelErrs': WHATEVER THE INPUT: true; the input reads as it did. -/
def relErrsSpec : ChangeSpec := { name := "relErrs", fn := fun _ => fun
  | [d1, d2, d3, d4] => { results := [.lit (.bool true)], args := [d1, d2, d3, d4] }
  | _ => none }
def relErrsRow : OpenClaim := { program := "ytbhlkninmbafcaa", sum := "c7e455efa355af2227368085d238b4624ad4c4f301ec69950598143a89e1b57f", func := "carrier/carrierlaw08.RelErrs", spec := "relErrs", unfollowed := true, recurses := true, apart := false }
def RelErrsSaid : Prop := relErrsRow.holds Try.pinned (OpenSpec.ofChange relErrsSpec)

/-- ITS FALSE NEIGHBOUR: 'it returns false'. Refute it at one input. -/
def relErrsWrong : ChangeSpec := { name := "relErrs", fn := fun _ => fun
  | [d1, d2, d3, d4] => { results := [.lit (.bool false)], args := [d1, d2, d3, d4] }
  | _ => none }
def RelErrsWrongFalsely : Prop := relErrsRow.holds Try.pinned (OpenSpec.ofChange relErrsWrong)

/-- 'carrierlaw08.RelApart': WHATEVER THE INPUT: true; the input reads as it did. -/
def relApartSpec : ChangeSpec := { name := "relApart", fn := fun _ => fun
  | [d1, d2] => { results := [.lit (.bool true)], args := [d1, d2] }
  | _ => none }
def relApartRow : OpenClaim := { program := "ytbhlkninmbafcaa", sum := "c7e455efa355af2227368085d238b4624ad4c4f301ec69950598143a89e1b57f", func := "carrier/carrierlaw08.RelApart", spec := "relApart", unfollowed := true, recurses := true, apart := false }
def RelApartSaid : Prop := relApartRow.holds Try.pinned (OpenSpec.ofChange relApartSpec)

/-- ITS FALSE NEIGHBOUR: 'it returns false'. Refute it at one input. -/
def relApartWrong : ChangeSpec := { name := "relApart", fn := fun _ => fun
  | [d1, d2] => { results := [.lit (.bool false)], args := [d1, d2] }
  | _ => none }
def RelApartWrongFalsely : Prop := relApartRow.holds Try.pinned (OpenSpec.ofChange relApartWrong)

/-- 'carrierlaw08.RelReads': WHATEVER THE INPUT: true; the input reads as it did. -/
def relReadsSpec : ChangeSpec := { name := "relReads", fn := fun _ => fun
  | [d1, d2, d3, d4] => { results := [.lit (.bool true)], args := [d1, d2, d3, d4] }
  | _ => none }
def relReadsRow : OpenClaim := { program := "ytbhlkninmbafcaa", sum := "c7e455efa355af2227368085d238b4624ad4c4f301ec69950598143a89e1b57f", func := "carrier/carrierlaw08.RelReads", spec := "relReads", unfollowed := true, recurses := true, apart := false }
def RelReadsSaid : Prop := relReadsRow.holds Try.pinned (OpenSpec.ofChange relReadsSpec)

/-- ITS FALSE NEIGHBOUR: 'it returns false'. Refute it at one input. -/
def relReadsWrong : ChangeSpec := { name := "relReads", fn := fun _ => fun
  | [d1, d2, d3, d4] => { results := [.lit (.bool false)], args := [d1, d2, d3, d4] }
  | _ => none }
def RelReadsWrongFalsely : Prop := relReadsRow.holds Try.pinned (OpenSpec.ofChange relReadsWrong)

/- THE SECOND FORM. 'bulk': how many values and letters a reading holds, each counted each time it is reached (what is shared counts as often as it is met; a slice's spare places count too). A statement '..UptoSaid' is the law's where the arguments, and the package variables that the reading takes, are together of bulk at most 1048576: NARROWER than '..Said'. Prove '..Said' where nothing that the law and all that it calls make is longer than what came in: it says more and counts as full. Else prove '..UptoSaid'. A law counts once. -/
mutual
def uptoBulk {H : Type} : DataW H → Nat
  | .lit (.string bytes) => bytes.length + 1
  | .lit _ => 1
  | .nil => 1
  | .ptr d => uptoBulk d + 1
  | .slice elems spare => uptoBulkAll elems + uptoBulkAll spare + 1
  | .agg parts => uptoBulkAll parts + 1
  | .iface _ d => uptoBulk d + 1
  | .map entries => uptoBulkEntries entries + 1
  | .held _ => 1
def uptoBulkAll {H : Type} : List (DataW H) → Nat
  | [] => 0
  | d :: r => uptoBulk d + uptoBulkAll r
def uptoBulkEntries {H : Type} : List (Lit × DataW H) → Nat
  | [] => 0
  | x :: r => uptoBulkEntry x + uptoBulkEntries r
def uptoBulkEntry {H : Type} : Lit × DataW H → Nat
  | (.string bytes, d) => bytes.length + uptoBulk d + 1
  | (_, d) => uptoBulk d + 1
 end
def uptoSmall : (H : Type) → List (DataW H) → Bool := fun _ ds => decide (uptoBulkAll ds ≤ 1048576)
def OpenSpec.upto (s : _root_.Go.ChangeSpec) : _root_.Go.OpenSpec := { _root_.Go.OpenSpec.ofChange s with cond := some uptoSmall }

/-- 'carrierlaw08.RelOps', WHERE WHAT IT READS IS OF BULK AT MOST 1048576: true; the input reads as it did. -/
def relOpsUptoRow : OpenClaim := { program := "ytbhlkninmbafcaa", sum := "c7e455efa355af2227368085d238b4624ad4c4f301ec69950598143a89e1b57f", func := "carrier/carrierlaw08.RelOps", spec := "relOps", apart := false, narrowed := true }
def RelOpsUptoSaid : Prop := relOpsUptoRow.holds Try.pinned (OpenSpec.upto relOpsSpec)

/-- 'carrierlaw08.RelTables', WHERE WHAT IT READS IS OF BULK AT MOST 1048576: true; the input reads as it did. -/
def relTablesUptoRow : OpenClaim := { program := "ytbhlkninmbafcaa", sum := "c7e455efa355af2227368085d238b4624ad4c4f301ec69950598143a89e1b57f", func := "carrier/carrierlaw08.RelTables", spec := "relTables", apart := false, narrowed := true }
def RelTablesUptoSaid : Prop := relTablesUptoRow.holds Try.pinned (OpenSpec.upto relTablesSpec)

/-- 'carrierlaw08.RelNil', WHERE WHAT IT READS IS OF BULK AT MOST 1048576: true; the input reads as it did. -/
def relNilUptoRow : OpenClaim := { program := "ytbhlkninmbafcaa", sum := "c7e455efa355af2227368085d238b4624ad4c4f301ec69950598143a89e1b57f", func := "carrier/carrierlaw08.RelNil", spec := "relNil", unfollowed := true, recurses := true, apart := false, narrowed := true }
def RelNilUptoSaid : Prop := relNilUptoRow.holds Try.pinned (OpenSpec.upto relNilSpec)

/-- 'carrierlaw08.RelErrs', WHERE WHAT IT READS IS OF BULK AT MOST 1048576: true; the input reads as it did. -/
def relErrsUptoRow : OpenClaim := { program := "ytbhlkninmbafcaa", sum := "c7e455efa355af2227368085d238b4624ad4c4f301ec69950598143a89e1b57f", func := "carrier/carrierlaw08.RelErrs", spec := "relErrs", unfollowed := true, recurses := true, apart := false, narrowed := true }
def RelErrsUptoSaid : Prop := relErrsUptoRow.holds Try.pinned (OpenSpec.upto relErrsSpec)

/-- 'carrierlaw08.RelApart', WHERE WHAT IT READS IS OF BULK AT MOST 1048576: true; the input reads as it did. -/
def relApartUptoRow : OpenClaim := { program := "ytbhlkninmbafcaa", sum := "c7e455efa355af2227368085d238b4624ad4c4f301ec69950598143a89e1b57f", func := "carrier/carrierlaw08.RelApart", spec := "relApart", unfollowed := true, recurses := true, apart := false, narrowed := true }
def RelApartUptoSaid : Prop := relApartUptoRow.holds Try.pinned (OpenSpec.upto relApartSpec)

/-- 'carrierlaw08.RelReads', WHERE WHAT IT READS IS OF BULK AT MOST 1048576: true; the input reads as it did. -/
def relReadsUptoRow : OpenClaim := { program := "ytbhlkninmbafcaa", sum := "c7e455efa355af2227368085d238b4624ad4c4f301ec69950598143a89e1b57f", func := "carrier/carrierlaw08.RelReads", spec := "relReads", unfollowed := true, recurses := true, apart := false, narrowed := true }
def RelReadsUptoSaid : Prop := relReadsUptoRow.holds Try.pinned (OpenSpec.upto relReadsSpec)

end Rows
end Go.Proofs.Ytbhlkninmbafcaa
