/-
  No cell of these rows narrows 'for every input' (looked for: loops, veiled, ifaces, maps, wideKeys, modest, calm, conditions, laid).
  DERIVED. THE GIVEN ROWS OF THIS SEAT. 5 by the template 'for every input the law returns true; each argument reads behind the call as it read before'; 0 by the template 'total and deterministic' (their statements: YtpadhjojmiellaaTotals.lean).
  GIVEN WITH THE SEED: the statements are not yours to turn. If you find one false, say at which input.
  Laid BY PROGRAM, IN A SANDBOX (cutbox-rows.mjs): the forced cells as the released guide's own fill.sh prints them over the translation e42662e331d7abdf… (all of the seat's roots in one cut). By AI agents, Wed Nov 11 2026. No macro, syntax, notation, axiom, sorry.
-/
import Derived.Test.YtpadhjojmiellaaChecked
import GoSem.Claim
import GoSem.ClaimJoined
import GoSem.ClaimMapViews
import Derived.JoinedTies
import Derived.KernelRfl
namespace Go.Proofs.Ytpadhjojmiellaa
/- THE CELL 'sum', in the pinned program and in every row, IS THE sha256 OF THE DUMP (.gsa) THAT YtpadhjojmiellaaProg.lean LOADS. Nothing in Lean hashes anything: it is a label: what it is worth is what the hold of that sum in a sandbox is worth. -/
noncomputable def Try.pinned : Pinned := { name := "ytpadhjojmiellaa", sum := "e42662e331d7abdf9607e68d47b140ee8a9e7ad396e5e965a8e33d23cf7ecdfe", checked := Try.checked }
namespace Rows
def none {H : Type} : Left H := { results := [], args := [] }

/-- 'carrierlaw06.TxnNow': WHATEVER THE INPUT: true; the input reads as it did. -/
def txnNowSpec : ChangeSpec := { name := "txnNow", fn := fun _ => fun
  | [d] => { results := [.lit (.bool true)], args := [d] }
  | _ => none }
def txnNowRow : OpenClaim := { program := "ytpadhjojmiellaa", sum := "e42662e331d7abdf9607e68d47b140ee8a9e7ad396e5e965a8e33d23cf7ecdfe", func := "carrier/carrierlaw06.TxnNow", spec := "txnNow", unfollowed := true, recurses := true, apart := false }
def TxnNowSaid : Prop := txnNowRow.holds Try.pinned (OpenSpec.ofChange txnNowSpec)

/-- ITS FALSE NEIGHBOUR: 'it returns false'. Refute it at one input. -/
def txnNowWrong : ChangeSpec := { name := "txnNow", fn := fun _ => fun
  | [d] => { results := [.lit (.bool false)], args := [d] }
  | _ => none }
def TxnNowWrongFalsely : Prop := txnNowRow.holds Try.pinned (OpenSpec.ofChange txnNowWrong)

/-- 'carrierlaw06.TxnFull': WHATEVER THE INPUT: true; the input reads as it did. -/
def txnFullSpec : ChangeSpec := { name := "txnFull", fn := fun _ => fun
  | [d] => { results := [.lit (.bool true)], args := [d] }
  | _ => none }
def txnFullRow : OpenClaim := { program := "ytpadhjojmiellaa", sum := "e42662e331d7abdf9607e68d47b140ee8a9e7ad396e5e965a8e33d23cf7ecdfe", func := "carrier/carrierlaw06.TxnFull", spec := "txnFull", unfollowed := true, recurses := true, apart := false }
def TxnFullSaid : Prop := txnFullRow.holds Try.pinned (OpenSpec.ofChange txnFullSpec)

/-- ITS FALSE NEIGHBOUR: 'it returns false'. Refute it at one input. -/
def txnFullWrong : ChangeSpec := { name := "txnFull", fn := fun _ => fun
  | [d] => { results := [.lit (.bool false)], args := [d] }
  | _ => none }
def TxnFullWrongFalsely : Prop := txnFullRow.holds Try.pinned (OpenSpec.ofChange txnFullWrong)

/-- 'carrierlaw06.TxnLoads': WHATEVER THE INPUT: true; the input reads as it did. -/
def txnLoadsSpec : ChangeSpec := { name := "txnLoads", fn := fun _ => fun
  | [d1, d2, d3] => { results := [.lit (.bool true)], args := [d1, d2, d3] }
  | _ => none }
def txnLoadsRow : OpenClaim := { program := "ytpadhjojmiellaa", sum := "e42662e331d7abdf9607e68d47b140ee8a9e7ad396e5e965a8e33d23cf7ecdfe", func := "carrier/carrierlaw06.TxnLoads", spec := "txnLoads", unfollowed := true, recurses := true, apart := false }
def TxnLoadsSaid : Prop := txnLoadsRow.holds Try.pinned (OpenSpec.ofChange txnLoadsSpec)

/-- ITS FALSE NEIGHBOUR: 'it returns false'. Refute it at one input. -/
def txnLoadsWrong : ChangeSpec := { name := "txnLoads", fn := fun _ => fun
  | [d1, d2, d3] => { results := [.lit (.bool false)], args := [d1, d2, d3] }
  | _ => none }
def TxnLoadsWrongFalsely : Prop := txnLoadsRow.holds Try.pinned (OpenSpec.ofChange txnLoadsWrong)

/-- 'carrierlaw06.TxnPlays': WHATEVER THE INPUT: true; the input reads as it did. -/
def txnPlaysSpec : ChangeSpec := { name := "txnPlays", fn := fun _ => fun
  | [d] => { results := [.lit (.bool true)], args := [d] }
  | _ => none }
def txnPlaysRow : OpenClaim := { program := "ytpadhjojmiellaa", sum := "e42662e331d7abdf9607e68d47b140ee8a9e7ad396e5e965a8e33d23cf7ecdfe", func := "carrier/carrierlaw06.TxnPlays", spec := "txnPlays", unfollowed := true, recurses := true, apart := false }
def TxnPlaysSaid : Prop := txnPlaysRow.holds Try.pinned (OpenSpec.ofChange txnPlaysSpec)

/-- ITS FALSE NEIGHBOUR: 'it returns false'. Refute it at one input. -/
def txnPlaysWrong : ChangeSpec := { name := "txnPlays", fn := fun _ => fun
  | [d] => { results := [.lit (.bool false)], args := [d] }
  | _ => none }
def TxnPlaysWrongFalsely : Prop := txnPlaysRow.holds Try.pinned (OpenSpec.ofChange txnPlaysWrong)

/-- 'carrierlaw06.TxnNil': WHATEVER THE INPUT: true; the input reads as it did. -/
def txnNilSpec : ChangeSpec := { name := "txnNil", fn := fun _ => fun
  | [d] => { results := [.lit (.bool true)], args := [d] }
  | _ => none }
def txnNilRow : OpenClaim := { program := "ytpadhjojmiellaa", sum := "e42662e331d7abdf9607e68d47b140ee8a9e7ad396e5e965a8e33d23cf7ecdfe", func := "carrier/carrierlaw06.TxnNil", spec := "txnNil", unfollowed := true, recurses := true, apart := false }
def TxnNilSaid : Prop := txnNilRow.holds Try.pinned (OpenSpec.ofChange txnNilSpec)

/-- ITS FALSE NEIGHBOUR: 'it returns false'. Refute it at one input. -/
def txnNilWrong : ChangeSpec := { name := "txnNil", fn := fun _ => fun
  | [d] => { results := [.lit (.bool false)], args := [d] }
  | _ => none }
def TxnNilWrongFalsely : Prop := txnNilRow.holds Try.pinned (OpenSpec.ofChange txnNilWrong)

/- THE SECOND FORM. 'bulk': how many values and letters a reading holds, each counted each time it is reached (what is shared counts as often as it is met; a slice's spare places count too). A statement '..UptoSaid' is the law's where the arguments, and the package variables that the reading takes, are together of bulk at most 1048576: NARROWER than '..Said'. Prove '..Said' where nothing that the law and all that it calls make is longer than what came in: it says more and counts as full. Else prove '..UptoSaid'. A law counts once. -/
mutual
def uptoBulk {H : Type} : DataW H → Nat
  | .lit (.string bytes) => bytes.length + 1
  | .lit _ => 1
  | .nil => 1
  | .ptr d => uptoBulk d + 1
  | .slice elems spare => uptoBulkAll elems + uptoBulkAll spare + 1
  | .agg parts => uptoBulkAll parts + 1
  | .iface _ d => uptoBulk d + 1
  | .map entries => uptoBulkEntries entries + 1
  | .held _ => 1
def uptoBulkAll {H : Type} : List (DataW H) → Nat
  | [] => 0
  | d :: r => uptoBulk d + uptoBulkAll r
def uptoBulkEntries {H : Type} : List (Lit × DataW H) → Nat
  | [] => 0
  | x :: r => uptoBulkEntry x + uptoBulkEntries r
def uptoBulkEntry {H : Type} : Lit × DataW H → Nat
  | (.string bytes, d) => bytes.length + uptoBulk d + 1
  | (_, d) => uptoBulk d + 1
 end
def uptoSmall : (H : Type) → List (DataW H) → Bool := fun _ ds => decide (uptoBulkAll ds ≤ 1048576)
def OpenSpec.upto (s : _root_.Go.ChangeSpec) : _root_.Go.OpenSpec := { _root_.Go.OpenSpec.ofChange s with cond := some uptoSmall }

/-- 'carrierlaw06.TxnNow', WHERE WHAT IT READS IS OF BULK AT MOST 1048576: true; the input reads as it did. -/
def txnNowUptoRow : OpenClaim := { program := "ytpadhjojmiellaa", sum := "e42662e331d7abdf9607e68d47b140ee8a9e7ad396e5e965a8e33d23cf7ecdfe", func := "carrier/carrierlaw06.TxnNow", spec := "txnNow", unfollowed := true, recurses := true, apart := false, narrowed := true }
def TxnNowUptoSaid : Prop := txnNowUptoRow.holds Try.pinned (OpenSpec.upto txnNowSpec)

/-- 'carrierlaw06.TxnFull', WHERE WHAT IT READS IS OF BULK AT MOST 1048576: true; the input reads as it did. -/
def txnFullUptoRow : OpenClaim := { program := "ytpadhjojmiellaa", sum := "e42662e331d7abdf9607e68d47b140ee8a9e7ad396e5e965a8e33d23cf7ecdfe", func := "carrier/carrierlaw06.TxnFull", spec := "txnFull", unfollowed := true, recurses := true, apart := false, narrowed := true }
def TxnFullUptoSaid : Prop := txnFullUptoRow.holds Try.pinned (OpenSpec.upto txnFullSpec)

/-- 'carrierlaw06.TxnLoads', WHERE WHAT IT READS IS OF BULK AT MOST 1048576: true; the input reads as it did. -/
def txnLoadsUptoRow : OpenClaim := { program := "ytpadhjojmiellaa", sum := "e42662e331d7abdf9607e68d47b140ee8a9e7ad396e5e965a8e33d23cf7ecdfe", func := "carrier/carrierlaw06.TxnLoads", spec := "txnLoads", unfollowed := true, recurses := true, apart := false, narrowed := true }
def TxnLoadsUptoSaid : Prop := txnLoadsUptoRow.holds Try.pinned (OpenSpec.upto txnLoadsSpec)

/-- 'carrierlaw06.TxnPlays', WHERE WHAT IT READS IS OF BULK AT MOST 1048576: true; the input reads as it did. -/
def txnPlaysUptoRow : OpenClaim := { program := "ytpadhjojmiellaa", sum := "e42662e331d7abdf9607e68d47b140ee8a9e7ad396e5e965a8e33d23cf7ecdfe", func := "carrier/carrierlaw06.TxnPlays", spec := "txnPlays", unfollowed := true, recurses := true, apart := false, narrowed := true }
def TxnPlaysUptoSaid : Prop := txnPlaysUptoRow.holds Try.pinned (OpenSpec.upto txnPlaysSpec)

/-- 'carrierlaw06.TxnNil', WHERE WHAT IT READS IS OF BULK AT MOST 1048576: true; the input reads as it did. -/
def txnNilUptoRow : OpenClaim := { program := "ytpadhjojmiellaa", sum := "e42662e331d7abdf9607e68d47b140ee8a9e7ad396e5e965a8e33d23cf7ecdfe", func := "carrier/carrierlaw06.TxnNil", spec := "txnNil", unfollowed := true, recurses := true, apart := false, narrowed := true }
def TxnNilUptoSaid : Prop := txnNilUptoRow.holds Try.pinned (OpenSpec.upto txnNilSpec)

end Rows
end Go.Proofs.Ytpadhjojmiellaa
