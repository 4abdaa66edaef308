/-
  No cell of these rows narrows 'for every input' (looked for: loops, veiled, ifaces, maps, wideKeys, modest, calm, conditions, laid).
  DERIVED. THE GIVEN ROWS OF THIS SEAT. 6 by the template 'for every input the law returns true; each argument reads behind the call as it read before'; 0 by the template 'total and deterministic' (their statements: YtdkalgnjfbbokaaTotals.lean).
  GIVEN WITH THE SEED: the statements are not yours to turn. If you find one false, say at which input.
  Laid BY PROGRAM, IN A SANDBOX (cutbox-rows.mjs): the forced cells as the released guide's own fill.sh prints them over the translation f6b7c2c4b43d1369… (all of the seat's roots in one cut). By AI agents, Wed Nov 11 2026. No macro, syntax, notation, axiom, sorry.
-/
import Derived.Test.YtdkalgnjfbbokaaChecked
import GoSem.Claim
import GoSem.ClaimJoined
import GoSem.ClaimMapViews
import Derived.JoinedTies
import Derived.KernelRfl
namespace Go.Proofs.Ytdkalgnjfbbokaa
/- THE CELL 'sum', in the pinned program and in every row, IS THE sha256 OF THE DUMP (.gsa) THAT YtdkalgnjfbbokaaProg.lean LOADS. Nothing in Lean hashes anything: it is a label: what it is worth is what the hold of that sum in a sandbox is worth. -/
noncomputable def Try.pinned : Pinned := { name := "ytdkalgnjfbbokaa", sum := "f6b7c2c4b43d136938f0f249d9cb9a0389bd24c5ae87c81fc577b5a30a7c6875", checked := Try.checked }
namespace Rows
def none {H : Type} : Left H := { results := [], args := [] }

/-- 'carrierlaw10.SpoolEmpties': WHATEVER THE INPUT: true; the input reads as it did. -/
def spoolEmptiesSpec : ChangeSpec := { name := "spoolEmpties", fn := fun _ => fun
  | [d1, d2] => { results := [.lit (.bool true)], args := [d1, d2] }
  | _ => none }
def spoolEmptiesRow : OpenClaim := { program := "ytdkalgnjfbbokaa", sum := "f6b7c2c4b43d136938f0f249d9cb9a0389bd24c5ae87c81fc577b5a30a7c6875", func := "carrier/carrierlaw10.SpoolEmpties", spec := "spoolEmpties", apart := false }
def SpoolEmptiesSaid : Prop := spoolEmptiesRow.holds Try.pinned (OpenSpec.ofChange spoolEmptiesSpec)

/-- ITS FALSE NEIGHBOUR: 'it returns false'. Refute it at one input. -/
def spoolEmptiesWrong : ChangeSpec := { name := "spoolEmpties", fn := fun _ => fun
  | [d1, d2] => { results := [.lit (.bool false)], args := [d1, d2] }
  | _ => none }
def SpoolEmptiesWrongFalsely : Prop := spoolEmptiesRow.holds Try.pinned (OpenSpec.ofChange spoolEmptiesWrong)

/-- 'carrierlaw10.SpoolOrder': WHATEVER THE INPUT: true; the input reads as it did. -/
def spoolOrderSpec : ChangeSpec := { name := "spoolOrder", fn := fun _ => fun
  | [d] => { results := [.lit (.bool true)], args := [d] }
  | _ => none }
def spoolOrderRow : OpenClaim := { program := "ytdkalgnjfbbokaa", sum := "f6b7c2c4b43d136938f0f249d9cb9a0389bd24c5ae87c81fc577b5a30a7c6875", func := "carrier/carrierlaw10.SpoolOrder", spec := "spoolOrder", unfollowed := true, recurses := true, apart := false }
def SpoolOrderSaid : Prop := spoolOrderRow.holds Try.pinned (OpenSpec.ofChange spoolOrderSpec)

/-- ITS FALSE NEIGHBOUR: 'it returns false'. Refute it at one input. -/
def spoolOrderWrong : ChangeSpec := { name := "spoolOrder", fn := fun _ => fun
  | [d] => { results := [.lit (.bool false)], args := [d] }
  | _ => none }
def SpoolOrderWrongFalsely : Prop := spoolOrderRow.holds Try.pinned (OpenSpec.ofChange spoolOrderWrong)

/-- 'carrierlaw10.SpoolOwn': WHATEVER THE INPUT: true; the input reads as it did. -/
def spoolOwnSpec : ChangeSpec := { name := "spoolOwn", fn := fun _ => fun
  | [d1, d2] => { results := [.lit (.bool true)], args := [d1, d2] }
  | _ => none }
def spoolOwnRow : OpenClaim := { program := "ytdkalgnjfbbokaa", sum := "f6b7c2c4b43d136938f0f249d9cb9a0389bd24c5ae87c81fc577b5a30a7c6875", func := "carrier/carrierlaw10.SpoolOwn", spec := "spoolOwn", unfollowed := true, recurses := true, apart := false }
def SpoolOwnSaid : Prop := spoolOwnRow.holds Try.pinned (OpenSpec.ofChange spoolOwnSpec)

/-- ITS FALSE NEIGHBOUR: 'it returns false'. Refute it at one input. -/
def spoolOwnWrong : ChangeSpec := { name := "spoolOwn", fn := fun _ => fun
  | [d1, d2] => { results := [.lit (.bool false)], args := [d1, d2] }
  | _ => none }
def SpoolOwnWrongFalsely : Prop := spoolOwnRow.holds Try.pinned (OpenSpec.ofChange spoolOwnWrong)

/-- 'carrierlaw10.SpoolForget': WHATEVER THE INPUT: true; the input reads as it did. -/
def spoolForgetSpec : ChangeSpec := { name := "spoolForget", fn := fun _ => fun
  | [d1, d2] => { results := [.lit (.bool true)], args := [d1, d2] }
  | _ => none }
def spoolForgetRow : OpenClaim := { program := "ytdkalgnjfbbokaa", sum := "f6b7c2c4b43d136938f0f249d9cb9a0389bd24c5ae87c81fc577b5a30a7c6875", func := "carrier/carrierlaw10.SpoolForget", spec := "spoolForget", unfollowed := true, recurses := true, apart := false }
def SpoolForgetSaid : Prop := spoolForgetRow.holds Try.pinned (OpenSpec.ofChange spoolForgetSpec)

/-- ITS FALSE NEIGHBOUR: 'it returns false'. Refute it at one input. -/
def spoolForgetWrong : ChangeSpec := { name := "spoolForget", fn := fun _ => fun
  | [d1, d2] => { results := [.lit (.bool false)], args := [d1, d2] }
  | _ => none }
def SpoolForgetWrongFalsely : Prop := spoolForgetRow.holds Try.pinned (OpenSpec.ofChange spoolForgetWrong)

/-- 'carrierlaw10.SpoolPlays': WHATEVER THE INPUT: true; the input reads as it did. -/
def spoolPlaysSpec : ChangeSpec := { name := "spoolPlays", fn := fun _ => fun
  | [d] => { results := [.lit (.bool true)], args := [d] }
  | _ => none }
def spoolPlaysRow : OpenClaim := { program := "ytdkalgnjfbbokaa", sum := "f6b7c2c4b43d136938f0f249d9cb9a0389bd24c5ae87c81fc577b5a30a7c6875", func := "carrier/carrierlaw10.SpoolPlays", spec := "spoolPlays", unfollowed := true, recurses := true, apart := false }
def SpoolPlaysSaid : Prop := spoolPlaysRow.holds Try.pinned (OpenSpec.ofChange spoolPlaysSpec)

/-- ITS FALSE NEIGHBOUR: 'it returns false'. Refute it at one input. -/
def spoolPlaysWrong : ChangeSpec := { name := "spoolPlays", fn := fun _ => fun
  | [d] => { results := [.lit (.bool false)], args := [d] }
  | _ => none }
def SpoolPlaysWrongFalsely : Prop := spoolPlaysRow.holds Try.pinned (OpenSpec.ofChange spoolPlaysWrong)

/-- 'carrierlaw10.SpoolNil': WHATEVER THE INPUT: true; the input reads as it did. -/
def spoolNilSpec : ChangeSpec := { name := "spoolNil", fn := fun _ => fun
  | [d1, d2] => { results := [.lit (.bool true)], args := [d1, d2] }
  | _ => none }
def spoolNilRow : OpenClaim := { program := "ytdkalgnjfbbokaa", sum := "f6b7c2c4b43d136938f0f249d9cb9a0389bd24c5ae87c81fc577b5a30a7c6875", func := "carrier/carrierlaw10.SpoolNil", spec := "spoolNil", unfollowed := true, recurses := true, apart := false }
def SpoolNilSaid : Prop := spoolNilRow.holds Try.pinned (OpenSpec.ofChange spoolNilSpec)

/-- ITS FALSE NEIGHBOUR: 'it returns false'. Refute it at one input. -/
def spoolNilWrong : ChangeSpec := { name := "spoolNil", fn := fun _ => fun
  | [d1, d2] => { results := [.lit (.bool false)], args := [d1, d2] }
  | _ => none }
def SpoolNilWrongFalsely : Prop := spoolNilRow.holds Try.pinned (OpenSpec.ofChange spoolNilWrong)

/- THE SECOND FORM. 'bulk': how many values and letters a reading holds, each counted each time it is reached (what is shared counts as often as it is met; a slice's spare places count too). A statement '..UptoSaid' is the law's where the arguments, and the package variables that the reading takes, are together of bulk at most 1048576: NARROWER than '..Said'. Prove '..Said' where nothing that the law and all that it calls make is longer than what came in: it says more and counts as full. Else prove '..UptoSaid'. A law counts once. -/
mutual
def uptoBulk {H : Type} : DataW H → Nat
  | .lit (.string bytes) => bytes.length + 1
  | .lit _ => 1
  | .nil => 1
  | .ptr d => uptoBulk d + 1
  | .slice elems spare => uptoBulkAll elems + uptoBulkAll spare + 1
  | .agg parts => uptoBulkAll parts + 1
  | .iface _ d => uptoBulk d + 1
  | .map entries => uptoBulkEntries entries + 1
  | .held _ => 1
def uptoBulkAll {H : Type} : List (DataW H) → Nat
  | [] => 0
  | d :: r => uptoBulk d + uptoBulkAll r
def uptoBulkEntries {H : Type} : List (Lit × DataW H) → Nat
  | [] => 0
  | x :: r => uptoBulkEntry x + uptoBulkEntries r
def uptoBulkEntry {H : Type} : Lit × DataW H → Nat
  | (.string bytes, d) => bytes.length + uptoBulk d + 1
  | (_, d) => uptoBulk d + 1
 end
def uptoSmall : (H : Type) → List (DataW H) → Bool := fun _ ds => decide (uptoBulkAll ds ≤ 1048576)
def OpenSpec.upto (s : _root_.Go.ChangeSpec) : _root_.Go.OpenSpec := { _root_.Go.OpenSpec.ofChange s with cond := some uptoSmall }

/-- 'carrierlaw10.SpoolEmpties', WHERE WHAT IT READS IS OF BULK AT MOST 1048576: true; the input reads as it did. -/
def spoolEmptiesUptoRow : OpenClaim := { program := "ytdkalgnjfbbokaa", sum := "f6b7c2c4b43d136938f0f249d9cb9a0389bd24c5ae87c81fc577b5a30a7c6875", func := "carrier/carrierlaw10.SpoolEmpties", spec := "spoolEmpties", apart := false, narrowed := true }
def SpoolEmptiesUptoSaid : Prop := spoolEmptiesUptoRow.holds Try.pinned (OpenSpec.upto spoolEmptiesSpec)

/-- 'carrierlaw10.SpoolOrder', WHERE WHAT IT READS IS OF BULK AT MOST 1048576: true; the input reads as it did. -/
def spoolOrderUptoRow : OpenClaim := { program := "ytdkalgnjfbbokaa", sum := "f6b7c2c4b43d136938f0f249d9cb9a0389bd24c5ae87c81fc577b5a30a7c6875", func := "carrier/carrierlaw10.SpoolOrder", spec := "spoolOrder", unfollowed := true, recurses := true, apart := false, narrowed := true }
def SpoolOrderUptoSaid : Prop := spoolOrderUptoRow.holds Try.pinned (OpenSpec.upto spoolOrderSpec)

/-- 'carrierlaw10.SpoolOwn', WHERE WHAT IT READS IS OF BULK AT MOST 1048576: true; the input reads as it did. -/
def spoolOwnUptoRow : OpenClaim := { program := "ytdkalgnjfbbokaa", sum := "f6b7c2c4b43d136938f0f249d9cb9a0389bd24c5ae87c81fc577b5a30a7c6875", func := "carrier/carrierlaw10.SpoolOwn", spec := "spoolOwn", unfollowed := true, recurses := true, apart := false, narrowed := true }
def SpoolOwnUptoSaid : Prop := spoolOwnUptoRow.holds Try.pinned (OpenSpec.upto spoolOwnSpec)

/-- 'carrierlaw10.SpoolForget', WHERE WHAT IT READS IS OF BULK AT MOST 1048576: true; the input reads as it did. -/
def spoolForgetUptoRow : OpenClaim := { program := "ytdkalgnjfbbokaa", sum := "f6b7c2c4b43d136938f0f249d9cb9a0389bd24c5ae87c81fc577b5a30a7c6875", func := "carrier/carrierlaw10.SpoolForget", spec := "spoolForget", unfollowed := true, recurses := true, apart := false, narrowed := true }
def SpoolForgetUptoSaid : Prop := spoolForgetUptoRow.holds Try.pinned (OpenSpec.upto spoolForgetSpec)

/-- 'carrierlaw10.SpoolPlays', WHERE WHAT IT READS IS OF BULK AT MOST 1048576: true; the input reads as it did. -/
def spoolPlaysUptoRow : OpenClaim := { program := "ytdkalgnjfbbokaa", sum := "f6b7c2c4b43d136938f0f249d9cb9a0389bd24c5ae87c81fc577b5a30a7c6875", func := "carrier/carrierlaw10.SpoolPlays", spec := "spoolPlays", unfollowed := true, recurses := true, apart := false, narrowed := true }
def SpoolPlaysUptoSaid : Prop := spoolPlaysUptoRow.holds Try.pinned (OpenSpec.upto spoolPlaysSpec)

/-- 'carrierlaw10.SpoolNil', WHERE WHAT IT READS IS OF BULK AT MOST 1048576: true; the input reads as it did. -/
def spoolNilUptoRow : OpenClaim := { program := "ytdkalgnjfbbokaa", sum := "f6b7c2c4b43d136938f0f249d9cb9a0389bd24c5ae87c81fc577b5a30a7c6875", func := "carrier/carrierlaw10.SpoolNil", spec := "spoolNil", unfollowed := true, recurses := true, apart := false, narrowed := true }
def SpoolNilUptoSaid : Prop := spoolNilUptoRow.holds Try.pinned (OpenSpec.upto spoolNilSpec)

end Rows
end Go.Proofs.Ytdkalgnjfbbokaa
