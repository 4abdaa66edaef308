/-
  No cell of these rows narrows 'for every input' (looked for: loops, veiled, ifaces, maps, wideKeys, modest, calm, conditions, laid).
  DERIVED. THE GIVEN ROWS OF THIS SEAT. 6 by the template 'for every input the law returns true; each argument reads behind the call as it read before'; 0 by the template 'total and deterministic' (their statements: YthpcahgdobnljaaGreatTotals.lean).
  GIVEN WITH THE SEED: the statements are not yours to turn. If you find one false, say at which input.
  Laid BY PROGRAM, IN A SANDBOX (cutbox-rows.mjs): the forced cells as the released guide's own fill.sh prints them over the translation 60e7b50d0ad97538… (all of the seat's roots in one cut). By AI agents, Wed Nov 11 2026. No macro, syntax, notation, axiom, sorry.
-/
import Derived.Test.YthpcahgdobnljaaGreatChecked
import GoSem.Claim
import GoSem.ClaimJoined
import GoSem.ClaimMapViews
import Derived.JoinedTies
import Derived.KernelRfl
namespace Go.Proofs.YthpcahgdobnljaaGreat
/- THE CELL 'sum', in the pinned program and in every row, IS THE sha256 OF THE DUMP (.gsa) THAT YthpcahgdobnljaaGreatProg.lean LOADS. Nothing in Lean hashes anything: it is a label: what it is worth is what the hold of that sum in a sandbox is worth. -/
noncomputable def Tryz.pinned : Pinned := { name := "ythpcahgdobnljaagreat", sum := "60e7b50d0ad9753875dc8918e80b7adbf92686f0000fb1ec75082115612c2b41", checked := Tryz.checked }
namespace Rows
def none {H : Type} : Left H := { results := [], args := [] }

/-- 'carrierlaw15.QueueTrims': WHATEVER THE INPUT: true; the input reads as it did. -/
def queueTrimsSpec : ChangeSpec := { name := "queueTrims", fn := fun _ => fun
  | [d] => { results := [.lit (.bool true)], args := [d] }
  | _ => none }
def queueTrimsRow : OpenClaim := { program := "ythpcahgdobnljaagreat", sum := "60e7b50d0ad9753875dc8918e80b7adbf92686f0000fb1ec75082115612c2b41", func := "carrier/carrierlaw15.QueueTrims", spec := "queueTrims", unfollowed := true, recurses := true, apart := false }
def QueueTrimsSaid : Prop := queueTrimsRow.holds Tryz.pinned (OpenSpec.ofChange queueTrimsSpec)

/-- ITS FALSE NEIGHBOUR: 'it returns false'. Refute it at one input. -/
def queueTrimsWrong : ChangeSpec := { name := "queueTrims", fn := fun _ => fun
  | [d] => { results := [.lit (.bool false)], args := [d] }
  | _ => none }
def QueueTrimsWrongFalsely : Prop := queueTrimsRow.holds Tryz.pinned (OpenSpec.ofChange queueTrimsWrong)

/-- 'carrierlaw15.QueuePlays': WHATEVER THE INPUT: true; the input reads as it did. -/
def queuePlaysSpec : ChangeSpec := { name := "queuePlays", fn := fun _ => fun
  | [d] => { results := [.lit (.bool true)], args := [d] }
  | _ => none }
def queuePlaysRow : OpenClaim := { program := "ythpcahgdobnljaagreat", sum := "60e7b50d0ad9753875dc8918e80b7adbf92686f0000fb1ec75082115612c2b41", func := "carrier/carrierlaw15.QueuePlays", spec := "queuePlays", unfollowed := true, recurses := true, apart := false }
def QueuePlaysSaid : Prop := queuePlaysRow.holds Tryz.pinned (OpenSpec.ofChange queuePlaysSpec)

/-- ITS FALSE NEIGHBOUR: 'it returns false'. Refute it at one input. -/
def queuePlaysWrong : ChangeSpec := { name := "queuePlays", fn := fun _ => fun
  | [d] => { results := [.lit (.bool false)], args := [d] }
  | _ => none }
def QueuePlaysWrongFalsely : Prop := queuePlaysRow.holds Tryz.pinned (OpenSpec.ofChange queuePlaysWrong)

/-- 'carrierlaw15.QueueOnce': WHATEVER THE INPUT: true; the input reads as it did. -/
def queueOnceSpec : ChangeSpec := { name := "queueOnce", fn := fun _ => fun
  | [d] => { results := [.lit (.bool true)], args := [d] }
  | _ => none }
def queueOnceRow : OpenClaim := { program := "ythpcahgdobnljaagreat", sum := "60e7b50d0ad9753875dc8918e80b7adbf92686f0000fb1ec75082115612c2b41", func := "carrier/carrierlaw15.QueueOnce", spec := "queueOnce", unfollowed := true, recurses := true, apart := false }
def QueueOnceSaid : Prop := queueOnceRow.holds Tryz.pinned (OpenSpec.ofChange queueOnceSpec)

/-- ITS FALSE NEIGHBOUR: 'it returns false'. Refute it at one input. -/
def queueOnceWrong : ChangeSpec := { name := "queueOnce", fn := fun _ => fun
  | [d] => { results := [.lit (.bool false)], args := [d] }
  | _ => none }
def QueueOnceWrongFalsely : Prop := queueOnceRow.holds Tryz.pinned (OpenSpec.ofChange queueOnceWrong)

/-- 'carrierlaw15.QueueRetries': WHATEVER THE INPUT: true; the input reads as it did. -/
def queueRetriesSpec : ChangeSpec := { name := "queueRetries", fn := fun _ => fun
  | [d1, d2] => { results := [.lit (.bool true)], args := [d1, d2] }
  | _ => none }
def queueRetriesRow : OpenClaim := { program := "ythpcahgdobnljaagreat", sum := "60e7b50d0ad9753875dc8918e80b7adbf92686f0000fb1ec75082115612c2b41", func := "carrier/carrierlaw15.QueueRetries", spec := "queueRetries", unfollowed := true, recurses := true, apart := false }
def QueueRetriesSaid : Prop := queueRetriesRow.holds Tryz.pinned (OpenSpec.ofChange queueRetriesSpec)

/-- ITS FALSE NEIGHBOUR: 'it returns false'. Refute it at one input. -/
def queueRetriesWrong : ChangeSpec := { name := "queueRetries", fn := fun _ => fun
  | [d1, d2] => { results := [.lit (.bool false)], args := [d1, d2] }
  | _ => none }
def QueueRetriesWrongFalsely : Prop := queueRetriesRow.holds Tryz.pinned (OpenSpec.ofChange queueRetriesWrong)

/-- 'carrierlaw15.QueueNil': WHATEVER THE INPUT: true; the input reads as it did. -/
def queueNilSpec : ChangeSpec := { name := "queueNil", fn := fun _ => fun
  | [d1, d2] => { results := [.lit (.bool true)], args := [d1, d2] }
  | _ => none }
def queueNilRow : OpenClaim := { program := "ythpcahgdobnljaagreat", sum := "60e7b50d0ad9753875dc8918e80b7adbf92686f0000fb1ec75082115612c2b41", func := "carrier/carrierlaw15.QueueNil", spec := "queueNil", unfollowed := true, recurses := true, apart := false }
def QueueNilSaid : Prop := queueNilRow.holds Tryz.pinned (OpenSpec.ofChange queueNilSpec)

/-- ITS FALSE NEIGHBOUR: 'it returns false'. Refute it at one input. -/
def queueNilWrong : ChangeSpec := { name := "queueNil", fn := fun _ => fun
  | [d1, d2] => { results := [.lit (.bool false)], args := [d1, d2] }
  | _ => none }
def QueueNilWrongFalsely : Prop := queueNilRow.holds Tryz.pinned (OpenSpec.ofChange queueNilWrong)

/-- 'carrierlaw15.QueueKeeps': WHATEVER THE INPUT: true; the input reads as it did. -/
def queueKeepsSpec : ChangeSpec := { name := "queueKeeps", fn := fun _ => fun
  | [d1, d2] => { results := [.lit (.bool true)], args := [d1, d2] }
  | _ => none }
def queueKeepsRow : OpenClaim := { program := "ythpcahgdobnljaagreat", sum := "60e7b50d0ad9753875dc8918e80b7adbf92686f0000fb1ec75082115612c2b41", func := "carrier/carrierlaw15.QueueKeeps", spec := "queueKeeps", unfollowed := true, recurses := true, apart := false }
def QueueKeepsSaid : Prop := queueKeepsRow.holds Tryz.pinned (OpenSpec.ofChange queueKeepsSpec)

/-- ITS FALSE NEIGHBOUR: 'it returns false'. Refute it at one input. -/
def queueKeepsWrong : ChangeSpec := { name := "queueKeeps", fn := fun _ => fun
  | [d1, d2] => { results := [.lit (.bool false)], args := [d1, d2] }
  | _ => none }
def QueueKeepsWrongFalsely : Prop := queueKeepsRow.holds Tryz.pinned (OpenSpec.ofChange queueKeepsWrong)

/- THE SECOND FORM. 'bulk': how many values and letters a reading holds, each counted each time it is reached (what is shared counts as often as it is met; a slice's spare places count too). A statement '..UptoSaid' is the law's where the arguments, and the package variables that the reading takes, are together of bulk at most 1048576: NARROWER than '..Said'. Prove '..Said' where nothing that the law and all that it calls make is longer than what came in: it says more and counts as full. Else prove '..UptoSaid'. A law counts once. -/
mutual
def uptoBulk {H : Type} : DataW H → Nat
  | .lit (.string bytes) => bytes.length + 1
  | .lit _ => 1
  | .nil => 1
  | .ptr d => uptoBulk d + 1
  | .slice elems spare => uptoBulkAll elems + uptoBulkAll spare + 1
  | .agg parts => uptoBulkAll parts + 1
  | .iface _ d => uptoBulk d + 1
  | .map entries => uptoBulkEntries entries + 1
  | .held _ => 1
def uptoBulkAll {H : Type} : List (DataW H) → Nat
  | [] => 0
  | d :: r => uptoBulk d + uptoBulkAll r
def uptoBulkEntries {H : Type} : List (Lit × DataW H) → Nat
  | [] => 0
  | x :: r => uptoBulkEntry x + uptoBulkEntries r
def uptoBulkEntry {H : Type} : Lit × DataW H → Nat
  | (.string bytes, d) => bytes.length + uptoBulk d + 1
  | (_, d) => uptoBulk d + 1
 end
def uptoSmall : (H : Type) → List (DataW H) → Bool := fun _ ds => decide (uptoBulkAll ds ≤ 1048576)
def OpenSpec.upto (s : _root_.Go.ChangeSpec) : _root_.Go.OpenSpec := { _root_.Go.OpenSpec.ofChange s with cond := some uptoSmall }

/-- 'carrierlaw15.QueueTrims', WHERE WHAT IT READS IS OF BULK AT MOST 1048576: true; the input reads as it did. -/
def queueTrimsUptoRow : OpenClaim := { program := "ythpcahgdobnljaagreat", sum := "60e7b50d0ad9753875dc8918e80b7adbf92686f0000fb1ec75082115612c2b41", func := "carrier/carrierlaw15.QueueTrims", spec := "queueTrims", unfollowed := true, recurses := true, apart := false, narrowed := true }
def QueueTrimsUptoSaid : Prop := queueTrimsUptoRow.holds Tryz.pinned (OpenSpec.upto queueTrimsSpec)

/-- 'carrierlaw15.QueuePlays', WHERE WHAT IT READS IS OF BULK AT MOST 1048576: true; the input reads as it did. -/
def queuePlaysUptoRow : OpenClaim := { program := "ythpcahgdobnljaagreat", sum := "60e7b50d0ad9753875dc8918e80b7adbf92686f0000fb1ec75082115612c2b41", func := "carrier/carrierlaw15.QueuePlays", spec := "queuePlays", unfollowed := true, recurses := true, apart := false, narrowed := true }
def QueuePlaysUptoSaid : Prop := queuePlaysUptoRow.holds Tryz.pinned (OpenSpec.upto queuePlaysSpec)

/-- 'carrierlaw15.QueueOnce', WHERE WHAT IT READS IS OF BULK AT MOST 1048576: true; the input reads as it did. -/
def queueOnceUptoRow : OpenClaim := { program := "ythpcahgdobnljaagreat", sum := "60e7b50d0ad9753875dc8918e80b7adbf92686f0000fb1ec75082115612c2b41", func := "carrier/carrierlaw15.QueueOnce", spec := "queueOnce", unfollowed := true, recurses := true, apart := false, narrowed := true }
def QueueOnceUptoSaid : Prop := queueOnceUptoRow.holds Tryz.pinned (OpenSpec.upto queueOnceSpec)

/-- 'carrierlaw15.QueueRetries', WHERE WHAT IT READS IS OF BULK AT MOST 1048576: true; the input reads as it did. -/
def queueRetriesUptoRow : OpenClaim := { program := "ythpcahgdobnljaagreat", sum := "60e7b50d0ad9753875dc8918e80b7adbf92686f0000fb1ec75082115612c2b41", func := "carrier/carrierlaw15.QueueRetries", spec := "queueRetries", unfollowed := true, recurses := true, apart := false, narrowed := true }
def QueueRetriesUptoSaid : Prop := queueRetriesUptoRow.holds Tryz.pinned (OpenSpec.upto queueRetriesSpec)

/-- 'carrierlaw15.QueueNil', WHERE WHAT IT READS IS OF BULK AT MOST 1048576: true; the input reads as it did. -/
def queueNilUptoRow : OpenClaim := { program := "ythpcahgdobnljaagreat", sum := "60e7b50d0ad9753875dc8918e80b7adbf92686f0000fb1ec75082115612c2b41", func := "carrier/carrierlaw15.QueueNil", spec := "queueNil", unfollowed := true, recurses := true, apart := false, narrowed := true }
def QueueNilUptoSaid : Prop := queueNilUptoRow.holds Tryz.pinned (OpenSpec.upto queueNilSpec)

/-- 'carrierlaw15.QueueKeeps', WHERE WHAT IT READS IS OF BULK AT MOST 1048576: true; the input reads as it did. -/
def queueKeepsUptoRow : OpenClaim := { program := "ythpcahgdobnljaagreat", sum := "60e7b50d0ad9753875dc8918e80b7adbf92686f0000fb1ec75082115612c2b41", func := "carrier/carrierlaw15.QueueKeeps", spec := "queueKeeps", unfollowed := true, recurses := true, apart := false, narrowed := true }
def QueueKeepsUptoSaid : Prop := queueKeepsUptoRow.holds Tryz.pinned (OpenSpec.upto queueKeepsSpec)

end Rows
end Go.Proofs.YthpcahgdobnljaaGreat
