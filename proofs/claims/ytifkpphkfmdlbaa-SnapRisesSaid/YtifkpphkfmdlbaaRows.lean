/-
  No cell of these rows narrows 'for every input' (looked for: loops, veiled, ifaces, maps, wideKeys, modest, calm, conditions, laid).
  DERIVED. THE GIVEN ROWS OF THIS SEAT. 6 by the template 'for every input the law returns true; each argument reads behind the call as it read before'; 0 by the template 'total and deterministic' (their statements: YtifkpphkfmdlbaaTotals.lean).
  GIVEN WITH THE SEED: the statements are not yours to turn. If you find one false, say at which input.
  Laid BY PROGRAM, IN A SANDBOX (cutbox-rows.mjs): the forced cells as the released guide's own fill.sh prints them over the translation 0e56a8c524f32d61… (all of the seat's roots in one cut). By AI agents, Wed Nov 11 2026. No macro, syntax, notation, axiom, sorry.
-/
import Derived.Test.YtifkpphkfmdlbaaChecked
import GoSem.Claim
import GoSem.ClaimJoined
import GoSem.ClaimMapViews
import Derived.JoinedTies
import Derived.KernelRfl
namespace Go.Proofs.Ytifkpphkfmdlbaa
/- THE CELL 'sum', in the pinned program and in every row, IS THE sha256 OF THE DUMP (.gsa) THAT YtifkpphkfmdlbaaProg.lean LOADS. Nothing in Lean hashes anything: it is a label: what it is worth is what the hold of that sum in a sandbox is worth. -/
noncomputable def Try.pinned : Pinned := { name := "ytifkpphkfmdlbaa", sum := "0e56a8c524f32d61b9bea701812125691c9d0dc5a745f02422ccd09dcc4d3eba", checked := Try.checked }
namespace Rows
def none {H : Type} : Left H := { results := [], args := [] }

/-- 'carrierlaw05.SnapLeast': WHATEVER THE INPUT: true; the input reads as it did. -/
def snapLeastSpec : ChangeSpec := { name := "snapLeast", fn := fun _ => fun
  | [d1, d2] => { results := [.lit (.bool true)], args := [d1, d2] }
  | _ => none }
def snapLeastRow : OpenClaim := { program := "ytifkpphkfmdlbaa", sum := "0e56a8c524f32d61b9bea701812125691c9d0dc5a745f02422ccd09dcc4d3eba", func := "carrier/carrierlaw05.SnapLeast", spec := "snapLeast", apart := false }
def SnapLeastSaid : Prop := snapLeastRow.holds Try.pinned (OpenSpec.ofChange snapLeastSpec)

/-- ITS FALSE NEIGHBOUR: 'it returns false'. Refute it at one input. -/
def snapLeastWrong : ChangeSpec := { name := "snapLeast", fn := fun _ => fun
  | [d1, d2] => { results := [.lit (.bool false)], args := [d1, d2] }
  | _ => none }
def SnapLeastWrongFalsely : Prop := snapLeastRow.holds Try.pinned (OpenSpec.ofChange snapLeastWrong)

/-- 'carrierlaw05.SnapSees': WHATEVER THE INPUT: true; the input reads as it did. -/
def snapSeesSpec : ChangeSpec := { name := "snapSees", fn := fun _ => fun
  | [d1, d2, d3] => { results := [.lit (.bool true)], args := [d1, d2, d3] }
  | _ => none }
def snapSeesRow : OpenClaim := { program := "ytifkpphkfmdlbaa", sum := "0e56a8c524f32d61b9bea701812125691c9d0dc5a745f02422ccd09dcc4d3eba", func := "carrier/carrierlaw05.SnapSees", spec := "snapSees", apart := false }
def SnapSeesSaid : Prop := snapSeesRow.holds Try.pinned (OpenSpec.ofChange snapSeesSpec)

/-- ITS FALSE NEIGHBOUR: 'it returns false'. Refute it at one input. -/
def snapSeesWrong : ChangeSpec := { name := "snapSees", fn := fun _ => fun
  | [d1, d2, d3] => { results := [.lit (.bool false)], args := [d1, d2, d3] }
  | _ => none }
def SnapSeesWrongFalsely : Prop := snapSeesRow.holds Try.pinned (OpenSpec.ofChange snapSeesWrong)

/-- 'carrierlaw05.SnapSame': WHATEVER THE INPUT: true; the input reads as it did. -/
def snapSameSpec : ChangeSpec := { name := "snapSame", fn := fun _ => fun
  | [d1, d2, d3, d4] => { results := [.lit (.bool true)], args := [d1, d2, d3, d4] }
  | _ => none }
def snapSameRow : OpenClaim := { program := "ytifkpphkfmdlbaa", sum := "0e56a8c524f32d61b9bea701812125691c9d0dc5a745f02422ccd09dcc4d3eba", func := "carrier/carrierlaw05.SnapSame", spec := "snapSame", apart := false }
def SnapSameSaid : Prop := snapSameRow.holds Try.pinned (OpenSpec.ofChange snapSameSpec)

/-- ITS FALSE NEIGHBOUR: 'it returns false'. Refute it at one input. -/
def snapSameWrong : ChangeSpec := { name := "snapSame", fn := fun _ => fun
  | [d1, d2, d3, d4] => { results := [.lit (.bool false)], args := [d1, d2, d3, d4] }
  | _ => none }
def SnapSameWrongFalsely : Prop := snapSameRow.holds Try.pinned (OpenSpec.ofChange snapSameWrong)

/-- 'carrierlaw05.SnapCovers': WHATEVER THE INPUT: true; the input reads as it did. -/
def snapCoversSpec : ChangeSpec := { name := "snapCovers", fn := fun _ => fun
  | [d1, d2, d3, d4] => { results := [.lit (.bool true)], args := [d1, d2, d3, d4] }
  | _ => none }
def snapCoversRow : OpenClaim := { program := "ytifkpphkfmdlbaa", sum := "0e56a8c524f32d61b9bea701812125691c9d0dc5a745f02422ccd09dcc4d3eba", func := "carrier/carrierlaw05.SnapCovers", spec := "snapCovers", unfollowed := true, recurses := true, apart := false }
def SnapCoversSaid : Prop := snapCoversRow.holds Try.pinned (OpenSpec.ofChange snapCoversSpec)

/-- ITS FALSE NEIGHBOUR: 'it returns false'. Refute it at one input. -/
def snapCoversWrong : ChangeSpec := { name := "snapCovers", fn := fun _ => fun
  | [d1, d2, d3, d4] => { results := [.lit (.bool false)], args := [d1, d2, d3, d4] }
  | _ => none }
def SnapCoversWrongFalsely : Prop := snapCoversRow.holds Try.pinned (OpenSpec.ofChange snapCoversWrong)

/-- 'carrierlaw05.SnapWide': WHATEVER THE INPUT: true; the input reads as it did. -/
def snapWideSpec : ChangeSpec := { name := "snapWide", fn := fun _ => fun
  | [d1, d2, d3, d4] => { results := [.lit (.bool true)], args := [d1, d2, d3, d4] }
  | _ => none }
def snapWideRow : OpenClaim := { program := "ytifkpphkfmdlbaa", sum := "0e56a8c524f32d61b9bea701812125691c9d0dc5a745f02422ccd09dcc4d3eba", func := "carrier/carrierlaw05.SnapWide", spec := "snapWide", unfollowed := true, recurses := true, apart := false }
def SnapWideSaid : Prop := snapWideRow.holds Try.pinned (OpenSpec.ofChange snapWideSpec)

/-- ITS FALSE NEIGHBOUR: 'it returns false'. Refute it at one input. -/
def snapWideWrong : ChangeSpec := { name := "snapWide", fn := fun _ => fun
  | [d1, d2, d3, d4] => { results := [.lit (.bool false)], args := [d1, d2, d3, d4] }
  | _ => none }
def SnapWideWrongFalsely : Prop := snapWideRow.holds Try.pinned (OpenSpec.ofChange snapWideWrong)

/-- 'carrierlaw05.SnapRises': WHATEVER THE INPUT: true; the input reads as it did. -/
def snapRisesSpec : ChangeSpec := { name := "snapRises", fn := fun _ => fun
  | [d1, d2, d3, d4] => { results := [.lit (.bool true)], args := [d1, d2, d3, d4] }
  | _ => none }
def snapRisesRow : OpenClaim := { program := "ytifkpphkfmdlbaa", sum := "0e56a8c524f32d61b9bea701812125691c9d0dc5a745f02422ccd09dcc4d3eba", func := "carrier/carrierlaw05.SnapRises", spec := "snapRises", unfollowed := true, recurses := true, apart := false }
def SnapRisesSaid : Prop := snapRisesRow.holds Try.pinned (OpenSpec.ofChange snapRisesSpec)

/-- ITS FALSE NEIGHBOUR: 'it returns false'. Refute it at one input. -/
def snapRisesWrong : ChangeSpec := { name := "snapRises", fn := fun _ => fun
  | [d1, d2, d3, d4] => { results := [.lit (.bool false)], args := [d1, d2, d3, d4] }
  | _ => none }
def SnapRisesWrongFalsely : Prop := snapRisesRow.holds Try.pinned (OpenSpec.ofChange snapRisesWrong)

/- THE SECOND FORM. 'bulk': how many values and letters a reading holds, each counted each time it is reached (what is shared counts as often as it is met; a slice's spare places count too). A statement '..UptoSaid' is the law's where the arguments, and the package variables that the reading takes, are together of bulk at most 1048576: NARROWER than '..Said'. Prove '..Said' where nothing that the law and all that it calls make is longer than what came in: it says more and counts as full. Else prove '..UptoSaid'. A law counts once. -/
mutual
def uptoBulk {H : Type} : DataW H → Nat
  | .lit (.string bytes) => bytes.length + 1
  | .lit _ => 1
  | .nil => 1
  | .ptr d => uptoBulk d + 1
  | .slice elems spare => uptoBulkAll elems + uptoBulkAll spare + 1
  | .agg parts => uptoBulkAll parts + 1
  | .iface _ d => uptoBulk d + 1
  | .map entries => uptoBulkEntries entries + 1
  | .held _ => 1
def uptoBulkAll {H : Type} : List (DataW H) → Nat
  | [] => 0
  | d :: r => uptoBulk d + uptoBulkAll r
def uptoBulkEntries {H : Type} : List (Lit × DataW H) → Nat
  | [] => 0
  | x :: r => uptoBulkEntry x + uptoBulkEntries r
def uptoBulkEntry {H : Type} : Lit × DataW H → Nat
  | (.string bytes, d) => bytes.length + uptoBulk d + 1
  | (_, d) => uptoBulk d + 1
 end
def uptoSmall : (H : Type) → List (DataW H) → Bool := fun _ ds => decide (uptoBulkAll ds ≤ 1048576)
def OpenSpec.upto (s : _root_.Go.ChangeSpec) : _root_.Go.OpenSpec := { _root_.Go.OpenSpec.ofChange s with cond := some uptoSmall }

/-- 'carrierlaw05.SnapLeast', WHERE WHAT IT READS IS OF BULK AT MOST 1048576: true; the input reads as it did. -/
def snapLeastUptoRow : OpenClaim := { program := "ytifkpphkfmdlbaa", sum := "0e56a8c524f32d61b9bea701812125691c9d0dc5a745f02422ccd09dcc4d3eba", func := "carrier/carrierlaw05.SnapLeast", spec := "snapLeast", apart := false, narrowed := true }
def SnapLeastUptoSaid : Prop := snapLeastUptoRow.holds Try.pinned (OpenSpec.upto snapLeastSpec)

/-- 'carrierlaw05.SnapSees', WHERE WHAT IT READS IS OF BULK AT MOST 1048576: true; the input reads as it did. -/
def snapSeesUptoRow : OpenClaim := { program := "ytifkpphkfmdlbaa", sum := "0e56a8c524f32d61b9bea701812125691c9d0dc5a745f02422ccd09dcc4d3eba", func := "carrier/carrierlaw05.SnapSees", spec := "snapSees", apart := false, narrowed := true }
def SnapSeesUptoSaid : Prop := snapSeesUptoRow.holds Try.pinned (OpenSpec.upto snapSeesSpec)

/-- 'carrierlaw05.SnapSame', WHERE WHAT IT READS IS OF BULK AT MOST 1048576: true; the input reads as it did. -/
def snapSameUptoRow : OpenClaim := { program := "ytifkpphkfmdlbaa", sum := "0e56a8c524f32d61b9bea701812125691c9d0dc5a745f02422ccd09dcc4d3eba", func := "carrier/carrierlaw05.SnapSame", spec := "snapSame", apart := false, narrowed := true }
def SnapSameUptoSaid : Prop := snapSameUptoRow.holds Try.pinned (OpenSpec.upto snapSameSpec)

/-- 'carrierlaw05.SnapCovers', WHERE WHAT IT READS IS OF BULK AT MOST 1048576: true; the input reads as it did. -/
def snapCoversUptoRow : OpenClaim := { program := "ytifkpphkfmdlbaa", sum := "0e56a8c524f32d61b9bea701812125691c9d0dc5a745f02422ccd09dcc4d3eba", func := "carrier/carrierlaw05.SnapCovers", spec := "snapCovers", unfollowed := true, recurses := true, apart := false, narrowed := true }
def SnapCoversUptoSaid : Prop := snapCoversUptoRow.holds Try.pinned (OpenSpec.upto snapCoversSpec)

/-- 'carrierlaw05.SnapWide', WHERE WHAT IT READS IS OF BULK AT MOST 1048576: true; the input reads as it did. -/
def snapWideUptoRow : OpenClaim := { program := "ytifkpphkfmdlbaa", sum := "0e56a8c524f32d61b9bea701812125691c9d0dc5a745f02422ccd09dcc4d3eba", func := "carrier/carrierlaw05.SnapWide", spec := "snapWide", unfollowed := true, recurses := true, apart := false, narrowed := true }
def SnapWideUptoSaid : Prop := snapWideUptoRow.holds Try.pinned (OpenSpec.upto snapWideSpec)

/-- 'carrierlaw05.SnapRises', WHERE WHAT IT READS IS OF BULK AT MOST 1048576: true; the input reads as it did. -/
def snapRisesUptoRow : OpenClaim := { program := "ytifkpphkfmdlbaa", sum := "0e56a8c524f32d61b9bea701812125691c9d0dc5a745f02422ccd09dcc4d3eba", func := "carrier/carrierlaw05.SnapRises", spec := "snapRises", unfollowed := true, recurses := true, apart := false, narrowed := true }
def SnapRisesUptoSaid : Prop := snapRisesUptoRow.holds Try.pinned (OpenSpec.upto snapRisesSpec)

end Rows
end Go.Proofs.Ytifkpphkfmdlbaa
