/-
  No cell of these rows narrows 'for every input' (looked for: loops, veiled, ifaces, maps, wideKeys, modest, calm, conditions, laid).
  DERIVED. THE GIVEN ROWS OF THIS SEAT. 6 by the template 'for every input the law returns true; each argument reads behind the call as it read before'; 0 by the template 'total and deterministic' (their statements: YtphfeldcmkbinaaTotals.lean).
  GIVEN WITH THE SEED: the statements are not yours to turn. If you find one false, say at which input.
  Laid BY PROGRAM, IN A SANDBOX (cutbox-rows.mjs): the forced cells as the released guide's own fill.sh prints them over the translation 452c39970a925353… (all of the seat's roots in one cut). By AI agents, Wed Nov 11 2026. No macro, syntax, notation, axiom, sorry.
-/
import Derived.Test.YtphfeldcmkbinaaChecked
import GoSem.Claim
import GoSem.ClaimJoined
import GoSem.ClaimMapViews
import Derived.JoinedTies
import Derived.KernelRfl
namespace Go.Proofs.Ytphfeldcmkbinaa
/- THE CELL 'sum', in the pinned program and in every row, IS THE sha256 OF THE DUMP (.gsa) THAT YtphfeldcmkbinaaProg.lean LOADS. Nothing in Lean hashes anything: it is a label: what it is worth is what the hold of that sum in a sandbox is worth. -/
noncomputable def Try.pinned : Pinned := { name := "ytphfeldcmkbinaa", sum := "452c39970a925353cfe0c436c7e8d63c7a24339ca8782526d399244dded8c031", checked := Try.checked }
namespace Rows
def none {H : Type} : Left H := { results := [], args := [] }

/-- 'carrierlaw12.BatchOf': WHATEVER THE INPUT: true; the input reads as it did. -/
def batchOfSpec : ChangeSpec := { name := "batchOf", fn := fun _ => fun
  | [d1, d2, d3, d4, d5, d6, d7] => { results := [.lit (.bool true)], args := [d1, d2, d3, d4, d5, d6, d7] }
  | _ => none }
def batchOfRow : OpenClaim := { program := "ytphfeldcmkbinaa", sum := "452c39970a925353cfe0c436c7e8d63c7a24339ca8782526d399244dded8c031", func := "carrier/carrierlaw12.BatchOf", spec := "batchOf", unfollowed := true, recurses := true, apart := false }
def BatchOfSaid : Prop := batchOfRow.holds Try.pinned (OpenSpec.ofChange batchOfSpec)

/-- ITS FALSE NEIGHBOUR: 'it returns false'. Refute it at one input. -/
def batchOfWrong : ChangeSpec := { name := "batchOf", fn := fun _ => fun
  | [d1, d2, d3, d4, d5, d6, d7] => { results := [.lit (.bool false)], args := [d1, d2, d3, d4, d5, d6, d7] }
  | _ => none }
def BatchOfWrongFalsely : Prop := batchOfRow.holds Try.pinned (OpenSpec.ofChange batchOfWrong)

/-- 'carrierlaw12.BatchParts': WHATEVER THE INPUT: true; the input reads as it did. -/
def batchPartsSpec : ChangeSpec := { name := "batchParts", fn := fun _ => fun
  | [d1, d2, d3, d4, d5, d6] => { results := [.lit (.bool true)], args := [d1, d2, d3, d4, d5, d6] }
  | _ => none }
def batchPartsRow : OpenClaim := { program := "ytphfeldcmkbinaa", sum := "452c39970a925353cfe0c436c7e8d63c7a24339ca8782526d399244dded8c031", func := "carrier/carrierlaw12.BatchParts", spec := "batchParts", unfollowed := true, recurses := true, apart := false }
def BatchPartsSaid : Prop := batchPartsRow.holds Try.pinned (OpenSpec.ofChange batchPartsSpec)

/-- ITS FALSE NEIGHBOUR: 'it returns false'. Refute it at one input. -/
def batchPartsWrong : ChangeSpec := { name := "batchParts", fn := fun _ => fun
  | [d1, d2, d3, d4, d5, d6] => { results := [.lit (.bool false)], args := [d1, d2, d3, d4, d5, d6] }
  | _ => none }
def BatchPartsWrongFalsely : Prop := batchPartsRow.holds Try.pinned (OpenSpec.ofChange batchPartsWrong)

/-- 'carrierlaw12.BatchOwners': WHATEVER THE INPUT: true; the input reads as it did. -/
def batchOwnersSpec : ChangeSpec := { name := "batchOwners", fn := fun _ => fun
  | [d1, d2, d3] => { results := [.lit (.bool true)], args := [d1, d2, d3] }
  | _ => none }
def batchOwnersRow : OpenClaim := { program := "ytphfeldcmkbinaa", sum := "452c39970a925353cfe0c436c7e8d63c7a24339ca8782526d399244dded8c031", func := "carrier/carrierlaw12.BatchOwners", spec := "batchOwners", unfollowed := true, recurses := true, apart := false }
def BatchOwnersSaid : Prop := batchOwnersRow.holds Try.pinned (OpenSpec.ofChange batchOwnersSpec)

/-- ITS FALSE NEIGHBOUR: 'it returns false'. Refute it at one input. -/
def batchOwnersWrong : ChangeSpec := { name := "batchOwners", fn := fun _ => fun
  | [d1, d2, d3] => { results := [.lit (.bool false)], args := [d1, d2, d3] }
  | _ => none }
def BatchOwnersWrongFalsely : Prop := batchOwnersRow.holds Try.pinned (OpenSpec.ofChange batchOwnersWrong)

/-- 'carrierlaw12.BatchNone': WHATEVER THE INPUT: true; the input reads as it did. -/
def batchNoneSpec : ChangeSpec := { name := "batchNone", fn := fun _ => fun
  | [d1, d2] => { results := [.lit (.bool true)], args := [d1, d2] }
  | _ => none }
def batchNoneRow : OpenClaim := { program := "ytphfeldcmkbinaa", sum := "452c39970a925353cfe0c436c7e8d63c7a24339ca8782526d399244dded8c031", func := "carrier/carrierlaw12.BatchNone", spec := "batchNone", unfollowed := true, recurses := true, apart := false }
def BatchNoneSaid : Prop := batchNoneRow.holds Try.pinned (OpenSpec.ofChange batchNoneSpec)

/-- ITS FALSE NEIGHBOUR: 'it returns false'. Refute it at one input. -/
def batchNoneWrong : ChangeSpec := { name := "batchNone", fn := fun _ => fun
  | [d1, d2] => { results := [.lit (.bool false)], args := [d1, d2] }
  | _ => none }
def BatchNoneWrongFalsely : Prop := batchNoneRow.holds Try.pinned (OpenSpec.ofChange batchNoneWrong)

/-- 'carrierlaw12.BatchNeeds': WHATEVER THE INPUT: true; the input reads as it did. -/
def batchNeedsSpec : ChangeSpec := { name := "batchNeeds", fn := fun _ => fun
  | [d1, d2, d3, d4, d5, d6, d7] => { results := [.lit (.bool true)], args := [d1, d2, d3, d4, d5, d6, d7] }
  | _ => none }
def batchNeedsRow : OpenClaim := { program := "ytphfeldcmkbinaa", sum := "452c39970a925353cfe0c436c7e8d63c7a24339ca8782526d399244dded8c031", func := "carrier/carrierlaw12.BatchNeeds", spec := "batchNeeds", unfollowed := true, recurses := true, apart := false }
def BatchNeedsSaid : Prop := batchNeedsRow.holds Try.pinned (OpenSpec.ofChange batchNeedsSpec)

/-- ITS FALSE NEIGHBOUR: 'it returns false'. Refute it at one input. -/
def batchNeedsWrong : ChangeSpec := { name := "batchNeeds", fn := fun _ => fun
  | [d1, d2, d3, d4, d5, d6, d7] => { results := [.lit (.bool false)], args := [d1, d2, d3, d4, d5, d6, d7] }
  | _ => none }
def BatchNeedsWrongFalsely : Prop := batchNeedsRow.holds Try.pinned (OpenSpec.ofChange batchNeedsWrong)

/-- 'carrierlaw12.BatchFree': WHATEVER THE INPUT: true; the input reads as it did. -/
def batchFreeSpec : ChangeSpec := { name := "batchFree", fn := fun _ => fun
  | [d1, d2, d3, d4, d5, d6] => { results := [.lit (.bool true)], args := [d1, d2, d3, d4, d5, d6] }
  | _ => none }
def batchFreeRow : OpenClaim := { program := "ytphfeldcmkbinaa", sum := "452c39970a925353cfe0c436c7e8d63c7a24339ca8782526d399244dded8c031", func := "carrier/carrierlaw12.BatchFree", spec := "batchFree", unfollowed := true, recurses := true, apart := false }
def BatchFreeSaid : Prop := batchFreeRow.holds Try.pinned (OpenSpec.ofChange batchFreeSpec)

/-- ITS FALSE NEIGHBOUR: 'it returns false'. Refute it at one input. -/
def batchFreeWrong : ChangeSpec := { name := "batchFree", fn := fun _ => fun
  | [d1, d2, d3, d4, d5, d6] => { results := [.lit (.bool false)], args := [d1, d2, d3, d4, d5, d6] }
  | _ => none }
def BatchFreeWrongFalsely : Prop := batchFreeRow.holds Try.pinned (OpenSpec.ofChange batchFreeWrong)

/- THE SECOND FORM. 'bulk': how many values and letters a reading holds, each counted each time it is reached (what is shared counts as often as it is met; a slice's spare places count too). A statement '..UptoSaid' is the law's where the arguments, and the package variables that the reading takes, are together of bulk at most 1048576: NARROWER than '..Said'. Prove '..Said' where nothing that the law and all that it calls make is longer than what came in: it says more and counts as full. Else prove '..UptoSaid'. A law counts once. -/
mutual
def uptoBulk {H : Type} : DataW H → Nat
  | .lit (.string bytes) => bytes.length + 1
  | .lit _ => 1
  | .nil => 1
  | .ptr d => uptoBulk d + 1
  | .slice elems spare => uptoBulkAll elems + uptoBulkAll spare + 1
  | .agg parts => uptoBulkAll parts + 1
  | .iface _ d => uptoBulk d + 1
  | .map entries => uptoBulkEntries entries + 1
  | .held _ => 1
def uptoBulkAll {H : Type} : List (DataW H) → Nat
  | [] => 0
  | d :: r => uptoBulk d + uptoBulkAll r
def uptoBulkEntries {H : Type} : List (Lit × DataW H) → Nat
  | [] => 0
  | x :: r => uptoBulkEntry x + uptoBulkEntries r
def uptoBulkEntry {H : Type} : Lit × DataW H → Nat
  | (.string bytes, d) => bytes.length + uptoBulk d + 1
  | (_, d) => uptoBulk d + 1
 end
def uptoSmall : (H : Type) → List (DataW H) → Bool := fun _ ds => decide (uptoBulkAll ds ≤ 1048576)
def OpenSpec.upto (s : _root_.Go.ChangeSpec) : _root_.Go.OpenSpec := { _root_.Go.OpenSpec.ofChange s with cond := some uptoSmall }

/-- 'carrierlaw12.BatchOf', WHERE WHAT IT READS IS OF BULK AT MOST 1048576: true; the input reads as it did. -/
def batchOfUptoRow : OpenClaim := { program := "ytphfeldcmkbinaa", sum := "452c39970a925353cfe0c436c7e8d63c7a24339ca8782526d399244dded8c031", func := "carrier/carrierlaw12.BatchOf", spec := "batchOf", unfollowed := true, recurses := true, apart := false, narrowed := true }
def BatchOfUptoSaid : Prop := batchOfUptoRow.holds Try.pinned (OpenSpec.upto batchOfSpec)

/-- 'carrierlaw12.BatchParts', WHERE WHAT IT READS IS OF BULK AT MOST 1048576: true; the input reads as it did. -/
def batchPartsUptoRow : OpenClaim := { program := "ytphfeldcmkbinaa", sum := "452c39970a925353cfe0c436c7e8d63c7a24339ca8782526d399244dded8c031", func := "carrier/carrierlaw12.BatchParts", spec := "batchParts", unfollowed := true, recurses := true, apart := false, narrowed := true }
def BatchPartsUptoSaid : Prop := batchPartsUptoRow.holds Try.pinned (OpenSpec.upto batchPartsSpec)

/-- 'carrierlaw12.BatchOwners', WHERE WHAT IT READS IS OF BULK AT MOST 1048576: true; the input reads as it did. -/
def batchOwnersUptoRow : OpenClaim := { program := "ytphfeldcmkbinaa", sum := "452c39970a925353cfe0c436c7e8d63c7a24339ca8782526d399244dded8c031", func := "carrier/carrierlaw12.BatchOwners", spec := "batchOwners", unfollowed := true, recurses := true, apart := false, narrowed := true }
def BatchOwnersUptoSaid : Prop := batchOwnersUptoRow.holds Try.pinned (OpenSpec.upto batchOwnersSpec)

/-- 'carrierlaw12.BatchNone', WHERE WHAT IT READS IS OF BULK AT MOST 1048576: true; the input reads as it did. -/
def batchNoneUptoRow : OpenClaim := { program := "ytphfeldcmkbinaa", sum := "452c39970a925353cfe0c436c7e8d63c7a24339ca8782526d399244dded8c031", func := "carrier/carrierlaw12.BatchNone", spec := "batchNone", unfollowed := true, recurses := true, apart := false, narrowed := true }
def BatchNoneUptoSaid : Prop := batchNoneUptoRow.holds Try.pinned (OpenSpec.upto batchNoneSpec)

/-- 'carrierlaw12.BatchNeeds', WHERE WHAT IT READS IS OF BULK AT MOST 1048576: true; the input reads as it did. -/
def batchNeedsUptoRow : OpenClaim := { program := "ytphfeldcmkbinaa", sum := "452c39970a925353cfe0c436c7e8d63c7a24339ca8782526d399244dded8c031", func := "carrier/carrierlaw12.BatchNeeds", spec := "batchNeeds", unfollowed := true, recurses := true, apart := false, narrowed := true }
def BatchNeedsUptoSaid : Prop := batchNeedsUptoRow.holds Try.pinned (OpenSpec.upto batchNeedsSpec)

/-- 'carrierlaw12.BatchFree', WHERE WHAT IT READS IS OF BULK AT MOST 1048576: true; the input reads as it did. -/
def batchFreeUptoRow : OpenClaim := { program := "ytphfeldcmkbinaa", sum := "452c39970a925353cfe0c436c7e8d63c7a24339ca8782526d399244dded8c031", func := "carrier/carrierlaw12.BatchFree", spec := "batchFree", unfollowed := true, recurses := true, apart := false, narrowed := true }
def BatchFreeUptoSaid : Prop := batchFreeUptoRow.holds Try.pinned (OpenSpec.upto batchFreeSpec)

end Rows
end Go.Proofs.Ytphfeldcmkbinaa
