/- Events as values; Go's own functions on slices of them. -/
import Derived.Test.YtcombnlddbimoaaSl64
import Derived.Test.YtcombnlddbimoaaRxFn
set_option autoImplicit false
set_option linter.unusedVariables false
namespace Go.Proofs.Ytcombnlddbimoaa
open Go.RX Go Go.RowKit

/-- An event. -/
structure EventM where
  id : Int
  tx : Int
  owner : ByteArray
  tries : Int
  table : Int
  kind : Int
  key : Int
  text : ByteArray

def encE : EventM → List Value := fun x => [.int .i64 x.id, .int .i64 x.tx, .string x.owner, .int .i64 x.tries, .int .i64 x.table, .int .u8 x.kind, .int .i64 x.key, .string x.text]
theorem encE_is : IsEnc encE 8 := ⟨fun _ => rfl, fun x v hv => by simp [encE] at hv; rcases hv with rfl | rfl | rfl | rfl | rfl | rfl | rfl | rfl <;> rfl, by decide⟩
abbrev mkE (x : EventM) : Value := .agg #[.int .i64 x.id, .int .i64 x.tx, .string x.owner, .int .i64 x.tries, .int .i64 x.table, .int .u8 x.kind, .int .i64 x.key, .string x.text]
def zeroE : EventM := ⟨0, 0, ⟨#[]⟩, 0, 0, 0, 0, ⟨#[]⟩⟩




end Go.Proofs.Ytcombnlddbimoaa
