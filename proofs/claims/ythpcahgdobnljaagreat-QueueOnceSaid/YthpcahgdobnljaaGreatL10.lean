/- The laws of layer 10: what each run comes to. -/
import Derived.Test.YthpcahgdobnljaaGreatSpool
set_option maxRecDepth 100000
set_option autoImplicit false
set_option linter.unusedVariables false
namespace Go.Proofs.YthpcahgdobnljaaGreat.Sp
open Go.RX Go Go.RowKit

def evE (id : Int) : EventM := ⟨id, 0, ⟨#[]⟩, 0, 0, 0, 0, ⟨#[]⟩⟩

end Go.Proofs.YthpcahgdobnljaaGreat.Sp
