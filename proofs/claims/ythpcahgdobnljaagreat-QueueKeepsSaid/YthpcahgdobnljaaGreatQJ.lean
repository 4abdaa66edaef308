/- The block of layer 15's reference: what a part of it doesn't look at. -/
import Derived.Test.YthpcahgdobnljaaGreatTxn
set_option maxRecDepth 100000
set_option autoImplicit false
namespace Go.Proofs.YthpcahgdobnljaaGreat
open Go.RX Go
structure QJ where
  b : Nat
  v0 : Value
  v1 : Value
  v2 : Value
  v3 : Value
  v4 : Value
  v5 : Value
  v6 : Value
  v7 : Value
  v8 : Value
  v9 : Value
end Go.Proofs.YthpcahgdobnljaaGreat
