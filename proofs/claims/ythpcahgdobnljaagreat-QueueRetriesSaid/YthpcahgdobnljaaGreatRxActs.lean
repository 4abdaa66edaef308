/- RX, part 21: an argument that is a slice of structs. -/
import Derived.Test.YthpcahgdobnljaaGreatRxRow
import Derived.Test.YthpcahgdobnljaaGreatRxGrow
set_option autoImplicit false
set_option linter.unusedVariables false
set_option linter.unusedSimpArgs false
namespace Go.RX
open Go Go.RowKit Go.ChangeShapes Go.WideShapes

section
variable {H : Type} {enc : TypeId × Value → H} {P : Program} {w : World} {base : Nat} {sp : Nat → Bool} {held : Bool}

theorem rd_struct {tab : Tab} (ht : TabOk P tab) {T : TypeId} {fs : List (Nat × TypeId)} (hk : kindIs tab T = some (.struct fs)) {fuel : Nat} {cs : List Value} {x : DataW H × List MemPlace} (h : DataW.trod enc P w base sp held fuel T cs = some x) :
    cs.length = P.cellsOf T ∧ ∀ i off t, nth fs i = some (off, t) → ∃ y m, DataW.trod enc P w base sp held m t ((cs.drop off).take (P.cellsOf t)) = some y := by
  obtain ⟨d, hd, fields, rfl, hfs⟩ := kind_spec ht hk
  obtain ⟨xs, n, _, rfl, hl, hlen, hf⟩ := DataW.trod_struct hd h
  refine ⟨hl, fun i off t hi => ?_⟩
  rw [nth_eq, ← hfs, List.getElem?_map] at hi
  obtain ⟨fl, h1, h2⟩ := Option.map_eq_some_iff.1 hi
  simp only [Prod.mk.injEq] at h2
  obtain ⟨h3, h4⟩ := h2
  subst h3 h4
  have h1' : fields[i]? = some fl := by simpa using h1
  have := hf i fl h1'
  have hi' : i < xs.length := by rw [hlen]; exact (Array.getElem?_eq_some_iff.1 h1').1
  rw [List.getElem?_eq_getElem hi'] at this
  exact ⟨_, n, this⟩
end
end Go.RX
