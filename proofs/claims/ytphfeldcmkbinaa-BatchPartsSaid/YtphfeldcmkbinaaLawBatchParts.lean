/- The law BatchParts of the given program returns true for every input and leaves its input as it was. No condition. -/
import Derived.Test.YtphfeldcmkbinaaRows
import Derived.Test.YtphfeldcmkbinaaL12f
import Derived.Test.YtphfeldcmkbinaaRxRow
import Derived.KernelRfl
namespace Go.Proofs.Ytphfeldcmkbinaa.batchParts
open Go.RX Go.ChangeShapes Go.WideShapes Go.ChangeAt Go.RowKit
set_option linter.unusedVariables false
theorem own : ownKnob Try.prog.godebug = none := by kernel_rfl
theorem laidOut : laidOutB Try.prog = true := by kernel_rfl
set_option maxRecDepth 100000 in
theorem lifted (os : Os) (started : os.Started) (H : Type) (enc : TypeId × Value → H) :
    ReturnsInHanded {} Try.checked os 4 .any (Rows.batchPartsSpec.pre6 enc Try.prog Try.f4 Rows.batchPartsRow.domain false) (Rows.batchPartsSpec.post enc Try.prog Try.f4 false true false false) := by
  refine returnsInHanded_of_change_sized (C := Try.checked) own started (by kernel_rfl) Try.func4
    (ChangeSpec.witness6 (enc := enc) (C := Try.checked) false ⟨#[], #[.slice none 0 0, .slice none 0 0, .int .u8 0, .int .u8 0, .int .u8 0, .slice none 0 0], []⟩ 8 (by kernel_rfl) (by kernel_rfl) (by kernel_rfl) (by kernel_rfl)) ?_
  intro W base args ds gs before hval0 hW hcnd hsz0 _
  have hval : ∀ (j : Nat) t v, Try.f4.params[j]? = some t → args[j]? = some v → Value.okWide Try.prog W .any base t v := hval0
  have hW' := hW
  obtain ⟨p, q, hA0, hV, rfl, hfz, hnd⟩ := hW
  have hA : DataW.TrodAll enc Try.prog W 0 (fun _ => true) true Try.f4.params.toList args.toList ds p := hA0
  have hK := hA
  rw [Try.params4] at hA hval
  obtain ⟨v0, vs0, d0, ds0, p0, q0, hargs, rfl, rfl, h0, rest0⟩ := trodAll_cons hA
  obtain ⟨v1, vs1, d1, ds1, p1, q1, rfl, rfl, rfl, h1, rest1⟩ := trodAll_cons rest0
  obtain ⟨v2, vs2, d2, ds2, p2, q2, rfl, rfl, rfl, h2, rest2⟩ := trodAll_cons rest1
  obtain ⟨v3, vs3, d3, ds3, p3, q3, rfl, rfl, rfl, h3, rest3⟩ := trodAll_cons rest2
  obtain ⟨v4, vs4, d4, ds4, p4, q4, rfl, rfl, rfl, h4, rest4⟩ := trodAll_cons rest3
  obtain ⟨v5, vs5, d5, ds5, p5, q5, rfl, rfl, rfl, h5, rest5⟩ := trodAll_cons rest4
  obtain ⟨rfl, rfl, rfl⟩ := trodAll_nil rest5
  obtain rfl : args = #[v0, v1, v2, v3, v4, v5] := by cases args; simp_all
  obtain ⟨rfl, rfl⟩ := trodVars_none hV
  obtain ⟨A0, c0, l0, rfl, r0, w0, n0, m0⟩ := rd_acts (hval 0 22 v0 rfl rfl) h0
  obtain ⟨A1, c1, l1, rfl, r1, w1, n1, m1⟩ := rd_ints Try.underlying23 Try.underlying5 (by kernel_rfl) (hval 1 23 v1 rfl rfl) h1
  obtain ⟨a2, rfl, w2⟩ := rd_int Try.underlying5 (hval 2 5 v2 rfl rfl) h2
  obtain ⟨a3, rfl, w3⟩ := rd_int Try.underlying5 (hval 3 5 v3 rfl rfl) h3
  obtain ⟨a4, rfl, w4⟩ := rd_int Try.underlying5 (hval 4 5 v4 rfl rfl) h4
  obtain ⟨A5, c5, l5, rfl, r5, w5, n5, m5⟩ := rd_ints Try.underlying23 Try.underlying5 (by kernel_rfl) (hval 5 23 v5 rfl rfl) h5
  refine (l12_BatchParts A0 c0 l0 A1 c1 l1 a2 a3 a4 A5 c5 l5 W r0 w0 r1 (fun z hz => bounds_u8 (w1 z hz)) (bounds_u8 w2) (bounds_u8 w3) (bounds_u8 w4) r5 (fun z hz => bounds_u8 (w5 z hz))).mono fun e W' ⟨he, belD⟩ => ?_
  subst he
  have bel := belD.toBelow
  exact ⟨_, rfl, _, _, _, [], _, [], hW', trodAll_mk1 (shut_bool Try.underlying4 _), trodAll_below laidOut bel (by kernel_rfl) hK hK.lt, rfl, bel.frame _, fun h => by cases h⟩
theorem over : Rows.batchPartsRow.holds Try.pinned (OpenSpec.ofChange Rows.batchPartsSpec) :=
  OpenClaim.holds_of_wide 4 Try.f4 rfl rfl rfl rfl rfl rfl rfl ⟨rfl, rfl, rfl, rfl, rfl⟩ rfl rfl rfl rfl rfl (by kernel_rfl) Try.func4 (by kernel_rfl)
    (of_decide_eq_true (by kernel_rfl)) (by unfold Func.isWrapper; first | (rw [if_pos (by decide +kernel)]; kernel_rfl) | (rw [if_neg (by decide +kernel)]; exact ⟨rfl, rfl⟩))
    (fun os started H enc _ => lifted os started H enc)
end Go.Proofs.Ytphfeldcmkbinaa.batchParts
namespace Go.Proofs.Ytphfeldcmkbinaa
/-- The row. -/
theorem batchParts_holds : Rows.BatchPartsSaid := batchParts.over
end Go.Proofs.Ytphfeldcmkbinaa
