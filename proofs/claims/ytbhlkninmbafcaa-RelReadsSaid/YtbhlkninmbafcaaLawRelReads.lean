/- The law RelReads of the given program returns true for every input and leaves its input as it was. No condition. -/
import Derived.Test.YtbhlkninmbafcaaRows
import Derived.Test.YtbhlkninmbafcaaL08g
import Derived.Test.YtbhlkninmbafcaaRxRow
import Derived.KernelRfl
namespace Go.Proofs.Ytbhlkninmbafcaa.relReads
open Go.RX Go.ChangeShapes Go.WideShapes Go.ChangeAt Go.RowKit
set_option linter.unusedVariables false
theorem own : ownKnob Try.prog.godebug = none := by kernel_rfl
theorem laidOut : laidOutB Try.prog = true := by kernel_rfl
set_option maxRecDepth 100000 in
theorem lifted (os : Os) (started : os.Started) (H : Type) (enc : TypeId × Value → H) :
    ReturnsInHanded {} Try.checked os 8 .any (Rows.relReadsSpec.pre6 enc Try.prog Try.f8 Rows.relReadsRow.domain false) (Rows.relReadsSpec.post enc Try.prog Try.f8 false true false false) := by
  refine returnsInHanded_of_change_sized (C := Try.checked) own started (by kernel_rfl) Try.func8
    (ChangeSpec.witness6 (enc := enc) (C := Try.checked) false ⟨#[], #[.slice none 0 0, .int .u8 0, .int .u8 0, .int .u8 0], []⟩ 8 (by kernel_rfl) (by kernel_rfl) (by kernel_rfl) (by kernel_rfl)) ?_
  intro W base args ds gs before hval0 hW hcnd hsz0 _
  have hval : ∀ (j : Nat) t v, Try.f8.params[j]? = some t → args[j]? = some v → Value.okWide Try.prog W .any base t v := hval0
  have hW' := hW
  obtain ⟨p, q, hA0, hV, rfl, hfz, hnd⟩ := hW
  have hA : DataW.TrodAll enc Try.prog W 0 (fun _ => true) true Try.f8.params.toList args.toList ds p := hA0
  have hK := hA
  rw [Try.params8] at hA hval
  obtain ⟨v0, vs0, d0, ds0, p0, q0, hargs, rfl, rfl, h0, rest0⟩ := trodAll_cons hA
  obtain ⟨v1, vs1, d1, ds1, p1, q1, rfl, rfl, rfl, h1, rest1⟩ := trodAll_cons rest0
  obtain ⟨v2, vs2, d2, ds2, p2, q2, rfl, rfl, rfl, h2, rest2⟩ := trodAll_cons rest1
  obtain ⟨v3, vs3, d3, ds3, p3, q3, rfl, rfl, rfl, h3, rest3⟩ := trodAll_cons rest2
  obtain ⟨rfl, rfl, rfl⟩ := trodAll_nil rest3
  obtain rfl : args = #[v0, v1, v2, v3] := by cases args; simp_all
  obtain ⟨rfl, rfl⟩ := trodVars_none hV
  obtain ⟨A0, c0, l0, rfl, r0, w0, n0, m0⟩ := rd_acts (hval 0 58 v0 rfl rfl) h0
  obtain ⟨a1, rfl, w1⟩ := rd_int Try.underlying5 (hval 1 5 v1 rfl rfl) h1
  obtain ⟨a2, rfl, w2⟩ := rd_int Try.underlying5 (hval 2 5 v2 rfl rfl) h2
  obtain ⟨a3, rfl, w3⟩ := rd_int Try.underlying5 (hval 3 5 v3 rfl rfl) h3
  refine (l08_RelReads A0 c0 l0 a1 a2 a3 W r0 w0 (Nat.le_trans n0 m0) (bounds_u8 w1) (bounds_u8 w2) (bounds_u8 w3)).mono fun e W' ⟨he, belD⟩ => ?_
  subst he
  have bel := belD.toBelow
  exact ⟨_, rfl, _, _, _, [], _, [], hW', trodAll_mk1 (shut_bool Try.underlying4 _), trodAll_below laidOut bel (by kernel_rfl) hK hK.lt, rfl, bel.frame _, fun h => by cases h⟩
theorem over : Rows.relReadsRow.holds Try.pinned (OpenSpec.ofChange Rows.relReadsSpec) :=
  OpenClaim.holds_of_wide 8 Try.f8 rfl rfl rfl rfl rfl rfl rfl ⟨rfl, rfl, rfl, rfl, rfl⟩ rfl rfl rfl rfl rfl (by kernel_rfl) Try.func8 (by kernel_rfl)
    (of_decide_eq_true (by kernel_rfl)) (by unfold Func.isWrapper; first | (rw [if_pos (by decide +kernel)]; kernel_rfl) | (rw [if_neg (by decide +kernel)]; exact ⟨rfl, rfl⟩))
    (fun os started H enc _ => lifted os started H enc)
end Go.Proofs.Ytbhlkninmbafcaa.relReads
namespace Go.Proofs.Ytbhlkninmbafcaa
/-- The row. -/
theorem relReads_holds : Rows.RelReadsSaid := relReads.over
end Go.Proofs.Ytbhlkninmbafcaa
