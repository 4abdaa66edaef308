/- The law TickRises of the given program returns true for every input and leaves its input as it was. No condition. -/
import Derived.Test.YtkhnnaekinoghaaRows
import Derived.Test.YtkhnnaekinoghaaL11c
import Derived.Test.YtkhnnaekinoghaaRxRow
import Derived.KernelRfl
namespace Go.Proofs.Ytkhnnaekinoghaa.tickRises
open Go.RX Go.ChangeShapes Go.WideShapes Go.ChangeAt Go.RowKit
set_option linter.unusedVariables false
theorem own : ownKnob Try.prog.godebug = none := by kernel_rfl
theorem laidOut : laidOutB Try.prog = true := by kernel_rfl
set_option maxRecDepth 100000 in
theorem lifted (os : Os) (started : os.Started) (H : Type) (enc : TypeId × Value → H) :
    ReturnsInHanded {} Try.checked os 4 .any (Rows.tickRisesSpec.pre6 enc Try.prog Try.f4 Rows.tickRisesRow.domain false) (Rows.tickRisesSpec.post enc Try.prog Try.f4 false true false false) := by
  refine returnsInHanded_of_change_sized (C := Try.checked) own started (by kernel_rfl) Try.func4
    (ChangeSpec.witness6 (enc := enc) (C := Try.checked) false ⟨#[], #[.int .u8 0, .int .u8 0, .slice none 0 0, .slice none 0 0, .int .i64 0, .int .i64 0], []⟩ 8 (by kernel_rfl) (by kernel_rfl) (by kernel_rfl) (by kernel_rfl)) ?_
  intro W base args ds gs before hval0 hW hcnd hsz0 _
  have hval : ∀ (j : Nat) t v, Try.f4.params[j]? = some t → args[j]? = some v → Value.okWide Try.prog W .any base t v := hval0
  have hW' := hW
  obtain ⟨p, q, hA0, hV, rfl, hfz, hnd⟩ := hW
  have hA : DataW.TrodAll enc Try.prog W 0 (fun _ => true) true Try.f4.params.toList args.toList ds p := hA0
  have hK := hA
  rw [Try.params4] at hA hval
  obtain ⟨v0, vs0, d0, ds0, p0, q0, hargs, rfl, rfl, h0, rest0⟩ := trodAll_cons hA
  obtain ⟨v1, vs1, d1, ds1, p1, q1, rfl, rfl, rfl, h1, rest1⟩ := trodAll_cons rest0
  obtain ⟨v2, vs2, d2, ds2, p2, q2, rfl, rfl, rfl, h2, rest2⟩ := trodAll_cons rest1
  obtain ⟨v3, vs3, d3, ds3, p3, q3, rfl, rfl, rfl, h3, rest3⟩ := trodAll_cons rest2
  obtain ⟨v4, vs4, d4, ds4, p4, q4, rfl, rfl, rfl, h4, rest4⟩ := trodAll_cons rest3
  obtain ⟨v5, vs5, d5, ds5, p5, q5, rfl, rfl, rfl, h5, rest5⟩ := trodAll_cons rest4
  obtain ⟨rfl, rfl, rfl⟩ := trodAll_nil rest5
  obtain rfl : args = #[v0, v1, v2, v3, v4, v5] := by cases args; simp_all
  obtain ⟨rfl, rfl⟩ := trodVars_none hV
  obtain ⟨a0, rfl, w0⟩ := rd_int Try.underlying5 (hval 0 5 v0 rfl rfl) h0
  obtain ⟨a1, rfl, w1⟩ := rd_int Try.underlying5 (hval 1 5 v1 rfl rfl) h1
  obtain ⟨A2, c2, l2, rfl, r2, w2, n2, m2⟩ := rd_ints Try.underlying36 Try.underlying5 (by kernel_rfl) (hval 2 36 v2 rfl rfl) h2
  obtain ⟨A3, c3, l3, rfl, r3, w3, n3, m3⟩ := rd_ints Try.underlying36 Try.underlying5 (by kernel_rfl) (hval 3 36 v3 rfl rfl) h3
  obtain ⟨a4, rfl, w4⟩ := rd_int Try.underlying2 (hval 4 2 v4 rfl rfl) h4
  obtain ⟨a5, rfl, w5⟩ := rd_int Try.underlying2 (hval 5 2 v5 rfl rfl) h5
  refine (l11_TickRises a0 a1 a4 a5 A2 A3 c2 c3 l2 l3 W r2 r3 (bounds_u8 w0) (bounds_u8 w1) (fun z hz => bounds_u8 (w2 z hz)) (fun z hz => bounds_u8 (w3 z hz))).mono fun e W' ⟨he, bel⟩ => ?_
  subst he
  exact ⟨_, rfl, _, _, _, [], _, [], hW', trodAll_mk1 (shut_bool Try.underlying4 _), trodAll_below laidOut bel (by kernel_rfl) hK hK.lt, rfl, bel.frame _, fun h => by cases h⟩
theorem over : Rows.tickRisesRow.holds Try.pinned (OpenSpec.ofChange Rows.tickRisesSpec) :=
  OpenClaim.holds_of_wide 4 Try.f4 rfl rfl rfl rfl rfl rfl rfl ⟨rfl, rfl, rfl, rfl, rfl⟩ rfl rfl rfl rfl rfl (by kernel_rfl) Try.func4 (by kernel_rfl)
    (of_decide_eq_true (by kernel_rfl)) (by unfold Func.isWrapper; first | (rw [if_pos (by decide +kernel)]; kernel_rfl) | (rw [if_neg (by decide +kernel)]; exact ⟨rfl, rfl⟩))
    (fun os started H enc _ => lifted os started H enc)
end Go.Proofs.Ytkhnnaekinoghaa.tickRises
namespace Go.Proofs.Ytkhnnaekinoghaa
/-- The row. -/
theorem tickRises_holds : Rows.TickRisesSaid := tickRises.over
end Go.Proofs.Ytkhnnaekinoghaa
