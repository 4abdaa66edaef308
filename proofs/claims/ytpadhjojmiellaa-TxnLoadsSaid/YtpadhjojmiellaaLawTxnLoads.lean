/- The law TxnLoads of the given program returns true for every input and leaves its input as it was. No condition. -/
import Derived.Test.YtpadhjojmiellaaRows
import Derived.Test.YtpadhjojmiellaaL06c
import Derived.Test.YtpadhjojmiellaaRxRow
import Derived.KernelRfl
namespace Go.Proofs.Ytpadhjojmiellaa.txnLoads
open Go.RX Go.ChangeShapes Go.WideShapes Go.ChangeAt Go.RowKit
set_option linter.unusedVariables false
theorem own : ownKnob Try.prog.godebug = none := by kernel_rfl
theorem laidOut : laidOutB Try.prog = true := by kernel_rfl
set_option maxRecDepth 100000 in
theorem lifted (os : Os) (started : os.Started) (H : Type) (enc : TypeId × Value → H) :
    ReturnsInHanded {} Try.checked os 5 .any (Rows.txnLoadsSpec.pre6 enc Try.prog Try.f5 Rows.txnLoadsRow.domain false) (Rows.txnLoadsSpec.post enc Try.prog Try.f5 false true false false) := by
  refine returnsInHanded_of_change_sized (C := Try.checked) own started (by kernel_rfl) Try.func5
    (ChangeSpec.witness6 (enc := enc) (C := Try.checked) false ⟨#[], #[.int .i64 0, .slice none 0 0, .bool false], []⟩ 8 (by kernel_rfl) (by kernel_rfl) (by kernel_rfl) (by kernel_rfl)) ?_
  intro W base args ds gs before hval0 hW hcnd hsz0 _
  have hval : ∀ (j : Nat) t v, Try.f5.params[j]? = some t → args[j]? = some v → Value.okWide Try.prog W .any base t v := hval0
  have hW' := hW
  obtain ⟨p, q, hA0, hV, rfl, hfz, hnd⟩ := hW
  have hA : DataW.TrodAll enc Try.prog W 0 (fun _ => true) true Try.f5.params.toList args.toList ds p := hA0
  have hK := hA
  rw [Try.params5] at hA hval
  obtain ⟨v0, vs0, d0, ds0, p0, q0, hargs, rfl, rfl, h0, rest0⟩ := trodAll_cons hA
  obtain ⟨v1, vs1, d1, ds1, p1, q1, rfl, rfl, rfl, h1, rest1⟩ := trodAll_cons rest0
  obtain ⟨v2, vs2, d2, ds2, p2, q2, rfl, rfl, rfl, h2, rest2⟩ := trodAll_cons rest1
  obtain ⟨rfl, rfl, rfl⟩ := trodAll_nil rest2
  obtain rfl : args = #[v0, v1, v2] := by cases args; simp_all
  obtain ⟨rfl, rfl⟩ := trodVars_none hV
  obtain ⟨a0, rfl, w0⟩ := rd_int Try.underlying2 (hval 0 2 v0 rfl rfl) h0
  obtain ⟨A1, c1, l1, rfl, r1, w1, n1, m1⟩ := rd_ints Try.underlying28 Try.underlying2 (by kernel_rfl) (hval 1 28 v1 rfl rfl) h1
  obtain ⟨b2, rfl⟩ := rd_bool Try.underlying4 (hval 2 4 v2 rfl rfl) h2
  refine (l6_TxnLoads a0 A1 c1 l1 b2 W r1 (bounds_i64 w0)).mono fun e W' ⟨he, belD⟩ => ?_
  subst he
  have bel := belD.toBelow
  exact ⟨_, rfl, _, _, _, [], _, [], hW', trodAll_mk1 (shut_bool Try.underlying4 _), trodAll_below laidOut bel (by kernel_rfl) hK hK.lt, rfl, bel.frame _, fun h => by cases h⟩
theorem over : Rows.txnLoadsRow.holds Try.pinned (OpenSpec.ofChange Rows.txnLoadsSpec) :=
  OpenClaim.holds_of_wide 5 Try.f5 rfl rfl rfl rfl rfl rfl rfl ⟨rfl, rfl, rfl, rfl, rfl⟩ rfl rfl rfl rfl rfl (by kernel_rfl) Try.func5 (by kernel_rfl)
    (of_decide_eq_true (by kernel_rfl)) (by unfold Func.isWrapper; first | (rw [if_pos (by decide +kernel)]; kernel_rfl) | (rw [if_neg (by decide +kernel)]; exact ⟨rfl, rfl⟩))
    (fun os started H enc _ => lifted os started H enc)
end Go.Proofs.Ytpadhjojmiellaa.txnLoads
namespace Go.Proofs.Ytpadhjojmiellaa
/-- The row. -/
theorem txnLoads_holds : Rows.TxnLoadsSaid := txnLoads.over
end Go.Proofs.Ytpadhjojmiellaa
