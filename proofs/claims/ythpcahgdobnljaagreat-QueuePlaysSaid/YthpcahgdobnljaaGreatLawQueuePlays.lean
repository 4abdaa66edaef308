/- The law QueuePlays of the given program returns true for every input and leaves its input as it was. No condition. -/
import Derived.Test.YthpcahgdobnljaaGreatRows
import Derived.Test.YthpcahgdobnljaaGreatL15u
import Derived.Test.YthpcahgdobnljaaGreatRxB
import Derived.KernelRfl
namespace Go.Proofs.YthpcahgdobnljaaGreat.queuePlays
open Go.RX Go.ChangeShapes Go.WideShapes Go.ChangeAt Go.RowKit
set_option linter.unusedVariables false
theorem own : ownKnob Tryz.prog.godebug = none := by kernel_rfl
theorem laidOut : laidOutB Tryz.prog = true := by kernel_rfl
set_option maxRecDepth 100000 in
theorem lifted (os : Os) (started : os.Started) (H : Type) (enc : TypeId × Value → H) :
    ReturnsInHanded {} Tryz.checked os 4 .any (Rows.queuePlaysSpec.pre6 enc Tryz.prog Tryz.f4 Rows.queuePlaysRow.domain false) (Rows.queuePlaysSpec.post enc Tryz.prog Tryz.f4 false true false false) := by
  refine returnsInHanded_of_change_sized (C := Tryz.checked) own started (by kernel_rfl) Tryz.func4
    (ChangeSpec.witness6 (enc := enc) (C := Tryz.checked) false ⟨#[], #[.slice none 0 0], []⟩ 8 (by kernel_rfl) (by kernel_rfl) (by kernel_rfl) (by kernel_rfl)) ?_
  intro W base args ds gs before hval0 hW hcnd hsz0 _
  have hval : ∀ (j : Nat) t v, Tryz.f4.params[j]? = some t → args[j]? = some v → Value.okWide Tryz.prog W .any base t v := hval0
  have hW' := hW
  obtain ⟨p, q, hA0, hV, rfl, hfz, hnd⟩ := hW
  have hA : DataW.TrodAll enc Tryz.prog W 0 (fun _ => true) true Tryz.f4.params.toList args.toList ds p := hA0
  have hK := hA
  rw [Tryz.params4] at hA hval
  obtain ⟨v0, vs0, d0, ds0, p0, q0, hargs, rfl, rfl, h0, rest0⟩ := trodAll_cons hA
  obtain ⟨rfl, rfl, rfl⟩ := trodAll_nil rest0
  obtain rfl : args = #[v0] := by cases args; simp_all
  obtain ⟨rfl, rfl⟩ := trodVars_none hV
  obtain ⟨A0, c0, l0, rfl, r0, w0, n0, m0⟩ := rd_acts (hval 0 22 v0 rfl rfl) h0
  refine (l15_QueuePlays A0 c0 l0 W r0 w0).mono fun e W' ⟨he, belD⟩ => ?_
  subst he
  have bel := belD.toBelow
  exact ⟨_, rfl, _, _, _, [], _, [], hW', trodAll_mk1 (shut_bool Tryz.underlying4 _), trodAll_below laidOut bel (by kernel_rfl) hK hK.lt, rfl, bel.frame _, fun h => by cases h⟩
theorem over : Rows.queuePlaysRow.holds Tryz.pinned (OpenSpec.ofChange Rows.queuePlaysSpec) :=
  OpenClaim.holds_of_wide 4 Tryz.f4 rfl rfl rfl rfl rfl rfl rfl ⟨rfl, rfl, rfl, rfl, rfl⟩ rfl rfl rfl rfl rfl (by kernel_rfl) Tryz.func4 (by kernel_rfl)
    (of_decide_eq_true (by kernel_rfl)) (by unfold Func.isWrapper; first | (rw [if_pos (by decide +kernel)]; kernel_rfl) | (rw [if_neg (by decide +kernel)]; exact ⟨rfl, rfl⟩))
    (fun os started H enc _ => lifted os started H enc)
end Go.Proofs.YthpcahgdobnljaaGreat.queuePlays
namespace Go.Proofs.YthpcahgdobnljaaGreat
/-- The row. -/
theorem queuePlays_holds : Rows.QueuePlaysSaid := queuePlays.over
end Go.Proofs.YthpcahgdobnljaaGreat
