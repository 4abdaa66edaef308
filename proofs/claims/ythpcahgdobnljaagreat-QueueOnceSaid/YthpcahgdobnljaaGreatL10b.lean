/- The law SpoolNil: what its run comes to. -/
import Derived.Test.YthpcahgdobnljaaGreatL10
set_option maxRecDepth 100000
set_option autoImplicit false
set_option linter.unusedVariables false
namespace Go.Proofs.YthpcahgdobnljaaGreat.Sp
open Go.RX Go Go.RowKit


abbrev noEv : Value := mkE ⟨0, 0, ⟨#[]⟩, 0, 0, 0, 0, ⟨#[]⟩⟩
theorem spool_cur_nil (w0 : World) : Calls Tryz.prog 78 #[.pointer none] w0 fun e w' => e = .returned (.int .i64 0) ∧ BelowD w0.heap.size w0 w' := by
  refine enterP (tab := tab) Tryz.func78 rfl Tryz.ntmps78 rfl (args := [_]) rfl ?_
  refine VC_sound tabOk 100 ?_
  rfl
theorem spool_len_nil (w0 : World) : Calls Tryz.prog 141 #[.pointer none] w0 fun e w' => e = .returned (.int .i64 0) ∧ BelowD w0.heap.size w0 w' := by
  refine enterP (tab := tab) Tryz.func141 rfl Tryz.ntmps141 rfl (args := [_]) rfl ?_
  refine VC_sound tabOk 100 ?_
  rfl
theorem spool_addTo_nil (i : Int) (w0 : World) : Calls Tryz.prog 140 #[.pointer none, .int .i64 i, noEv] w0 fun e w' => e = .returned (.int .i64 4) ∧ BelowD w0.heap.size w0 w' := by
  refine enterP (tab := tab) Tryz.func140 rfl Tryz.ntmps140 rfl (args := [_, _, _]) rfl ?_
  refine VC_sound tabOk 100 ?_
  intro b5 _
  rfl
theorem spool_add_nil (w0 : World) : Calls Tryz.prog 86 #[.pointer none, noEv] w0 fun e w' => e = .returned (.tuple #[]) ∧ BelowD w0.heap.size w0 w' := by
  refine enterP (tab := tab) Tryz.func86 rfl Tryz.ntmps86 rfl (args := [_, _]) rfl ?_
  refine VC_sound tabOk 100 ?_
  intro b3 _
  refine Go_res [.blk b3 65 [.int .i64 0, .int .i64 0, .string ⟨#[]⟩, .int .i64 0, .int .i64 0, .int .u8 0, .int .i64 0, .string ⟨#[]⟩]] (fun _ h => h) ?_
  show Go _ _ _ _
  refine Go_any mixed [4] [(0, false), (1, false), (3, false), (2, true), (4, true)] rfl (by kernel_rfl) (by kernel_rfl) [.blk b3 65 [.int .i64 0, .int .i64 0, .string ⟨#[]⟩, .int .i64 0, .int .i64 0, .int .u8 0, .int .i64 0, .string ⟨#[]⟩]] (FrmX [heapOf w0]) (FrmX.stable _) (fun w hm _ => ⟨Holds.of_mod hm (by simp), FrmX.of_mod hm⟩) ?_
  refine VC_sound tabOk 100 ?_
  (repeat (first | refine Or.inl ⟨rfl, rfl, ?_⟩ | refine Or.inl ⟨rfl, ?_⟩ | refine Or.inr ?_))
  refine Go_aloneS rfl rfl (fun w hm _ => ⟨Holds.of_mod hm (by simp), FrmX.of_mod hm⟩) (OpTo_pcall (v := .int .i64 0) rfl rfl rfl rfl rfl (by kernel_rfl) (fun w hm _ => spool_cur_nil w) ?_)
  refine And.intro rfl ?_
  refine VC_sound tabOk 100 ?_
  refine Go_aloneM rfl rfl rfl (OpTo_pcall (v := .int .i64 4) rfl rfl rfl rfl rfl (by kernel_rfl) (fun w hm _ => spool_addTo_nil 0 w) ?_)
  refine VC_sound tabOk 100 ?_
  rfl
theorem spool_rotate_nil (w0 : World) : Calls Tryz.prog 89 #[.pointer none, .bool true] w0 fun e w' => e = .returned (.tuple #[.int .u8 0, .int .i64 4]) ∧ BelowD w0.heap.size w0 w' := by
  refine enterP (tab := tab) Tryz.func89 rfl Tryz.ntmps89 rfl (args := [_, _]) rfl ?_
  refine VC_sound tabOk 100 ?_
  rfl
theorem spool_list_nil (i : Int) (w0 : World) : Calls Tryz.prog 168 #[.pointer none, .int .i64 i] w0 fun e w' => e = .returned (.slice none 0 0) ∧ BelowD w0.heap.size w0 w' := by
  refine enterP (tab := tab) Tryz.func168 rfl Tryz.ntmps168 rfl (args := [_, _]) rfl ?_
  refine VC_sound tabOk 100 ?_
  rfl
theorem spool_all_nil (w0 : World) : Calls Tryz.prog 33 #[.pointer none] w0 fun e w' => e = .returned (.slice none 0 0) ∧ BelowD w0.heap.size w0 w' := by
  refine enterP (tab := tab) Tryz.func33 rfl Tryz.ntmps33 rfl (args := [_]) rfl ?_
  refine VC_sound tabOk 100 ?_
  rfl
theorem spool_after_nil (w0 : World) : Calls Tryz.prog 144 #[.pointer none] w0 fun e w' => e = .returned (.int .i64 1) ∧ BelowD w0.heap.size w0 w' := by
  refine enterP (tab := tab) Tryz.func144 rfl Tryz.ntmps144 rfl (args := [_]) rfl ?_
  refine VC_sound tabOk 100 ?_
  refine Go_ops rfl (OpTo_pcall (v := .int .i64 0) rfl rfl rfl rfl rfl (by kernel_rfl) (fun w hm _ => spool_cur_nil w) ?_)
  refine VC_sound tabOk 100 ?_
  refine ⟨1, wrap_i64 (n := 1) (by omega) (by omega), ?_⟩
  refine ⟨by decide, 1, by decide, ?_⟩
  rfl
theorem spool_next_nil (w0 : World) : Calls Tryz.prog 108 #[.pointer none] w0 fun e w' => e = .returned (.slice none 0 0) ∧ BelowD w0.heap.size w0 w' := by
  refine enterP (tab := tab) Tryz.func108 rfl Tryz.ntmps108 rfl (args := [_]) rfl ?_
  refine VC_sound tabOk 100 ?_
  refine Go_ops rfl (OpTo_pcall (v := .int .i64 1) rfl rfl rfl rfl rfl (by kernel_rfl) (fun w hm _ => spool_after_nil w) ?_)
  refine VC_sound tabOk 100 ?_
  refine Go_ops rfl (OpTo_pcall (v := .slice none 0 0) rfl rfl rfl rfl rfl (by kernel_rfl) (fun w hm _ => spool_list_nil 1 w) ?_)
  refine VC_sound tabOk 100 ?_
  rfl
theorem spool_forget_nil (x : Int) (w0 : World) : Calls Tryz.prog 88 #[.pointer none, .int .i64 x] w0 fun e w' => e = .returned (.int .i64 0) ∧ BelowD w0.heap.size w0 w' := by
  refine enterP (tab := tab) Tryz.func88 rfl Tryz.ntmps88 rfl (args := [_, _]) rfl ?_
  refine VC_sound tabOk 100 ?_
  intro b3 _
  refine Go_ops rfl (OpTo_pcall (v := .int .i64 0) rfl rfl rfl rfl rfl (by kernel_rfl) (fun w hm _ => spool_len_nil w) ?_)
  refine VC_sound tabOk 100 ?_
  refine ⟨fun _ => ?_, fun h => by first | (simp at h; done) | (simp at h; omega) | (simp_all; done)⟩
  rfl

end Go.Proofs.YthpcahgdobnljaaGreat.Sp
