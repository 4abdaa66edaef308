/- The law SpoolNil: what its run comes to. -/
import Derived.Test.YtdkalgnjfbbokaaL10
set_option autoImplicit false
set_option linter.unusedVariables false
namespace Go.Proofs.Ytdkalgnjfbbokaa
open Go.RX Go Go.RowKit


abbrev noEv : Value := mkE ⟨0, 0, ⟨#[]⟩, 0, 0, 0, 0, ⟨#[]⟩⟩
theorem spool_cur_nil (w0 : World) : Calls Try.prog 14 #[.pointer none] w0 fun e w' => e = .returned (.int .i64 0) ∧ BelowD w0.heap.size w0 w' := by
  refine enterP (tab := tab) Try.func14 rfl Try.ntmps14 rfl (args := [_]) rfl ?_
  refine VC_sound tabOk 100 ?_
  rfl
theorem spool_len_nil (w0 : World) : Calls Try.prog 13 #[.pointer none] w0 fun e w' => e = .returned (.int .i64 0) ∧ BelowD w0.heap.size w0 w' := by
  refine enterP (tab := tab) Try.func13 rfl Try.ntmps13 rfl (args := [_]) rfl ?_
  refine VC_sound tabOk 100 ?_
  rfl
theorem spool_addTo_nil (i : Int) (w0 : World) : Calls Try.prog 15 #[.pointer none, .int .i64 i, noEv] w0 fun e w' => e = .returned (.int .i64 4) ∧ BelowD w0.heap.size w0 w' := by
  refine enterP (tab := tab) Try.func15 rfl Try.ntmps15 rfl (args := [_, _, _]) rfl ?_
  refine VC_sound tabOk 100 ?_
  intro b5 _
  rfl
theorem spool_add_nil (w0 : World) : Calls Try.prog 11 #[.pointer none, noEv] w0 fun e w' => e = .returned (.tuple #[]) ∧ BelowD w0.heap.size w0 w' := by
  refine enterP (tab := tab) Try.func11 rfl Try.ntmps11 rfl (args := [_, _]) rfl ?_
  refine VC_sound tabOk 100 ?_
  intro b3 _
  refine Go_res [.blk b3 29 [.int .i64 0, .int .i64 0, .string ⟨#[]⟩, .int .i64 0, .int .i64 0, .int .u8 0, .int .i64 0, .string ⟨#[]⟩]] (fun _ h => h) ?_
  show Go _ _ _ _
  refine Go_any mixed [4] [(0, false), (1, false), (3, false), (2, true), (4, true)] rfl (by kernel_rfl) (by kernel_rfl) [.blk b3 29 [.int .i64 0, .int .i64 0, .string ⟨#[]⟩, .int .i64 0, .int .i64 0, .int .u8 0, .int .i64 0, .string ⟨#[]⟩]] (FrmX [heapOf w0]) (FrmX.stable _) (fun w hm _ => ⟨Holds.of_mod hm (by simp), FrmX.of_mod hm⟩) ?_
  refine VC_sound tabOk 100 ?_
  (repeat (first | refine Or.inl ⟨rfl, rfl, ?_⟩ | refine Or.inl ⟨rfl, ?_⟩ | refine Or.inr ?_))
  refine Go_aloneS rfl rfl (fun w hm _ => ⟨Holds.of_mod hm (by simp), FrmX.of_mod hm⟩) (OpTo_pcall (v := .int .i64 0) rfl rfl rfl rfl rfl (by kernel_rfl) (fun w hm _ => spool_cur_nil w) ?_)
  refine And.intro rfl ?_
  refine VC_sound tabOk 100 ?_
  refine Go_aloneM rfl rfl rfl (OpTo_pcall (v := .int .i64 4) rfl rfl rfl rfl rfl (by kernel_rfl) (fun w hm _ => spool_addTo_nil 0 w) ?_)
  refine VC_sound tabOk 100 ?_
  rfl
theorem spool_rotate_nil (w0 : World) : Calls Try.prog 12 #[.pointer none, .bool true] w0 fun e w' => e = .returned (.tuple #[.int .u8 0, .int .i64 4]) ∧ BelowD w0.heap.size w0 w' := by
  refine enterP (tab := tab) Try.func12 rfl Try.ntmps12 rfl (args := [_, _]) rfl ?_
  refine VC_sound tabOk 100 ?_
  rfl
theorem spool_list_nil (i : Int) (w0 : World) : Calls Try.prog 17 #[.pointer none, .int .i64 i] w0 fun e w' => e = .returned (.slice none 0 0) ∧ BelowD w0.heap.size w0 w' := by
  refine enterP (tab := tab) Try.func17 rfl Try.ntmps17 rfl (args := [_, _]) rfl ?_
  refine VC_sound tabOk 100 ?_
  rfl
theorem spool_all_nil (w0 : World) : Calls Try.prog 16 #[.pointer none] w0 fun e w' => e = .returned (.slice none 0 0) ∧ BelowD w0.heap.size w0 w' := by
  refine enterP (tab := tab) Try.func16 rfl Try.ntmps16 rfl (args := [_]) rfl ?_
  refine VC_sound tabOk 100 ?_
  rfl
theorem spool_after_nil (w0 : World) : Calls Try.prog 27 #[.pointer none] w0 fun e w' => e = .returned (.int .i64 1) ∧ BelowD w0.heap.size w0 w' := by
  refine enterP (tab := tab) Try.func27 rfl Try.ntmps27 rfl (args := [_]) rfl ?_
  refine VC_sound tabOk 100 ?_
  refine Go_ops rfl (OpTo_pcall (v := .int .i64 0) rfl rfl rfl rfl rfl (by kernel_rfl) (fun w hm _ => spool_cur_nil w) ?_)
  refine VC_sound tabOk 100 ?_
  refine ⟨1, wrap_i64 (n := 1) (by omega) (by omega), ?_⟩
  refine ⟨by decide, 1, by decide, ?_⟩
  rfl
theorem spool_next_nil (w0 : World) : Calls Try.prog 18 #[.pointer none] w0 fun e w' => e = .returned (.slice none 0 0) ∧ BelowD w0.heap.size w0 w' := by
  refine enterP (tab := tab) Try.func18 rfl Try.ntmps18 rfl (args := [_]) rfl ?_
  refine VC_sound tabOk 100 ?_
  refine Go_ops rfl (OpTo_pcall (v := .int .i64 1) rfl rfl rfl rfl rfl (by kernel_rfl) (fun w hm _ => spool_after_nil w) ?_)
  refine VC_sound tabOk 100 ?_
  refine Go_ops rfl (OpTo_pcall (v := .slice none 0 0) rfl rfl rfl rfl rfl (by kernel_rfl) (fun w hm _ => spool_list_nil 1 w) ?_)
  refine VC_sound tabOk 100 ?_
  rfl
theorem spool_forget_nil (x : Int) (w0 : World) : Calls Try.prog 20 #[.pointer none, .int .i64 x] w0 fun e w' => e = .returned (.int .i64 0) ∧ BelowD w0.heap.size w0 w' := by
  refine enterP (tab := tab) Try.func20 rfl Try.ntmps20 rfl (args := [_, _]) rfl ?_
  refine VC_sound tabOk 100 ?_
  intro b3 _
  refine Go_ops rfl (OpTo_pcall (v := .int .i64 0) rfl rfl rfl rfl rfl (by kernel_rfl) (fun w hm _ => spool_len_nil w) ?_)
  refine VC_sound tabOk 100 ?_
  refine ⟨fun _ => ?_, fun h => by first | (simp at h; done) | (simp at h; omega) | (simp_all; done)⟩
  rfl

set_option maxHeartbeats 1000000 in
theorem l10_SpoolNil (i x : Int) (w0 : World) : Calls Try.prog 8 #[.int .i64 i, .int .i64 x] w0 fun e w' => e = .returned (.bool true) ∧ BelowD w0.heap.size w0 w' := by
  refine enterP (tab := tab) Try.func8 rfl Try.ntmps8 rfl (args := [_, _]) rfl ?_
  refine VC_sound tabOk 100 ?_
  refine Go_ops rfl (OpTo_pcall (v := .tuple #[]) rfl rfl rfl rfl rfl (by kernel_rfl) (fun w hm _ => spool_add_nil w) ?_)
  refine VC_sound tabOk 100 ?_
  refine Go_ops rfl (OpTo_pcall (v := .tuple #[.int .u8 0, .int .i64 4]) rfl rfl rfl rfl rfl (by kernel_rfl) (fun w hm _ => spool_rotate_nil w) ?_)
  refine VC_sound tabOk 100 ?_
  refine Go_ops rfl (OpTo_pcall (v := .bool true) rfl rfl rfl rfl rfl (by kernel_rfl) (fun w hm _ => l10_turns w) ?_)
  refine VC_sound tabOk 100 ?_
  refine ⟨fun _ => ?_, fun h => by first | (simp at h; done) | (simp at h; omega) | (simp_all; done)⟩
  refine Go_ops rfl (OpTo_pcall (v := .int .i64 4) rfl rfl rfl rfl rfl (by kernel_rfl) (fun w hm _ => spool_addTo_nil i w) ?_)
  refine VC_sound tabOk 100 ?_
  refine ⟨fun _ => ?_, fun h => by first | (simp at h; done) | (simp at h; omega) | (simp_all; done)⟩
  refine ⟨fun _ => ?_, fun h => by first | (simp at h; done) | (simp at h; omega) | (simp_all; done)⟩
  refine ⟨fun _ => ?_, fun h => by first | (simp at h; done) | (simp at h; omega) | (simp_all; done)⟩
  refine Go_ops rfl (OpTo_pcall (v := .int .i64 0) rfl rfl rfl rfl rfl (by kernel_rfl) (fun w hm _ => spool_cur_nil w) ?_)
  refine VC_sound tabOk 100 ?_
  refine Go_ops rfl (OpTo_pcall (v := .slice none 0 0) rfl rfl rfl rfl rfl (by kernel_rfl) (fun w hm _ => spool_list_nil i w) ?_)
  refine VC_sound tabOk 100 ?_
  refine ⟨0, wrap_i64 (n := 0) (by omega) (by omega), ?_⟩
  refine Go_ops rfl (OpTo_pcall (v := .slice none 0 0) rfl rfl rfl rfl rfl (by kernel_rfl) (fun w hm _ => spool_all_nil w) ?_)
  refine VC_sound tabOk 100 ?_
  refine ⟨0, wrap_i64 (n := 0) (by omega) (by omega), ?_⟩
  refine Go_ops rfl (OpTo_pcall (v := .slice none 0 0) rfl rfl rfl rfl rfl (by kernel_rfl) (fun w hm _ => spool_next_nil w) ?_)
  refine VC_sound tabOk 100 ?_
  refine ⟨0, wrap_i64 (n := 0) (by omega) (by omega), ?_⟩
  refine Go_ops rfl (OpTo_pcall (v := .int .i64 0) rfl rfl rfl rfl rfl (by kernel_rfl) (fun w hm _ => spool_forget_nil x w) ?_)
  refine VC_sound tabOk 100 ?_
  refine ⟨0, wrap_i64 (n := 0) (by omega) (by omega), ?_⟩
  refine Go_ops rfl (OpTo_pcall (v := .int .i64 0) rfl rfl rfl rfl rfl (by kernel_rfl) (fun w hm _ => spool_len_nil w) ?_)
  refine VC_sound tabOk 100 ?_
  refine ⟨0, wrap_i64 (n := 0) (by omega) (by omega), ?_⟩
  rfl
end Go.Proofs.Ytdkalgnjfbbokaa
