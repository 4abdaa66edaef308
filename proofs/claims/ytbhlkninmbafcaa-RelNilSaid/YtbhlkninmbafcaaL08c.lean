/- The law RelNil: what its run comes to. -/
import Derived.Test.YtbhlkninmbafcaaL08
set_option autoImplicit false
set_option linter.unusedVariables false
namespace Go.Proofs.Ytbhlkninmbafcaa
open Go.RX Go Go.RowKit


theorem rel_tables_nil (w0 : World) : Calls Try.prog 15 #[.pointer none] w0 fun e w' => e = .returned (.int .i64 0) ∧ Below w0.heap.size w0 w' := by
  refine enterP (tab := tab) Try.func15 rfl Try.ntmps15 rfl (args := [_]) rfl ?_
  refine VC_sound tabOk 100 ?_
  rfl
theorem rel_heap_nil (t : Int) (w0 : World) : Calls Try.prog 16 #[.pointer none, .int .i64 t] w0 fun e w' => e = .returned (.pointer none) ∧ Below w0.heap.size w0 w' := by
  refine enterP (tab := tab) Try.func16 rfl Try.ntmps16 rfl (args := [_, _]) rfl ?_
  refine VC_sound tabOk 100 ?_
  refine ⟨fun h => rfl, fun h => ?_⟩
  refine Go_ops rfl (OpTo_pcall (v := .int .i64 0) rfl rfl rfl rfl rfl (by kernel_rfl) (fun w hm _ => rel_tables_nil w) ?_)
  refine VC_sound tabOk 100 ?_
  refine ⟨fun _ => ?_, fun h => by first | (simp at h; done) | (simp at h; omega) | (simp_all; done)⟩
  rfl
theorem rel_vacuum_nil (w0 : World) : Calls Try.prog 18 #[.pointer none, .agg #[.int .i64 0, .slice none 0 0]] w0 fun e w' => e = .returned (.int .i64 0) ∧ Below w0.heap.size w0 w' := by
  refine enterP (tab := tab) Try.func18 rfl Try.ntmps18 rfl (args := [_, _]) rfl ?_
  refine VC_sound tabOk 100 ?_
  intro b3 _
  refine Go_ops rfl (OpTo_pcall (v := .int .i64 0) rfl rfl rfl rfl rfl (by kernel_rfl) (fun w hm _ => rel_tables_nil w) ?_)
  refine VC_sound tabOk 100 ?_
  refine Go_loop (σ := Unit) (fun _ => [(5, .v (.int .i64 0)), (8, .v (.int .i64 0)), (9, .v (.int .i64 0))]) (fun _ => []) (fun _ => True) (fun _ => 0) () trivial ⟨rfl, rfl, rfl, trivial⟩ (fun _ h => h.sel [] rfl) ?_
  rintro ⟨⟩ _
  refine VC_sound tabOk 100 ?_
  refine ⟨fun h => by first | (simp at h; done) | (simp at h; omega) | (simp_all; done), fun _ => ?_⟩
  rfl
theorem rel_run_nil (kind table : Int) (w0 : World) : Calls Try.prog 17 #[.pointer none, .agg #[.int .i64 0, .slice none 0 0, .int .i64 0], mkSt kind table ⟨0, ⟨#[]⟩⟩] w0 fun e w' => e = .returned (.tuple #[.slice none 0 0, .int .i64 4]) ∧ Below w0.heap.size w0 w' := by
  refine enterP (tab := tab) Try.func17 rfl Try.ntmps17 rfl (args := [_, _, _]) rfl ?_
  refine VC_sound tabOk 100 ?_
  intro b4 _ b5 _
  rfl

set_option maxHeartbeats 1000000 in
theorem l8_RelNil (kind table : Int) (w0 : World) : Calls Try.prog 5 #[.int .u8 kind, .int .i64 table] w0 fun e w' => e = .returned (.bool true) ∧ Below w0.heap.size w0 w' := by
  refine enterP (tab := tab) Try.func5 rfl Try.ntmps5 rfl (args := [_, _]) rfl ?_
  refine VC_sound tabOk 100 ?_
  refine Go_ops rfl (OpTo_pcall (v := .tuple #[.slice none 0 0, .int .i64 4]) rfl rfl rfl rfl rfl (by kernel_rfl) (fun w hm _ => rel_run_nil kind table w) ?_)
  refine VC_sound tabOk 100 ?_
  refine Go_ops rfl (OpTo_pcall (v := .bool true) rfl rfl rfl rfl rfl (by kernel_rfl) (fun w hm _ => l8_row w) ?_)
  refine VC_sound tabOk 100 ?_
  refine ⟨fun _ => ?_, fun h => by first | (simp at h; done) | (simp at h; omega) | (simp_all; done)⟩
  refine ⟨fun _ => ?_, fun h => by first | (simp at h; done) | (simp at h; omega) | (simp_all; done)⟩
  refine ⟨fun _ => ?_, fun h => by first | (simp at h; done) | (simp at h; omega) | (simp_all; done)⟩
  refine Go_ops rfl (OpTo_pcall (v := .int .i64 0) rfl rfl rfl rfl rfl (by kernel_rfl) (fun w hm _ => rel_tables_nil w) ?_)
  refine VC_sound tabOk 100 ?_
  refine Go_ops rfl (OpTo_pcall (v := .int .i64 0) rfl rfl rfl rfl rfl (by kernel_rfl) (fun w hm _ => rel_vacuum_nil w) ?_)
  refine VC_sound tabOk 100 ?_
  refine ⟨0, wrap_i64 (n := 0) (by omega) (by omega), ?_⟩
  refine ⟨fun _ => ?_, fun h => by first | (simp at h; done) | (simp at h; omega) | (simp_all; done)⟩
  refine Go_ops rfl (OpTo_pcall (v := .pointer none) rfl rfl rfl rfl rfl (by kernel_rfl) (fun w hm _ => rel_heap_nil table w) ?_)
  refine VC_sound tabOk 100 ?_
  rfl
end Go.Proofs.Ytbhlkninmbafcaa
