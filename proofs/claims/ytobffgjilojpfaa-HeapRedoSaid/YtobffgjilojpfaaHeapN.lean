/- What the functions of package heap do of no heap, and of one without a manager. -/
import Derived.Test.YtobffgjilojpfaaHeapC
set_option maxRecDepth 100000
set_option autoImplicit false
set_option linter.unusedVariables false
set_option linter.unusedSimpArgs false
namespace Go.Proofs.Ytobffgjilojpfaa
open Go.RX Go Go.RowKit


/-- No heap, or one without a manager. -/
def NoHp (w : World) (h : Option Addr) : Prop := h = none ∨ ∃ b, h = some ⟨b, 0, none⟩ ∧ w.heap[b]? = some (.cells #[.pointer none, .slice none 0 0] 67 (0, 0))
theorem NoHp.mod {w0 w : World} {h : Option Addr} (hp : NoHp w0 h) {Rs : List Res} (hm : Mod [heapOf w0] Rs w) : NoHp w h := by
  rcases hp with rfl | ⟨b, rfl, hb⟩
  · exact .inl rfl
  · exact .inr ⟨b, rfl, hm.block_old hb⟩
theorem hp_none_t (h : Option Addr) (w0 : World) (hp : NoHp w0 h) : Calls Try.prog 35 #[.pointer h] w0 fun e w' => e = .returned (.bool true) ∧ BelowD w0.heap.size w0 w' := by
  rcases hp with rfl | ⟨b, rfl, hb⟩
  · refine enterP (tab := tab) Try.func35 rfl Try.ntmps35 rfl (args := [_]) rfl ?_
    refine VC_sound tabOk 100 ?_
    rfl
  · refine enterP (tab := tab) Try.func35 rfl Try.ntmps35 rfl (args := [_]) rfl ?_
    refine VC_sound tabOk 100 ?_
    refine Go_ops rfl (OpTo_loadBlk tabOk (cs := [.pointer none, .slice none 0 0]) (.pointer none) rfl rfl rfl (fun w hm _ => hm.block_old hb) rfl ?_)
    refine VC_sound tabOk 100 ?_
    rfl
theorem hp_ready_t (h : Option Addr) (v : VwM) (w0 : World) (hp : NoHp w0 h) : Calls Try.prog 28 #[.pointer h, v.v] w0 fun e w' => e = .returned (.int .i64 4) ∧ BelowD w0.heap.size w0 w' := by
  refine enterP (tab := tab) Try.func28 rfl Try.ntmps28 rfl (args := [_, _]) rfl ?_
  refine VC_sound tabOk 100 ?_
  intro b3 _
  refine Go_ops rfl (OpTo_pcall (v := .bool true) rfl rfl rfl rfl rfl (by kernel_rfl) (fun w hm _ => hp_none_t h w (hp.mod hm)) ?_)
  refine VC_sound tabOk 100 ?_
  refine ⟨fun _ => ?_, fun h => by first | (simp at h; done) | (simp at h; omega) | (simp_all; done)⟩
  rfl
theorem hp_get_t (h : Option Addr) (v : VwM) (key : Int) (w0 : World) (hp : NoHp w0 h) : Calls Try.prog 23 #[.pointer h, v.v, .int .i64 key] w0 fun e w' => e = .returned (.tuple #[mkR zeroR, .bool false]) ∧ BelowD w0.heap.size w0 w' := by
  refine enterP (tab := tab) Try.func23 rfl Try.ntmps23 rfl (args := [_, _, _]) rfl ?_
  refine VC_sound tabOk 100 ?_
  intro b4 _ b6 _
  refine Go_ops rfl (OpTo_pcall (v := .bool true) rfl rfl rfl rfl rfl (by kernel_rfl) (fun w hm _ => hp_none_t h w (hp.mod hm)) ?_)
  refine VC_sound tabOk 100 ?_
  refine ⟨fun _ => ?_, fun h => by first | (simp at h; done) | (simp at h; omega) | (simp_all; done)⟩
  (repeat (first | refine Or.inl ⟨rfl, rfl, ?_⟩ | refine Or.inl ⟨rfl, ?_⟩ | refine Or.inr ?_))
  rfl
theorem hp_scan_t (h : Option Addr) (v : VwM) (w0 : World) (hp : NoHp w0 h) : Calls Try.prog 15 #[.pointer h, v.v] w0 fun e w' => e = .returned (.slice none 0 0) ∧ BelowD w0.heap.size w0 w' := by
  refine enterP (tab := tab) Try.func15 rfl Try.ntmps15 rfl (args := [_, _]) rfl ?_
  refine VC_sound tabOk 100 ?_
  intro b3 _
  refine Go_ops rfl (OpTo_pcall (v := .bool true) rfl rfl rfl rfl rfl (by kernel_rfl) (fun w hm _ => hp_none_t h w (hp.mod hm)) ?_)
  refine VC_sound tabOk 100 ?_
  refine ⟨fun _ => ?_, fun h => by first | (simp at h; done) | (simp at h; omega) | (simp_all; done)⟩
  rfl
theorem hp_len_t (h : Option Addr) (w0 : World) (hp : NoHp w0 h) : Calls Try.prog 24 #[.pointer h] w0 fun e w' => e = .returned (.int .i64 0) ∧ BelowD w0.heap.size w0 w' := by
  refine enterP (tab := tab) Try.func24 rfl Try.ntmps24 rfl (args := [_]) rfl ?_
  refine VC_sound tabOk 100 ?_
  refine Go_ops rfl (OpTo_pcall (v := .bool true) rfl rfl rfl rfl rfl (by kernel_rfl) (fun w hm _ => hp_none_t h w (hp.mod hm)) ?_)
  refine VC_sound tabOk 100 ?_
  refine ⟨fun _ => ?_, fun h => by first | (simp at h; done) | (simp at h; omega) | (simp_all; done)⟩
  rfl

theorem hp_kill_t (h : Option Addr) (v : VwM) (key : Int) (w0 : World) (hp : NoHp w0 h) : Calls Try.prog 42 #[.pointer h, v.v, .int .i64 key] w0 fun e w' => e = .returned (.int .i64 4) ∧ BelowD w0.heap.size w0 w' := by
  refine enterP (tab := tab) Try.func42 rfl Try.ntmps42 rfl (args := [_, _, _]) rfl ?_
  refine VC_sound tabOk 100 ?_
  intro b4 _
  (repeat (first | refine Or.inl ⟨rfl, rfl, ?_⟩ | refine Or.inl ⟨rfl, ?_⟩ | refine Or.inr ?_))
  refine Go_ops rfl (OpTo_pcall (v := .int .i64 4) rfl rfl rfl rfl rfl (by kernel_rfl) (fun w hm _ => hp_ready_t h v w (hp.mod hm)) ?_)
  refine VC_sound tabOk 100 ?_
  refine ⟨fun _ => ?_, fun h => by first | (simp at h; done) | (simp at h; omega) | (simp_all; done)⟩
  rfl
theorem hp_insert_t (h : Option Addr) (v : VwM) (r : RowM) (w0 : World) (hp : NoHp w0 h) : Calls Try.prog 13 #[.pointer h, v.v, mkR r] w0 fun e w' => e = .returned (.int .i64 4) ∧ BelowD w0.heap.size w0 w' := by
  refine enterP (tab := tab) Try.func13 rfl Try.ntmps13 rfl (args := [_, _, _]) rfl ?_
  refine VC_sound tabOk 100 ?_
  intro b3 _ b4 _ b5 _
  (repeat (first | refine Or.inl ⟨rfl, rfl, ?_⟩ | refine Or.inl ⟨rfl, ?_⟩ | refine Or.inr ?_))
  (repeat (first | refine Or.inl ⟨rfl, rfl, ?_⟩ | refine Or.inl ⟨rfl, ?_⟩ | refine Or.inr ?_))
  refine Go_ops rfl (OpTo_pcall (v := .int .i64 4) rfl rfl rfl rfl rfl (by kernel_rfl) (fun w hm _ => hp_ready_t h v w (hp.mod hm)) ?_)
  refine VC_sound tabOk 100 ?_
  refine ⟨fun _ => ?_, fun h => by first | (simp at h; done) | (simp at h; omega) | (simp_all; done)⟩
  rfl
theorem hp_update_t (h : Option Addr) (v : VwM) (r : RowM) (w0 : World) (hp : NoHp w0 h) : Calls Try.prog 19 #[.pointer h, v.v, mkR r] w0 fun e w' => e = .returned (.int .i64 4) ∧ BelowD w0.heap.size w0 w' := by
  refine enterP (tab := tab) Try.func19 rfl Try.ntmps19 rfl (args := [_, _, _]) rfl ?_
  refine VC_sound tabOk 100 ?_
  intro b4 _ b5 _
  (repeat (first | refine Or.inl ⟨rfl, rfl, ?_⟩ | refine Or.inl ⟨rfl, ?_⟩ | refine Or.inr ?_))
  (repeat (first | refine Or.inl ⟨rfl, rfl, ?_⟩ | refine Or.inl ⟨rfl, ?_⟩ | refine Or.inr ?_))
  refine Go_ops rfl (OpTo_pcall (v := .int .i64 4) rfl rfl rfl rfl rfl (by kernel_rfl) (fun w hm _ => hp_kill_t h v r.key w (hp.mod hm)) ?_)
  refine VC_sound tabOk 100 ?_
  refine ⟨fun h => by first | (simp at h; done) | (simp at h; omega) | (simp_all; done), fun _ => ?_⟩
  rfl
theorem hp_delete_t (h : Option Addr) (v : VwM) (key : Int) (w0 : World) (hp : NoHp w0 h) : Calls Try.prog 20 #[.pointer h, v.v, .int .i64 key] w0 fun e w' => e = .returned (.int .i64 4) ∧ BelowD w0.heap.size w0 w' := by
  refine enterP (tab := tab) Try.func20 rfl Try.ntmps20 rfl (args := [_, _, _]) rfl ?_
  refine VC_sound tabOk 100 ?_
  intro b4 _
  (repeat (first | refine Or.inl ⟨rfl, rfl, ?_⟩ | refine Or.inl ⟨rfl, ?_⟩ | refine Or.inr ?_))
  refine Go_ops rfl (OpTo_pcall (v := .int .i64 4) rfl rfl rfl rfl rfl (by kernel_rfl) (fun w hm _ => hp_kill_t h v key w (hp.mod hm)) ?_)
  refine VC_sound tabOk 100 ?_
  rfl
theorem hp_truncate_t (h : Option Addr) (v : VwM) (w0 : World) (hp : NoHp w0 h) : Calls Try.prog 16 #[.pointer h, v.v] w0 fun e w' => e = .returned (.tuple #[.slice none 0 0, .int .i64 4]) ∧ BelowD w0.heap.size w0 w' := by
  refine enterP (tab := tab) Try.func16 rfl Try.ntmps16 rfl (args := [_, _]) rfl ?_
  refine VC_sound tabOk 100 ?_
  intro b2 _ b3 _
  (repeat (first | refine Or.inl ⟨rfl, rfl, ?_⟩ | refine Or.inl ⟨rfl, ?_⟩ | refine Or.inr ?_))
  (repeat (first | refine Or.inl ⟨rfl, rfl, ?_⟩ | refine Or.inl ⟨rfl, ?_⟩ | refine Or.inr ?_))
  refine Go_ops rfl (OpTo_pcall (v := .int .i64 4) rfl rfl rfl rfl rfl (by kernel_rfl) (fun w hm _ => hp_ready_t h v w (hp.mod hm)) ?_)
  refine VC_sound tabOk 100 ?_
  refine ⟨fun _ => ?_, fun h => by first | (simp at h; done) | (simp at h; omega) | (simp_all; done)⟩
  rfl

theorem hp_redo_t (h : Option Addr) (x : Int) (u : Value) (w0 : World) (hp : NoHp w0 h) : Calls Try.prog 22 #[.pointer h, .int .i64 x, u] w0 fun e w' => e = .returned (.int .i64 4) ∧ BelowD w0.heap.size w0 w' := by
  refine enterP (tab := tab) Try.func22 rfl Try.ntmps22 rfl (args := [_, _, _]) rfl ?_
  refine VC_sound tabOk 100 ?_
  intro b3 _
  (repeat (first | refine Or.inl ⟨rfl, rfl, ?_⟩ | refine Or.inl ⟨rfl, ?_⟩ | refine Or.inr ?_))
  refine Go_ops rfl (OpTo_pcall (v := .bool true) rfl rfl rfl rfl rfl (by kernel_rfl) (fun w hm _ => hp_none_t h w (hp.mod hm)) ?_)
  refine VC_sound tabOk 100 ?_
  refine ⟨fun _ => ?_, fun h => by first | (simp at h; done) | (simp at h; omega) | (simp_all; done)⟩
  rfl
theorem hp_vacuum_t (h : Option Addr) (mx : Int) (S : Option Addr) (n d : Nat) (w0 : World) (hp : NoHp w0 h) : Calls Try.prog 25 #[.pointer h, .agg #[.int .i64 mx, .slice S n d]] w0 fun e w' => e = .returned (.int .i64 0) ∧ BelowD w0.heap.size w0 w' := by
  refine enterP (tab := tab) Try.func25 rfl Try.ntmps25 rfl (args := [_, _]) rfl ?_
  refine VC_sound tabOk 100 ?_
  intro b2 _ b3 _
  (repeat (first | refine Or.inl ⟨rfl, rfl, ?_⟩ | refine Or.inl ⟨rfl, ?_⟩ | refine Or.inr ?_))
  refine Go_ops rfl (OpTo_pcall (v := .int .i64 0) rfl rfl rfl rfl rfl (by kernel_rfl) (fun w hm _ => hp_len_t h w (hp.mod hm)) ?_)
  refine VC_sound tabOk 100 ?_
  refine ⟨fun _ => ?_, fun h => by first | (simp at h; done) | (simp at h; omega) | (simp_all; done)⟩
  rfl
end Go.Proofs.Ytobffgjilojpfaa
