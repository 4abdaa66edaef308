/- What the functions of package queue do of no queue; the document's example of layer 15; the law QueueNil: what its run comes to. -/
import Derived.Test.YthpcahgdobnljaaGreatTxn
set_option maxRecDepth 100000
set_option autoImplicit false
set_option linter.unusedVariables false
set_option linter.unusedSimpArgs false
namespace Go.Proofs.YthpcahgdobnljaaGreat
open Go.RX Go Go.RowKit


abbrev pv (b : Nat) : Value := .pointer (some ⟨b, 0, none⟩)
abbrev spN (b : Nat) : Res := .blk b 146 [.slice none 0 0, .slice none 0 0, .slice none 0 0, .int .i64 0]
abbrev tkN (b : Nat) : Res := .blk b 131 [.slice none 0 0, .int .i64 0]
abbrev rtN (b : Nat) : Res := .blk b 184 [.slice none 0 0]
abbrev qB (q : Nat) (m : Option Addr) (bs bt bc br : Nat) (nx : Int) : Res := .blk q 118 [.pointer m, pv bs, pv bt, pv bc, pv br, .int .i64 nx]
theorem qn_spNew (w0 : World) : Calls Tryz.prog 80 #[] w0 fun e w' => ∃ v Rs', e = .returned v ∧ (∃ b, v = pv b ∧ Rs' = [spN b]) ∧ Mod [heapOf w0] Rs' w' ∧ Oth w0 w' := by
  refine enterN (tab := tab) Tryz.func80 rfl Tryz.ntmps80 rfl (args := []) rfl (Mod.start w0) ?_
  refine VC_sound tabOk 100 ?_
  intro b _
  exact ⟨_, ⟨b, rfl, rfl⟩, fun _ _ h => h⟩
theorem qn_tkNew (w0 : World) : Calls Tryz.prog 81 #[] w0 fun e w' => ∃ v Rs', e = .returned v ∧ (∃ b, v = pv b ∧ Rs' = [tkN b]) ∧ Mod [heapOf w0] Rs' w' ∧ Oth w0 w' := by
  refine enterN (tab := tab) Tryz.func81 rfl Tryz.ntmps81 rfl (args := []) rfl (Mod.start w0) ?_
  refine VC_sound tabOk 100 ?_
  intro b _
  exact ⟨_, ⟨b, rfl, rfl⟩, fun _ _ h => h⟩
theorem qn_rtNew (w0 : World) : Calls Tryz.prog 83 #[] w0 fun e w' => ∃ v Rs', e = .returned v ∧ (∃ b, v = pv b ∧ Rs' = [rtN b]) ∧ Mod [heapOf w0] Rs' w' ∧ Oth w0 w' := by
  refine enterN (tab := tab) Tryz.func83 rfl Tryz.ntmps83 rfl (args := []) rfl (Mod.start w0) ?_
  refine VC_sound tabOk 100 ?_
  intro b _
  exact ⟨_, ⟨b, rfl, rfl⟩, fun _ _ h => h⟩
theorem qn_cuNew (w0 : World) : Calls Tryz.prog 82 #[] w0 fun e w' => ∃ v Rs', e = .returned v ∧ (∃ b bm, v = pv b ∧ Rs' = [.blk b 127 [.map (some bm)], mpR Value.string pv bm []]) ∧ Mod [heapOf w0] Rs' w' ∧ Oth w0 w' := by
  refine enterN (tab := tab) Tryz.func82 rfl Tryz.ntmps82 rfl (args := []) rfl (Mod.start w0) ?_
  refine VC_sound tabOk 100 ?_
  refine Go_ops rfl (OpTo_makeMp (kE := Value.string) (vE := pv) rfl ?_)
  intro bm _
  refine VC_sound tabOk 100 ?_
  intro b _
  exact ⟨_, ⟨b, bm, rfl, rfl⟩, fun _ _ h => h⟩
theorem qn_new (m : Option Addr) (w0 : World) : Calls Tryz.prog 20 #[.pointer m] w0 fun e w' => ∃ v Rs', e = .returned v ∧ (∃ q bs bt bc bm br, v = pv q ∧ Rs' = [qB q m bs bt bc br 1, spN bs, tkN bt, .blk bc 127 [.map (some bm)], mpR Value.string pv bm [], rtN br]) ∧ Mod [heapOf w0] Rs' w' ∧ Oth w0 w' := by
  refine enterN (tab := tab) Tryz.func20 rfl Tryz.ntmps20 rfl (args := [_]) rfl (Mod.start w0) ?_
  refine VC_sound tabOk 100 ?_
  show Go _ _ _ _
  refine Go_ops rfl (OpTo_ncall rfl rfl rfl rfl rfl (by kernel_rfl) (fun w hm _ => qn_spNew w) ?_)
  rintro _ _ ⟨bs, rfl, rfl⟩
  refine VC_sound tabOk 100 ?_
  show Go _ _ _ _
  refine Go_ops rfl (OpTo_ncall rfl rfl rfl rfl rfl (by kernel_rfl) (fun w hm _ => qn_tkNew w) ?_)
  rintro _ _ ⟨bt, rfl, rfl⟩
  refine VC_sound tabOk 100 ?_
  show Go _ _ _ _
  refine Go_ops rfl (OpTo_ncall rfl rfl rfl rfl rfl (by kernel_rfl) (fun w hm _ => qn_cuNew w) ?_)
  rintro _ _ ⟨bc, bm, rfl, rfl⟩
  refine VC_sound tabOk 100 ?_
  show Go _ _ _ _
  refine Go_ops rfl (OpTo_ncall rfl rfl rfl rfl rfl (by kernel_rfl) (fun w hm _ => qn_rtNew w) ?_)
  rintro _ _ ⟨br, rfl, rfl⟩
  refine VC_sound tabOk 100 ?_
  intro q _
  (repeat (first | refine Or.inl ⟨rfl, rfl, ?_⟩ | refine Or.inl ⟨rfl, ?_⟩ | refine Or.inr ?_))
  exact ⟨_, ⟨q, bs, bt, bc, bm, br, rfl, rfl⟩, fun _ _ h => h.sel [0, 5, 4, 2, 3, 1] rfl⟩

/-! ### of a queue that is new -/
theorem qn_last (bt : Nat) (A : Option Addr) (n c : Nat) (last : Int) (w0 : World) (hb : w0.heap[bt]? = some (.cells #[.slice A n c, .int .i64 last] 131 (0, 0))) :
    Calls Tryz.prog 17 #[pv bt] w0 fun e w' => e = .returned (.int .i64 last) ∧ BelowD w0.heap.size w0 w' := by
  refine enterP (tab := tab) Tryz.func17 rfl Tryz.ntmps17 rfl (args := [_]) rfl ?_
  refine VC_sound tabOk 100 ?_
  refine Go_ops rfl (OpTo_loadBlk tabOk (cs := [.slice A n c, .int .i64 last]) (.int .i64 last) rfl rfl rfl (fun w hm _ => hm.block_old hb) rfl ?_)
  refine VC_sound tabOk 100 ?_
  rfl
section
variable (q : Nat) (m : Option Addr) (bs bt bc br : Nat) (nx : Int) (w0 : World) (hq : w0.heap[q]? = some (.cells #[.pointer m, pv bs, pv bt, pv bc, pv br, .int .i64 nx] 118 (0, 0)))
include hq
theorem qn_nextID : Calls Tryz.prog 42 #[pv q] w0 fun e w' => e = .returned (.int .i64 nx) ∧ BelowD w0.heap.size w0 w' := by
  refine enterP (tab := tab) Tryz.func42 rfl Tryz.ntmps42 rfl (args := [_]) rfl ?_
  refine VC_sound tabOk 100 ?_
  refine Go_ops rfl (OpTo_loadBlk tabOk (cs := [.pointer m, pv bs, pv bt, pv bc, pv br, .int .i64 nx]) (.int .i64 nx) rfl rfl rfl (fun w hm _ => hm.block_old hq) rfl ?_)
  refine VC_sound tabOk 100 ?_
  rfl
theorem qn_ticks : Calls Tryz.prog 15 #[pv q] w0 fun e w' => e = .returned (pv bt) ∧ BelowD w0.heap.size w0 w' := by
  refine enterP (tab := tab) Tryz.func15 rfl Tryz.ntmps15 rfl (args := [_]) rfl ?_
  refine VC_sound tabOk 100 ?_
  refine Go_ops rfl (OpTo_loadBlk tabOk (cs := [.pointer m, pv bs, pv bt, pv bc, pv br, .int .i64 nx]) (pv bt) rfl rfl rfl (fun w hm _ => hm.block_old hq) rfl ?_)
  refine VC_sound tabOk 100 ?_
  rfl
theorem qn_register_wait (name : ByteArray) (A : Option Addr) (n c : Nat) (ht : w0.heap[bt]? = some (.cells #[.slice A n c, .int .i64 0] 131 (0, 0))) :
    Calls Tryz.prog 22 #[pv q, .string name] w0 fun e w' => e = .returned (.int .i64 9) ∧ BelowD w0.heap.size w0 w' := by
  refine enterP (tab := tab) Tryz.func22 rfl Tryz.ntmps22 rfl (args := [_, _]) rfl ?_
  refine VC_sound tabOk 100 ?_
  refine Go_ops rfl (OpTo_loadBlk tabOk (cs := [.pointer m, pv bs, pv bt, pv bc, pv br, .int .i64 nx]) (pv bt) rfl rfl rfl (fun w hm _ => hm.block_old hq) rfl ?_)
  refine VC_sound tabOk 100 ?_
  refine Go_ops rfl (OpTo_pcall (v := .int .i64 0) rfl rfl rfl rfl rfl (by kernel_rfl) (fun w hm _ => qn_last bt A n c 0 w (hm.block_old ht)) ?_)
  refine VC_sound tabOk 100 ?_
  refine ⟨fun _ => ?_, fun h => by first | (simp at h; done) | (simp at h; omega) | (simp_all; done)⟩
  rfl
end

set_option maxHeartbeats 1000000 in
theorem l15_early (w0 : World) : Calls Tryz.prog 9 #[] w0 fun e w' => e = .returned (.bool true) ∧ BelowD w0.heap.size w0 w' := by
  refine enterP (tab := tab) Tryz.func9 rfl Tryz.ntmps9 rfl (args := []) rfl ?_
  refine VC_sound tabOk 100 ?_
  show Go _ _ _ _
  refine Go_ops rfl (OpTo_ncall rfl rfl rfl rfl rfl (by kernel_rfl) (fun w hm _ => txn_new w) ?_)
  rintro _ _ ⟨m, b1, b2, rfl, rfl⟩
  refine VC_sound tabOk 100 ?_
  show Go _ _ _ _
  refine Go_ops rfl (OpTo_ncall rfl rfl rfl rfl rfl (by kernel_rfl) (fun w hm _ => qn_new (some ⟨m, 0, none⟩) w) ?_)
  rintro _ _ ⟨q, bs, bt, bc, bm, br, rfl, rfl⟩
  refine VC_sound tabOk 100 ?_
  refine Go_ops rfl (OpTo_pcall (v := .int .i64 9) rfl rfl rfl rfl rfl (by kernel_rfl) (fun w hm _ => qn_register_wait q (some ⟨m, 0, none⟩) bs bt bc br 1 w (hm.blk_at (i := 0) rfl) _ none 0 0 (hm.blk_at (i := 2) rfl)) ?_)
  refine VC_sound tabOk 100 ?_
  refine ⟨fun _ => ?_, fun h => by first | (simp at h; done) | (simp at h; omega) | (simp_all; done)⟩
  refine Go_ops rfl (OpTo_pcall (v := .int .i64 1) rfl rfl rfl rfl rfl (by kernel_rfl) (fun w hm _ => qn_nextID q (some ⟨m, 0, none⟩) bs bt bc br 1 w (hm.blk_at (i := 0) rfl)) ?_)
  refine VC_sound tabOk 100 ?_
  refine ⟨fun _ => ?_, fun h => by first | (simp at h; done) | (simp at h; omega) | (simp_all; done)⟩
  refine Go_ops rfl (OpTo_pcall (v := pv bt) rfl rfl rfl rfl rfl (by kernel_rfl) (fun w hm _ => qn_ticks q (some ⟨m, 0, none⟩) bs bt bc br 1 w (hm.blk_at (i := 0) rfl)) ?_)
  refine VC_sound tabOk 100 ?_
  refine Go_ops rfl (OpTo_pcall (v := .int .i64 0) rfl rfl rfl rfl rfl (by kernel_rfl) (fun w hm _ => qn_last bt none 0 0 0 w (hm.blk_at (i := 2) rfl)) ?_)
  refine VC_sound tabOk 100 ?_
  exact congrArg Value.bool (by simp)

/-! ### of none -/
abbrev zTick : Value := .agg #[.int .i64 0, .int .i64 0, .slice none 0 0, .int .i64 0]
abbrev zEv : Value := .agg #[.int .i64 0, .int .i64 0, .string ⟨#[]⟩, .int .i64 0, .int .i64 0, .int .u8 0, .int .i64 0, .string ⟨#[]⟩]
abbrev zRow : Value := .agg #[.int .i64 0, .string ⟨#[]⟩]
abbrev zCur : Value := .agg #[.string ⟨#[]⟩, .int .i64 0, .int .i64 0]
theorem n_ticks (w0 : World) : Calls Tryz.prog 15 #[.pointer none] w0 fun e w' => e = .returned (.pointer none) ∧ BelowD w0.heap.size w0 w' := by
  refine enterP (tab := tab) Tryz.func15 rfl Tryz.ntmps15 rfl (args := [_]) rfl ?_
  refine VC_sound tabOk 100 ?_
  rfl
theorem n_spools (w0 : World) : Calls Tryz.prog 32 #[.pointer none] w0 fun e w' => e = .returned (.pointer none) ∧ BelowD w0.heap.size w0 w' := by
  refine enterP (tab := tab) Tryz.func32 rfl Tryz.ntmps32 rfl (args := [_]) rfl ?_
  refine VC_sound tabOk 100 ?_
  rfl
theorem n_cursors (w0 : World) : Calls Tryz.prog 13 #[.pointer none] w0 fun e w' => e = .returned (.pointer none) ∧ BelowD w0.heap.size w0 w' := by
  refine enterP (tab := tab) Tryz.func13 rfl Tryz.ntmps13 rfl (args := [_]) rfl ?_
  refine VC_sound tabOk 100 ?_
  rfl
theorem n_retries (w0 : World) : Calls Tryz.prog 43 #[.pointer none] w0 fun e w' => e = .returned (.pointer none) ∧ BelowD w0.heap.size w0 w' := by
  refine enterP (tab := tab) Tryz.func43 rfl Tryz.ntmps43 rfl (args := [_]) rfl ?_
  refine VC_sound tabOk 100 ?_
  rfl
theorem n_nextID (w0 : World) : Calls Tryz.prog 42 #[.pointer none] w0 fun e w' => e = .returned (.int .i64 0) ∧ BelowD w0.heap.size w0 w' := by
  refine enterP (tab := tab) Tryz.func42 rfl Tryz.ntmps42 rfl (args := [_]) rfl ?_
  refine VC_sound tabOk 100 ?_
  rfl
theorem n_set (n : Int) (w0 : World) : Calls Tryz.prog 39 #[.pointer none, .int .i64 n] w0 fun e w' => e = .returned (.tuple #[]) ∧ BelowD w0.heap.size w0 w' := by
  refine enterP (tab := tab) Tryz.func39 rfl Tryz.ntmps39 rfl (args := [_, _]) rfl ?_
  refine VC_sound tabOk 100 ?_
  rfl
theorem n_tick (n : Int) (w0 : World) : Calls Tryz.prog 21 #[.pointer none, .int .i64 n] w0 fun e w' => e = .returned (.tuple #[zTick, .int .i64 4]) ∧ BelowD w0.heap.size w0 w' := by
  refine enterP (tab := tab) Tryz.func21 rfl Tryz.ntmps21 rfl (args := [_, _]) rfl ?_
  refine VC_sound tabOk 100 ?_
  intro b4 _
  (repeat (first | refine Or.inl ⟨rfl, rfl, ?_⟩ | refine Or.inl ⟨rfl, ?_⟩ | refine Or.inr ?_))
  rfl
theorem n_cuOf (s : ByteArray) (w0 : World) : Calls Tryz.prog 151 #[.pointer none, .string s] w0 fun e w' => e = .returned (.tuple #[.pointer none, .int .i64 4]) ∧ BelowD w0.heap.size w0 w' := by
  refine enterP (tab := tab) Tryz.func151 rfl Tryz.ntmps151 rfl (args := [_, _]) rfl ?_
  refine VC_sound tabOk 100 ?_
  rfl
theorem n_cuGet (s : ByteArray) (w0 : World) : Calls Tryz.prog 96 #[.pointer none, .string s] w0 fun e w' => e = .returned (.tuple #[zCur, .bool false]) ∧ BelowD w0.heap.size w0 w' := by
  refine enterP (tab := tab) Tryz.func96 rfl Tryz.ntmps96 rfl (args := [_, _]) rfl ?_
  refine VC_sound tabOk 100 ?_
  intro b4 _
  refine Go_ops rfl (OpTo_pcall (v := .tuple #[.pointer none, .int .i64 4]) rfl rfl rfl rfl rfl (by kernel_rfl) (fun w hm _ => n_cuOf s w) ?_)
  refine VC_sound tabOk 100 ?_
  refine ⟨fun _ => ?_, fun h => by first | (simp at h; done) | (simp at h; omega) | (simp_all; done)⟩
  (repeat (first | refine Or.inl ⟨rfl, rfl, ?_⟩ | refine Or.inl ⟨rfl, ?_⟩ | refine Or.inr ?_))
  rfl
theorem n_cuFin (s : ByteArray) (w0 : World) : Calls Tryz.prog 100 #[.pointer none, .string s] w0 fun e w' => e = .returned (.tuple #[.int .i64 0, .int .i64 4]) ∧ BelowD w0.heap.size w0 w' := by
  refine enterP (tab := tab) Tryz.func100 rfl Tryz.ntmps100 rfl (args := [_, _]) rfl ?_
  refine VC_sound tabOk 100 ?_
  refine Go_ops rfl (OpTo_pcall (v := .tuple #[.pointer none, .int .i64 4]) rfl rfl rfl rfl rfl (by kernel_rfl) (fun w hm _ => n_cuOf s w) ?_)
  refine VC_sound tabOk 100 ?_
  refine ⟨fun _ => ?_, fun h => by first | (simp at h; done) | (simp at h; omega) | (simp_all; done)⟩
  rfl
theorem n_cuUnr (s : ByteArray) (w0 : World) : Calls Tryz.prog 105 #[.pointer none, .string s] w0 fun e w' => e = .returned (.int .i64 4) ∧ BelowD w0.heap.size w0 w' := by
  refine enterP (tab := tab) Tryz.func105 rfl Tryz.ntmps105 rfl (args := [_, _]) rfl ?_
  refine VC_sound tabOk 100 ?_
  refine Go_ops rfl (OpTo_pcall (v := .tuple #[.pointer none, .int .i64 4]) rfl rfl rfl rfl rfl (by kernel_rfl) (fun w hm _ => n_cuOf s w) ?_)
  refine VC_sound tabOk 100 ?_
  refine ⟨fun h => by first | (simp at h; done) | (simp at h; omega) | (simp_all; done), fun _ => ?_⟩
  rfl
theorem n_cuAll (w0 : World) : Calls Tryz.prog 14 #[.pointer none] w0 fun e w' => e = .returned (.slice none 0 0) ∧ BelowD w0.heap.size w0 w' := by
  refine enterP (tab := tab) Tryz.func14 rfl Tryz.ntmps14 rfl (args := [_]) rfl ?_
  refine VC_sound tabOk 100 ?_
  rfl
theorem n_cuLeast (w0 : World) : Calls Tryz.prog 70 #[.pointer none] w0 fun e w' => e = .returned (.tuple #[.int .i64 0, .bool false]) ∧ BelowD w0.heap.size w0 w' := by
  refine enterP (tab := tab) Tryz.func70 rfl Tryz.ntmps70 rfl (args := [_]) rfl ?_
  refine VC_sound tabOk 100 ?_
  refine Go_ops rfl (OpTo_pcall (v := .slice none 0 0) rfl rfl rfl rfl rfl (by kernel_rfl) (fun w hm _ => n_cuAll w) ?_)
  refine VC_sound tabOk 100 ?_
  refine ⟨fun _ => ?_, fun h => by first | (simp at h; done) | (simp at h; omega) | (simp_all; done)⟩
  rfl
theorem n_tkLen (w0 : World) : Calls Tryz.prog 79 #[.pointer none] w0 fun e w' => e = .returned (.int .i64 0) ∧ BelowD w0.heap.size w0 w' := by
  refine enterP (tab := tab) Tryz.func79 rfl Tryz.ntmps79 rfl (args := [_]) rfl ?_
  refine VC_sound tabOk 100 ?_
  rfl
theorem n_tkTrim (n : Int) (w0 : World) : Calls Tryz.prog 71 #[.pointer none, .int .i64 n] w0 fun e w' => e = .returned (.int .i64 0) ∧ BelowD w0.heap.size w0 w' := by
  refine enterP (tab := tab) Tryz.func71 rfl Tryz.ntmps71 rfl (args := [_, _]) rfl ?_
  refine VC_sound tabOk 100 ?_
  intro b2 _ b3 _
  (repeat (first | refine Or.inl ⟨rfl, rfl, ?_⟩ | refine Or.inl ⟨rfl, ?_⟩ | refine Or.inr ?_))
  refine Go_ops rfl (OpTo_pcall (v := .int .i64 0) rfl rfl rfl rfl rfl (by kernel_rfl) (fun w hm _ => n_tkLen w) ?_)
  refine VC_sound tabOk 100 ?_
  refine ⟨fun _ => ?_, fun h => by first | (simp at h; done) | (simp at h; omega) | (simp_all; done)⟩
  rfl
theorem n_spLen (w0 : World) : Calls Tryz.prog 141 #[.pointer none] w0 fun e w' => e = .returned (.int .i64 0) ∧ BelowD w0.heap.size w0 w' := by
  refine enterP (tab := tab) Tryz.func141 rfl Tryz.ntmps141 rfl (args := [_]) rfl ?_
  refine VC_sound tabOk 100 ?_
  rfl
theorem n_spForget (x : Int) (w0 : World) : Calls Tryz.prog 88 #[.pointer none, .int .i64 x] w0 fun e w' => e = .returned (.int .i64 0) ∧ BelowD w0.heap.size w0 w' := by
  refine enterP (tab := tab) Tryz.func88 rfl Tryz.ntmps88 rfl (args := [_, _]) rfl ?_
  refine VC_sound tabOk 100 ?_
  intro b2 _
  refine Go_ops rfl (OpTo_pcall (v := .int .i64 0) rfl rfl rfl rfl rfl (by kernel_rfl) (fun w hm _ => n_spLen w) ?_)
  refine VC_sound tabOk 100 ?_
  refine ⟨fun _ => ?_, fun h => by first | (simp at h; done) | (simp at h; omega) | (simp_all; done)⟩
  rfl
theorem n_spRot (b : Bool) (w0 : World) : Calls Tryz.prog 89 #[.pointer none, .bool b] w0 fun e w' => e = .returned (.tuple #[.int .u8 0, .int .i64 4]) ∧ BelowD w0.heap.size w0 w' := by
  refine enterP (tab := tab) Tryz.func89 rfl Tryz.ntmps89 rfl (args := [_, _]) rfl ?_
  refine VC_sound tabOk 100 ?_
  rfl
theorem n_register (s : ByteArray) (w0 : World) : Calls Tryz.prog 22 #[.pointer none, .string s] w0 fun e w' => e = .returned (.int .i64 4) ∧ BelowD w0.heap.size w0 w' := by
  refine enterP (tab := tab) Tryz.func22 rfl Tryz.ntmps22 rfl (args := [_, _]) rfl ?_
  refine VC_sound tabOk 100 ?_
  rfl
theorem n_unregister (s : ByteArray) (w0 : World) : Calls Tryz.prog 40 #[.pointer none, .string s] w0 fun e w' => e = .returned (.int .i64 4) ∧ BelowD w0.heap.size w0 w' := by
  refine enterP (tab := tab) Tryz.func40 rfl Tryz.ntmps40 rfl (args := [_, _]) rfl ?_
  refine VC_sound tabOk 100 ?_
  refine Go_ops rfl (OpTo_pcall (v := .pointer none) rfl rfl rfl rfl rfl (by kernel_rfl) (fun w hm _ => n_cursors w) ?_)
  refine VC_sound tabOk 100 ?_
  refine Go_ops rfl (OpTo_pcall (v := .int .i64 4) rfl rfl rfl rfl rfl (by kernel_rfl) (fun w hm _ => n_cuUnr s w) ?_)
  refine VC_sound tabOk 100 ?_
  refine ⟨fun h => by first | (simp at h; done) | (simp at h; omega) | (simp_all; done), fun _ => ?_⟩
  rfl
theorem n_next (s : ByteArray) (w0 : World) : Calls Tryz.prog 34 #[.pointer none, .string s] w0 fun e w' => e = .returned (.tuple #[zTick, .int .i64 4]) ∧ BelowD w0.heap.size w0 w' := by
  refine enterP (tab := tab) Tryz.func34 rfl Tryz.ntmps34 rfl (args := [_, _]) rfl ?_
  refine VC_sound tabOk 100 ?_
  intro b4 _
  refine Go_ops rfl (OpTo_pcall (v := .pointer none) rfl rfl rfl rfl rfl (by kernel_rfl) (fun w hm _ => n_cursors w) ?_)
  refine VC_sound tabOk 100 ?_
  refine Go_ops rfl (OpTo_pcall (v := .tuple #[zCur, .bool false]) rfl rfl rfl rfl rfl (by kernel_rfl) (fun w hm _ => n_cuGet s w) ?_)
  refine VC_sound tabOk 100 ?_
  intro b6 _
  (repeat (first | refine Or.inl ⟨rfl, rfl, ?_⟩ | refine Or.inl ⟨rfl, ?_⟩ | refine Or.inr ?_))
  refine ⟨fun _ => ?_, fun h => by first | (simp at h; done) | (simp at h; omega) | (simp_all; done)⟩
  (repeat (first | refine Or.inl ⟨rfl, rfl, ?_⟩ | refine Or.inl ⟨rfl, ?_⟩ | refine Or.inr ?_))
  rfl
theorem n_batch (s : ByteArray) (w0 : World) : Calls Tryz.prog 35 #[.pointer none, .string s] w0 fun e w' => e = .returned (.tuple #[.slice none 0 0, .int .i64 4]) ∧ BelowD w0.heap.size w0 w' := by
  refine enterP (tab := tab) Tryz.func35 rfl Tryz.ntmps35 rfl (args := [_, _]) rfl ?_
  refine VC_sound tabOk 100 ?_
  refine Go_ops rfl (OpTo_pcall (v := .pointer none) rfl rfl rfl rfl rfl (by kernel_rfl) (fun w hm _ => n_cursors w) ?_)
  refine VC_sound tabOk 100 ?_
  refine Go_ops rfl (OpTo_pcall (v := .tuple #[zCur, .bool false]) rfl rfl rfl rfl rfl (by kernel_rfl) (fun w hm _ => n_cuGet s w) ?_)
  refine VC_sound tabOk 100 ?_
  intro b6 _
  (repeat (first | refine Or.inl ⟨rfl, rfl, ?_⟩ | refine Or.inl ⟨rfl, ?_⟩ | refine Or.inr ?_))
  refine ⟨fun _ => ?_, fun h => by first | (simp at h; done) | (simp at h; omega) | (simp_all; done)⟩
  rfl
theorem n_finish (s : ByteArray) (w0 : World) : Calls Tryz.prog 36 #[.pointer none, .string s] w0 fun e w' => e = .returned (.tuple #[.int .i64 0, .int .i64 4]) ∧ BelowD w0.heap.size w0 w' := by
  refine enterP (tab := tab) Tryz.func36 rfl Tryz.ntmps36 rfl (args := [_, _]) rfl ?_
  refine VC_sound tabOk 100 ?_
  refine Go_ops rfl (OpTo_pcall (v := .pointer none) rfl rfl rfl rfl rfl (by kernel_rfl) (fun w hm _ => n_cursors w) ?_)
  refine VC_sound tabOk 100 ?_
  refine Go_ops rfl (OpTo_pcall (v := .tuple #[.int .i64 0, .int .i64 4]) rfl rfl rfl rfl rfl (by kernel_rfl) (fun w hm _ => n_cuFin s w) ?_)
  refine VC_sound tabOk 100 ?_
  rfl
theorem n_free (w0 : World) : Calls Tryz.prog 41 #[.pointer none] w0 fun e w' => e = .returned (.bool false) ∧ BelowD w0.heap.size w0 w' := by
  refine enterP (tab := tab) Tryz.func41 rfl Tryz.ntmps41 rfl (args := [_]) rfl ?_
  refine VC_sound tabOk 100 ?_
  show Go _ _ _ _
  refine Go_any mixed [] [(0, false), (1, false), (2, false), (3, false), (4, false), (5, false), (8, false), (9, false), (10, false), (12, false), (6, false), (11, false), (7, true), (13, true), (14, true), (15, false), (16, false)] rfl (by kernel_rfl) (by kernel_rfl) [] (fun _ => True) (fun _ _ _ h => h) (fun w hm _ => ⟨trivial, trivial⟩) ?_
  refine VC_sound tabOk 100 ?_
  rfl
theorem n_rotate (w0 : World) : Calls Tryz.prog 30 #[.pointer none] w0 fun e w' => e = .returned (.tuple #[.int .u8 0, .int .i64 4]) ∧ BelowD w0.heap.size w0 w' := by
  refine enterP (tab := tab) Tryz.func30 rfl Tryz.ntmps30 rfl (args := [_]) rfl ?_
  refine VC_sound tabOk 100 ?_
  refine Go_ops rfl (OpTo_pcall (v := .pointer none) rfl rfl rfl rfl rfl (by kernel_rfl) (fun w hm _ => n_spools w) ?_)
  refine VC_sound tabOk 100 ?_
  refine Go_ops rfl (OpTo_pcall (v := .bool false) rfl rfl rfl rfl rfl (by kernel_rfl) (fun w hm _ => n_free w) ?_)
  refine VC_sound tabOk 100 ?_
  refine Go_ops rfl (OpTo_pcall (v := .tuple #[.int .u8 0, .int .i64 4]) rfl rfl rfl rfl rfl (by kernel_rfl) (fun w hm _ => n_spRot false w) ?_)
  refine VC_sound tabOk 100 ?_
  rfl
theorem n_write (x t k : Int) (w0 : World) : Calls Tryz.prog 26 #[.pointer none, .int .i64 x, .int .i64 t, .int .u8 k, zRow] w0 fun e w' => e = .returned zEv ∧ BelowD w0.heap.size w0 w' := by
  refine enterP (tab := tab) Tryz.func26 rfl Tryz.ntmps26 rfl (args := [_, _, _, _, _]) rfl ?_
  refine VC_sound tabOk 100 ?_
  intro b9 _ b10 _
  (repeat (first | refine Or.inl ⟨rfl, rfl, ?_⟩ | refine Or.inl ⟨rfl, ?_⟩ | refine Or.inr ?_))
  rfl
theorem n_retry (s : ByteArray) (i a : Int) (w0 : World) : Calls Tryz.prog 37 #[.pointer none, .string s, .int .i64 i, .int .i64 a] w0 fun e w' => e = .returned (.int .i64 4) ∧ BelowD w0.heap.size w0 w' := by
  refine enterP (tab := tab) Tryz.func37 rfl Tryz.ntmps37 rfl (args := [_, _, _, _]) rfl ?_
  refine VC_sound tabOk 100 ?_
  intro b6 _
  refine Go_ops rfl (OpTo_pcall (v := .tuple #[.slice none 0 0, .int .i64 4]) rfl rfl rfl rfl rfl (by kernel_rfl) (fun w hm _ => n_batch s w) ?_)
  refine VC_sound tabOk 100 ?_
  refine ⟨fun _ => ?_, fun h => by first | (simp at h; done) | (simp at h; omega) | (simp_all; done)⟩
  rfl
theorem n_maint (x n : Int) (w0 : World) : Calls Tryz.prog 38 #[.pointer none, .int .i64 x, .int .i64 n] w0 fun e w' => e = .returned (.slice none 0 0) ∧ BelowD w0.heap.size w0 w' := by
  refine enterP (tab := tab) Tryz.func38 rfl Tryz.ntmps38 rfl (args := [_, _, _]) rfl ?_
  refine VC_sound tabOk 100 ?_
  rfl
theorem n_trim (w0 : World) : Calls Tryz.prog 12 #[.pointer none] w0 fun e w' => e = .returned (.int .i64 0) ∧ BelowD w0.heap.size w0 w' := by
  refine enterP (tab := tab) Tryz.func12 rfl Tryz.ntmps12 rfl (args := [_]) rfl ?_
  refine VC_sound tabOk 100 ?_
  refine Go_ops rfl (OpTo_pcall (v := .pointer none) rfl rfl rfl rfl rfl (by kernel_rfl) (fun w hm _ => n_cursors w) ?_)
  refine VC_sound tabOk 100 ?_
  refine Go_ops rfl (OpTo_pcall (v := .tuple #[.int .i64 0, .bool false]) rfl rfl rfl rfl rfl (by kernel_rfl) (fun w hm _ => n_cuLeast w) ?_)
  refine VC_sound tabOk 100 ?_
  refine ⟨fun _ => ?_, fun h => by first | (simp at h; done) | (simp at h; omega) | (simp_all; done)⟩
  refine Go_ops rfl (OpTo_pcall (v := .pointer none) rfl rfl rfl rfl rfl (by kernel_rfl) (fun w hm _ => n_ticks w) ?_)
  refine VC_sound tabOk 100 ?_
  refine Go_ops rfl (OpTo_pcall (v := .int .i64 0) rfl rfl rfl rfl rfl (by kernel_rfl) (fun w hm _ => n_tkTrim 9223372036854775807 w) ?_)
  refine VC_sound tabOk 100 ?_
  rfl
theorem n_forget (x : Int) (w0 : World) : Calls Tryz.prog 29 #[.pointer none, .int .i64 x] w0 fun e w' => e = .returned (.int .i64 0) ∧ BelowD w0.heap.size w0 w' := by
  refine enterP (tab := tab) Tryz.func29 rfl Tryz.ntmps29 rfl (args := [_, _]) rfl ?_
  refine VC_sound tabOk 100 ?_
  refine Go_ops rfl (OpTo_pcall (v := .pointer none) rfl rfl rfl rfl rfl (by kernel_rfl) (fun w hm _ => n_spools w) ?_)
  refine VC_sound tabOk 100 ?_
  refine Go_ops rfl (OpTo_pcall (v := .int .i64 0) rfl rfl rfl rfl rfl (by kernel_rfl) (fun w hm _ => n_spForget x w) ?_)
  refine VC_sound tabOk 100 ?_
  rfl
set_option maxHeartbeats 8000000 in
theorem l15_QueueNil (s : ByteArray) (n : Int) (w0 : World) : Calls Tryz.prog 7 #[.string s, .int .i64 n] w0 fun e w' => e = .returned (.bool true) ∧ BelowD w0.heap.size w0 w' := by
  refine enterP (tab := tab) Tryz.func7 rfl Tryz.ntmps7 rfl (args := [_, _]) rfl ?_
  refine VC_sound tabOk 100 ?_
  refine ⟨fun hc => ?_, fun hc => ?_⟩
  · refine Go_ops rfl (OpTo_pcall (v := .bool true) rfl rfl rfl rfl rfl (by kernel_rfl) (fun w hm _ => l15_early w) ?_)
    refine VC_sound tabOk 100 ?_
    rfl
  refine Go_ops rfl (OpTo_pcall (v := .tuple #[]) rfl rfl rfl rfl rfl (by kernel_rfl) (fun w hm _ => n_set n w) ?_)
  refine VC_sound tabOk 100 ?_
  refine Go_ops rfl (OpTo_pcall (v := .tuple #[zTick, .int .i64 4]) rfl rfl rfl rfl rfl (by kernel_rfl) (fun w hm _ => n_tick n w) ?_)
  refine VC_sound tabOk 100 ?_
  intro b6 _
  (repeat (first | refine Or.inl ⟨rfl, rfl, ?_⟩ | refine Or.inl ⟨rfl, ?_⟩ | refine Or.inr ?_))
  refine Go_ops rfl (OpTo_pcall (v := .tuple #[zTick, .int .i64 4]) rfl rfl rfl rfl rfl (by kernel_rfl) (fun w hm _ => n_next s w) ?_)
  refine VC_sound tabOk 100 ?_
  intro b8 _
  (repeat (first | refine Or.inl ⟨rfl, rfl, ?_⟩ | refine Or.inl ⟨rfl, ?_⟩ | refine Or.inr ?_))
  refine Go_ops rfl (OpTo_pcall (v := .tuple #[.slice none 0 0, .int .i64 4]) rfl rfl rfl rfl rfl (by kernel_rfl) (fun w hm _ => n_batch s w) ?_)
  refine VC_sound tabOk 100 ?_
  refine Go_ops rfl (OpTo_pcall (v := .tuple #[.int .i64 0, .int .i64 4]) rfl rfl rfl rfl rfl (by kernel_rfl) (fun w hm _ => n_finish s w) ?_)
  refine VC_sound tabOk 100 ?_
  refine Go_ops rfl (OpTo_pcall (v := .tuple #[.int .u8 0, .int .i64 4]) rfl rfl rfl rfl rfl (by kernel_rfl) (fun w hm _ => n_rotate w) ?_)
  refine VC_sound tabOk 100 ?_
  refine Go_ops rfl (OpTo_pcall (v := zEv) rfl rfl rfl rfl rfl (by kernel_rfl) (fun w hm _ => n_write n 0 1 w) ?_)
  refine VC_sound tabOk 100 ?_
  intro b16 _
  (repeat (first | refine Or.inl ⟨rfl, rfl, ?_⟩ | refine Or.inl ⟨rfl, ?_⟩ | refine Or.inr ?_))
  refine Go_ops rfl (OpTo_pcall (v := .bool true) rfl rfl rfl rfl rfl (by kernel_rfl) (fun w hm _ => l15_early w) ?_)
  refine VC_sound tabOk 100 ?_
  refine ⟨fun _ => ?_, fun h => by simp at h⟩
  (repeat (first | refine Or.inl ⟨rfl, rfl, ?_⟩ | refine Or.inl ⟨rfl, ?_⟩ | refine Or.inr ?_))
  refine ⟨fun _ => ?_, fun h => by first | (simp at h; done) | (simp at h; omega) | (simp_all; done)⟩
  refine ⟨fun _ => ?_, fun h => by first | (simp at h; done) | (simp at h; omega) | (simp_all; done)⟩
  refine ⟨fun _ => ?_, fun h => by first | (simp at h; done) | (simp at h; omega) | (simp_all; done)⟩
  refine ⟨fun _ => ?_, fun h => by first | (simp at h; done) | (simp at h; omega) | (simp_all; done)⟩
  refine ⟨fun _ => ?_, fun h => by first | (simp at h; done) | (simp at h; omega) | (simp_all; done)⟩
  refine ⟨fun _ => ?_, fun h => by first | (simp at h; done) | (simp at h; omega) | (simp_all; done)⟩
  refine Go_ops rfl (OpTo_pcall (v := .int .i64 4) rfl rfl rfl rfl rfl (by kernel_rfl) (fun w hm _ => n_register s w) ?_)
  refine VC_sound tabOk 100 ?_
  refine ⟨fun _ => ?_, fun h => by first | (simp at h; done) | (simp at h; omega) | (simp_all; done)⟩
  refine Go_ops rfl (OpTo_pcall (v := .int .i64 4) rfl rfl rfl rfl rfl (by kernel_rfl) (fun w hm _ => n_unregister s w) ?_)
  refine VC_sound tabOk 100 ?_
  refine ⟨fun _ => ?_, fun h => by first | (simp at h; done) | (simp at h; omega) | (simp_all; done)⟩
  refine Go_ops rfl (OpTo_pcall (v := .int .i64 4) rfl rfl rfl rfl rfl (by kernel_rfl) (fun w hm _ => n_retry s n n w) ?_)
  refine VC_sound tabOk 100 ?_
  refine ⟨fun _ => ?_, fun h => by first | (simp at h; done) | (simp at h; omega) | (simp_all; done)⟩
  refine Go_ops rfl (OpTo_pcall (v := .slice none 0 0) rfl rfl rfl rfl rfl (by kernel_rfl) (fun w hm _ => n_maint n n w) ?_)
  refine VC_sound tabOk 100 ?_
  refine Go_ops rfl (OpTo_pcall (v := .int .i64 0) rfl rfl rfl rfl rfl (by kernel_rfl) (fun w hm _ => n_trim w) ?_)
  refine VC_sound tabOk 100 ?_
  refine ⟨_, wrap_i64 (n := 0) (by decide) (by decide), ?_⟩
  refine Go_ops rfl (OpTo_pcall (v := .int .i64 0) rfl rfl rfl rfl rfl (by kernel_rfl) (fun w hm _ => n_forget n w) ?_)
  refine VC_sound tabOk 100 ?_
  refine ⟨_, wrap_i64 (n := 0) (by decide) (by decide), ?_⟩
  refine ⟨fun _ => ?_, fun h => by first | (simp at h; done) | (simp at h; omega) | (simp_all; done)⟩
  refine Go_ops rfl (OpTo_pcall (v := .bool false) rfl rfl rfl rfl rfl (by kernel_rfl) (fun w hm _ => n_free w) ?_)
  refine VC_sound tabOk 100 ?_
  refine ⟨fun _ => ?_, fun h => by first | (simp at h; done) | (simp at h; omega) | (simp_all; done)⟩
  refine Go_ops rfl (OpTo_pcall (v := .int .i64 0) rfl rfl rfl rfl rfl (by kernel_rfl) (fun w hm _ => n_nextID w) ?_)
  refine VC_sound tabOk 100 ?_
  refine ⟨fun _ => ?_, fun h => by first | (simp at h; done) | (simp at h; omega) | (simp_all; done)⟩
  refine Go_ops rfl (OpTo_pcall (v := .pointer none) rfl rfl rfl rfl rfl (by kernel_rfl) (fun w hm _ => n_spools w) ?_)
  refine VC_sound tabOk 100 ?_
  refine Go_ops rfl (OpTo_pcall (v := .pointer none) rfl rfl rfl rfl rfl (by kernel_rfl) (fun w hm _ => n_ticks w) ?_)
  refine VC_sound tabOk 100 ?_
  refine Go_ops rfl (OpTo_pcall (v := .pointer none) rfl rfl rfl rfl rfl (by kernel_rfl) (fun w hm _ => n_cursors w) ?_)
  refine VC_sound tabOk 100 ?_
  refine Go_ops rfl (OpTo_pcall (v := .pointer none) rfl rfl rfl rfl rfl (by kernel_rfl) (fun w hm _ => n_retries w) ?_)
  refine VC_sound tabOk 100 ?_
  rfl
end Go.Proofs.YthpcahgdobnljaaGreat
