/- The laws of layer 8 that run no table: what each run comes to. -/
import Derived.Test.YtbhlkninmbafcaaGreatRelOps
import Derived.Test.YtbhlkninmbafcaaGreatRxMem
set_option maxRecDepth 100000
set_option autoImplicit false
set_option linter.unusedVariables false
namespace Go.Proofs.YtbhlkninmbafcaaGreat
open Go.RX Go Go.RowKit


set_option maxRecDepth 10000 in
set_option maxHeartbeats 2000000 in
theorem l8_ops (A B : Option Addr) (c d : Nat) (xs : List OpM) (w0 : World) (hA : RdW w0 A (xs.flatMap encO)) (hB : RdW w0 B (xs.flatMap encO)) (hn : xs.length ≤ 1000000) :
    Calls Tryz.prog 18 #[.slice A xs.length c, .slice B xs.length d] w0 fun e w' => e = .returned (.bool true) ∧ BelowD w0.heap.size w0 w' := by
  refine enterP (tab := tab) Tryz.func18 rfl Tryz.ntmps18 rfl (args := [_, _]) rfl ?_
  refine VC_sound tabOk 100 ?_
  refine ⟨fun h => by simp at h, fun _ => ?_⟩
  refine Go_loop (σ := Nat) (fun i => [(0, .v (.slice A xs.length c)), (1, .v (.slice B xs.length d)), (5, .v (.int .i64 i))]) (fun _ => []) (fun i => i ≤ xs.length) (fun i => xs.length - i) 0 (by omega) ⟨rfl, rfl, rfl, trivial⟩ (fun _ h => h) ?_
  intro i hi
  refine VC_sound tabOk 100 ?_
  refine ⟨fun hb => ?_, fun hb => rfl⟩
  have hlt : i < xs.length := by simp at hb; omega
  have hne : xs ≠ [] := ne_nil_of_lt (by omega : 0 < xs.length)
  obtain ⟨a, o, rfl⟩ := RdW.some encO_is hA hne
  obtain ⟨b, p, rfl⟩ := RdW.some encO_is hB hne
  have hx : xs[i]? = some xs[i] := List.getElem?_eq_getElem hlt
  show Go _ _ _ _
  refine Go_any mixed [] [(0, false), (1, false), (2, false), (3, false), (5, false), (6, false), (7, false), (8, false), (4, false), (9, false), (10, false), (11, false), (12, false), (13, false), (14, false), (15, false), (17, false), (18, false), (19, false), (20, false), (16, false), (21, false), (22, false), (23, false)] rfl (by kernel_rfl) (by kernel_rfl) [] (FrmX [heapOf w0]) (FrmX.stable _) (fun w hm _ => ⟨trivial, FrmX.of_mod hm⟩) ?_
  refine VC_sound tabOk 100 ?_
  refine ⟨⟨by omega, by omega⟩, ?_⟩
  refine ⟨⟨by omega, by omega⟩, ?_⟩
  refine Go_first (v := .bool xs[i].gone) rfl rfl rfl rfl (fun w _ hw => rxLoadPart tabOk rfl encO_is (hA.heap.world (hw (heapOf w0) (by simp))) hx (off := 0) rfl (by simp only [addA]; rfl)) ?_
  refine VC_sound tabOk 100 ?_
  refine Go_first (v := .bool xs[i].gone) rfl rfl rfl rfl (fun w _ hw => rxLoadPart tabOk rfl encO_is (hB.heap.world (hw (heapOf w0) (by simp))) hx (off := 0) rfl (by simp only [addA]; rfl)) ?_
  refine VC_sound tabOk 100 ?_
  refine ⟨fun h => by simp at h, fun _ => ?_⟩
  refine ⟨⟨by omega, by omega⟩, ?_⟩
  refine ⟨⟨by omega, by omega⟩, ?_⟩
  refine Go_first (v := mkR xs[i].row) rfl rfl rfl rfl (fun w _ hw => rxLoadPart tabOk rfl encO_is (hA.heap.world (hw (heapOf w0) (by simp))) hx (off := 1) rfl (by simp only [addA]; rfl)) ?_
  refine VC_sound tabOk 100 ?_
  refine Go_first (v := mkR xs[i].row) rfl rfl rfl rfl (fun w _ hw => rxLoadPart tabOk rfl encO_is (hB.heap.world (hw (heapOf w0) (by simp))) hx (off := 1) rfl (by simp only [addA]; rfl)) ?_
  refine VC_sound tabOk 100 ?_
  refine Go_firstB (.bool (!rowEq xs[i].row xs[i].row)) rfl rfl rfl rfl rfl (fun w => row_neq _ _ _ _ w) ?_
  refine VC_sound tabOk 100 ?_
  refine ⟨fun h => by simp [rowEq_self] at h, fun _ => ?_⟩
  refine ⟨_, wrap_i64 (n := (i : Int) + 1) (by omega) (by omega), ?_⟩
  exact Go_fin (i + 1) (by omega) (by omega) ⟨rfl, rfl, rfl, trivial⟩ (fun _ h => h)

theorem rel_tables (br : Nat) (A : Option Addr) (n c : Nat) (w0 : World) (hb : w0.heap[br]? = some (.cells #[.slice A n c] 78 (0, 0))) :
    Calls Tryz.prog 9 #[.pointer (some ⟨br, 0, none⟩)] w0 fun e w' => e = .returned (.int .i64 n) ∧ BelowD w0.heap.size w0 w' := by
  refine enterP (tab := tab) Tryz.func9 rfl Tryz.ntmps9 rfl (args := [_]) rfl ?_
  refine VC_sound tabOk 100 ?_
  refine Go_ops rfl (OpTo_loadBlk tabOk (cs := [.slice A n c]) (.slice A n c) rfl rfl rfl (fun w hm _ => hm.block_old hb) rfl ?_)
  refine VC_sound tabOk 100 ?_
  rfl

def heapAt (ps : List (Option Addr)) (t : Int) : Option Addr := if 0 ≤ t then (ps[t.toNat]?).join else none

theorem rel_heap (br : Nat) (A : Option Addr) (c : Nat) (ps : List (Option Addr)) (t : Int) (w0 : World) (hb : w0.heap[br]? = some (.cells #[.slice A ps.length c] 78 (0, 0))) (hA : RdW w0 A (ps.flatMap encP)) :
    Calls Tryz.prog 30 #[.pointer (some ⟨br, 0, none⟩), .int .i64 t] w0 fun e w' => e = .returned (.pointer (heapAt ps t)) ∧ BelowD w0.heap.size w0 w' := by
  refine enterP (tab := tab) Tryz.func30 rfl Tryz.ntmps30 rfl (args := [_, _]) rfl ?_
  refine VC_sound tabOk 100 ?_
  refine ⟨fun h => ?_, fun h => ?_⟩
  · have ht : t < 0 := by simpa using h
    exact congrArg Value.pointer (by simp [heapAt]; omega)
  · have ht : 0 ≤ t := by simp at h; omega
    refine Go_ops rfl (OpTo_pcall (v := .int .i64 ps.length) rfl rfl rfl rfl rfl (by kernel_rfl) (fun w hm _ => rel_tables br A ps.length c w (hm.block_old hb)) ?_)
    refine VC_sound tabOk 100 ?_
    refine ⟨fun h2 => ?_, fun h2 => ?_⟩
    · have hge : (ps.length : Int) ≤ t := by simpa using h2
      exact congrArg Value.pointer (by rw [heapAt, if_pos ht, List.getElem?_eq_none (by omega)]; rfl)
    · have hlt : t < ps.length := by simp at h2; omega
      have hlt' : t.toNat < ps.length := by omega
      obtain ⟨b, o, rfl⟩ := RdW.some encP_is hA (ne_nil_of_lt (by omega : 0 < ps.length))
      refine Go_ops rfl (OpTo_loadBlk tabOk (cs := [.slice (some ⟨b, o, none⟩) ps.length c]) (.slice (some ⟨b, o, none⟩) ps.length c) rfl rfl rfl (fun w hm _ => hm.block_old hb) rfl ?_)
      refine VC_sound tabOk 100 ?_
      refine ⟨⟨ht, hlt⟩, ?_⟩
      refine Go_ops rfl (OpTo_loadRow tabOk encP_is (.pointer ps[t.toNat]) rfl rfl rfl rfl rfl (fun h => rfl) (fun w hm _ => hA.mod hm) (List.getElem?_eq_getElem hlt') (by simp only [addA]) ?_)
      refine VC_sound tabOk 100 ?_
      exact congrArg Value.pointer (by rw [heapAt, if_pos ht, List.getElem?_eq_getElem hlt']; rfl)

set_option maxHeartbeats 2000000 in
theorem l8_row (w0 : World) : Calls Tryz.prog 4 #[] w0 fun e w' => e = .returned (.bool true) ∧ BelowD w0.heap.size w0 w' := by
  refine enterP (tab := tab) Tryz.func4 rfl Tryz.ntmps4 rfl (args := []) rfl ?_
  refine VC_sound tabOk 100 ?_
  show Go _ _ _ _
  refine Go_ops rfl (OpTo_ncall (Qc := opQ 72 [⟨false, ⟨3, ⟨#[120]⟩⟩⟩]) rfl rfl rfl rfl rfl (by kernel_rfl) (fun w hm _ => rel_ops 1 0 ⟨3, ⟨#[120]⟩⟩ none 0 [] w (.inl rfl) (by simp)) ?_)
  rintro _ _ ⟨A, c, rfl, rfl⟩
  refine Go_with _ (fun w hm _ => hm.own_some (i := 0) rfl (by simp)) ?_
  rintro ⟨b, o, rfl⟩
  refine VC_sound tabOk 100 ?_
  show Go _ _ _ _
  refine Go_ops rfl (OpTo_ncall rfl rfl rfl rfl rfl (by kernel_rfl) (fun w hm _ => rl_txn_new w) ?_)
  rintro _ _ ⟨bm, b1, b2, rfl, rfl⟩
  refine VC_sound tabOk 100 ?_
  show Go _ _ _ _
  refine Go_ops rfl (OpTo_ncall rfl rfl rfl rfl rfl (by kernel_rfl) (fun w hm _ => rel_new (some ⟨bm, 0, none⟩) 2 w (by decide)) ?_)
  rintro _ _ ⟨br, A2, c2, ps, rfl, hl, hq, rfl⟩
  refine VC_sound tabOk 100 ?_
  refine ⟨fun _ => ?_, fun h => by simp at h⟩
  refine ⟨⟨by decide, by decide⟩, ?_⟩
  (repeat (first | refine Or.inl ⟨rfl, rfl, ?_⟩ | refine Or.inl ⟨rfl, ?_⟩ | refine Or.inr ?_))
  refine Go_ops rfl (OpTo_loadPart tabOk encO_is (n := 0) (j := 0) (.bool false) rfl rfl rfl (fun w hm _ => hm.own_rd (i := 5) rfl) rfl rfl (by simp [addA]) ?_)
  refine VC_sound tabOk 100 ?_
  refine ⟨fun _ => ?_, fun h => by simp at h⟩
  refine ⟨⟨by decide, by decide⟩, ?_⟩
  (repeat (first | refine Or.inl ⟨rfl, rfl, ?_⟩ | refine Or.inl ⟨rfl, ?_⟩ | refine Or.inr ?_))
  refine Go_ops rfl (OpTo_loadPart tabOk encO_is (n := 0) (j := 1) (.int .i64 3) rfl rfl rfl (fun w hm _ => hm.own_rd (i := 5) rfl) rfl rfl (by simp [addA]) ?_)
  refine VC_sound tabOk 100 ?_
  refine ⟨fun _ => ?_, fun h => by simp at h⟩
  refine Go_ops rfl (OpTo_pcall (v := .int .i64 ps.length) rfl rfl rfl rfl rfl (by kernel_rfl) (fun w hm _ => rel_tables br A2 ps.length c2 w (hm.blk_at (i := 0) rfl)) ?_)
  refine VC_sound tabOk 100 ?_
  have e : ps.length = 2 := hl
  exact congrArg Value.bool (by simp [e])
end Go.Proofs.YtbhlkninmbafcaaGreat
