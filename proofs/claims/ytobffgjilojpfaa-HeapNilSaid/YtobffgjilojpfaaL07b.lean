/- The law HeapNil: what its run comes to. -/
import Derived.Test.YtobffgjilojpfaaL07
set_option maxRecDepth 100000
set_option autoImplicit false
set_option linter.unusedVariables false
set_option linter.unusedSimpArgs false
namespace Go.Proofs.Ytobffgjilojpfaa
open Go.RX Go Go.RowKit

def vw0 (own : Int) : VwM := ⟨0, none, 0, [], own⟩
def hpN (i b : Nat) : Option Addr := if i = 0 then none else some ⟨b, 0, none⟩
def rsN (i b : Nat) : List Res := if i = 0 then [] else [.blk b 67 [.pointer none, .slice none 0 0]]
set_option maxHeartbeats 8000000 in
theorem l07_HeapNil (key own : Int) (w0 : World) : Calls Try.prog 7 #[.int .i64 key, .int .i64 own] w0 fun e w' => e = .returned (.bool true) ∧ BelowD w0.heap.size w0 w' := by
  refine enterP (tab := tab) Try.func7 rfl Try.ntmps7 rfl (args := [_, _]) rfl ?_
  refine VC_sound tabOk 100 ?_
  intro b6 _
  (repeat (first | refine Or.inl ⟨rfl, rfl, ?_⟩ | refine Or.inl ⟨rfl, ?_⟩ | refine Or.inr ?_))
  refine Go_loop (σ := Nat × Nat) (fun u => [(0, .v (.int .i64 key)), (1, .v (.int .i64 own)), (5, .v (.pointer (hpN u.1 u.2))), (6, .v (.pointer (some ⟨b6, 0, none⟩))), (7, .v (.int .i64 u.1))]) (fun u => .blk b6 35 (vw0 own).cs :: rsN u.1 u.2) (fun u => u.1 ≤ 2) (fun u => 2 - u.1) (0, 0) (Nat.zero_le _) ⟨rfl, rfl, rfl, rfl, rfl, trivial⟩ (fun _ h => h) ?_
  rintro ⟨i, b⟩ hi
  dsimp only at hi ⊢
  have hi3 : i = 0 ∨ i = 1 ∨ i = 2 := by omega
  rcases hi3 with rfl | rfl | rfl
  · show Go _ _ [_, _, (5, .v (.pointer none)), _, _] [_]
    refine VC_sound tabOk 100 ?_
    refine ⟨fun _ => ?_, fun h => by first | (simp at h; done) | (simp at h; omega) | (simp_all; done)⟩
    (repeat (first | refine Or.inl ⟨rfl, rfl, ?_⟩ | refine Or.inl ⟨rfl, ?_⟩ | refine Or.inr ?_))
    refine Go_ops rfl (OpTo_pcall (v := .tuple #[mkR zeroR, .bool false]) rfl rfl rfl rfl rfl (by kernel_rfl) (fun w hm _ => hp_get_t none (vw0 own) key w (.inl rfl)) ?_)
    refine VC_sound tabOk 100 ?_
    intro b8 _
    (repeat (first | refine Or.inl ⟨rfl, rfl, ?_⟩ | refine Or.inl ⟨rfl, ?_⟩ | refine Or.inr ?_))
    refine Go_ops rfl (OpTo_pcall (v := .tuple #[.slice none 0 0, .int .i64 4]) rfl rfl rfl rfl rfl (by kernel_rfl) (fun w hm _ => hp_truncate_t none (vw0 own) w (.inl rfl)) ?_)
    refine VC_sound tabOk 100 ?_
    show Go _ _ _ _
    refine Go_any mixed [] [(0, false), (1, false), (2, false), (3, false), (4, false), (5, false), (6, false), (7, false), (8, false), (13, false), (16, false), (17, false), (9, false), (18, false), (10, true), (11, false), (12, false), (14, true), (15, false), (19, true), (20, false), (21, false), (22, false), (23, false), (24, false), (26, false), (25, false), (27, true), (28, false), (29, false), (30, false), (31, false), (33, false), (32, false), (34, true), (35, false), (36, false), (37, false), (38, false), (40, false), (39, false), (41, true), (42, false), (43, false), (44, false), (45, false), (46, false), (47, true), (48, false), (49, false)] rfl (by kernel_rfl) (by kernel_rfl) [.blk b6 35 (vw0 own).cs] (fun _ => True) (fun _ _ _ h => h) (fun w hm _ => ⟨Holds.of_idx [1] hm, trivial⟩) ?_
    refine VC_sound tabOk 100 ?_
    refine ⟨fun h => by first | (simp at h; done) | (simp at h; omega) | (simp_all; done), fun _ => ?_⟩
    refine ⟨fun h => by first | (simp at h; done) | (simp at h; omega) | (simp_all; done), fun _ => ?_⟩
    (repeat (first | refine Or.inl ⟨rfl, rfl, ?_⟩ | refine Or.inl ⟨rfl, ?_⟩ | refine Or.inr ?_))
    (repeat (first | refine Or.inl ⟨rfl, rfl, ?_⟩ | refine Or.inl ⟨rfl, ?_⟩ | refine Or.inr ?_))
    refine Go_aloneL rfl rfl (OpTo_pcall (v := .slice none 0 0) rfl rfl rfl rfl rfl (by kernel_rfl) (fun w hm _ => hp_scan_t none (vw0 own) w (.inl rfl)) ?_)
    refine And.intro (fun w hm _ => ⟨Holds.of_idx [1] hm, trivial⟩) ?_
    refine VC_sound tabOk 100 ?_
    refine ⟨_, wrap_i64 (n := 0) (by decide) (by decide), ?_⟩
    refine Go_aloneL rfl rfl (OpTo_pcall (v := .int .i64 0) rfl rfl rfl rfl rfl (by kernel_rfl) (fun w hm _ => hp_len_t none w (.inl rfl)) ?_)
    refine And.intro (fun w hm _ => ⟨Holds.of_idx [1] hm, trivial⟩) ?_
    refine VC_sound tabOk 100 ?_
    refine ⟨_, wrap_i64 (n := 0) (by decide) (by decide), ?_⟩
    refine Go_aloneL rfl rfl (OpTo_pcall (v := .int .i64 0) rfl rfl rfl rfl rfl (by kernel_rfl) (fun w hm _ => hp_vacuum_t none 0 none 0 0 w (.inl rfl)) ?_)
    refine And.intro (fun w hm _ => ⟨Holds.of_idx [1] hm, trivial⟩) ?_
    refine VC_sound tabOk 100 ?_
    refine ⟨_, wrap_i64 (n := 0) (by decide) (by decide), ?_⟩
    refine ⟨fun h => by first | (simp at h; done) | (simp at h; omega) | (simp_all; done), fun _ => ?_⟩
    (repeat (first | refine Or.inl ⟨rfl, rfl, ?_⟩ | refine Or.inl ⟨rfl, ?_⟩ | refine Or.inr ?_))
    refine Go_aloneL rfl rfl (OpTo_pcall (v := .int .i64 4) rfl rfl rfl rfl rfl (by kernel_rfl) (fun w hm _ => hp_insert_t none (vw0 own) zeroR w (.inl rfl)) ?_)
    refine And.intro (fun w hm _ => ⟨Holds.of_idx [1] hm, trivial⟩) ?_
    refine VC_sound tabOk 100 ?_
    refine ⟨fun h => by first | (simp at h; done) | (simp at h; omega) | (simp_all; done), fun _ => ?_⟩
    (repeat (first | refine Or.inl ⟨rfl, rfl, ?_⟩ | refine Or.inl ⟨rfl, ?_⟩ | refine Or.inr ?_))
    refine Go_aloneL rfl rfl (OpTo_pcall (v := .int .i64 4) rfl rfl rfl rfl rfl (by kernel_rfl) (fun w hm _ => hp_update_t none (vw0 own) zeroR w (.inl rfl)) ?_)
    refine And.intro (fun w hm _ => ⟨Holds.of_idx [1] hm, trivial⟩) ?_
    refine VC_sound tabOk 100 ?_
    refine ⟨fun h => by first | (simp at h; done) | (simp at h; omega) | (simp_all; done), fun _ => ?_⟩
    (repeat (first | refine Or.inl ⟨rfl, rfl, ?_⟩ | refine Or.inl ⟨rfl, ?_⟩ | refine Or.inr ?_))
    refine Go_aloneL rfl rfl (OpTo_pcall (v := .int .i64 4) rfl rfl rfl rfl rfl (by kernel_rfl) (fun w hm _ => hp_delete_t none (vw0 own) key w (.inl rfl)) ?_)
    refine And.intro (fun w hm _ => ⟨Holds.of_idx [1] hm, trivial⟩) ?_
    refine VC_sound tabOk 100 ?_
    refine ⟨fun h => by first | (simp at h; done) | (simp at h; omega) | (simp_all; done), fun _ => ?_⟩
    refine Go_aloneL rfl rfl (OpTo_pcall (v := .int .i64 4) rfl rfl rfl rfl rfl (by kernel_rfl) (fun w hm _ => hp_redo_t none own (.slice none 0 0) w (.inl rfl)) ?_)
    refine And.intro (fun w hm _ => ⟨Holds.of_idx [1] hm, trivial⟩) ?_
    refine VC_sound tabOk 100 ?_
    refine ⟨fun h => by first | (simp at h; done) | (simp at h; omega) | (simp_all; done), fun _ => ?_⟩
    show Go _ _ _ _
    refine Go_ops rfl (OpTo_ncall rfl rfl rfl rfl rfl (by kernel_rfl) (fun w hm _ => hp_new none w) ?_)
    rintro _ _ ⟨b9, rfl, rfl⟩
    refine VC_sound tabOk 100 ?_
    refine ⟨_, wrap_i64 (n := ((0 : Nat) : Int) + 1) (by decide) (by decide), ?_⟩
    exact Go_fin (1, b9) (by dsimp only; omega) (by dsimp only; omega) ⟨rfl, rfl, rfl, rfl, rfl, trivial⟩ (fun _ h => h.sel [2, 0] rfl)
  · show Go _ _ [_, _, (5, .v (.pointer (some ⟨b, 0, none⟩))), _, _] [_, _]
    refine VC_sound tabOk 100 ?_
    refine ⟨fun _ => ?_, fun h => by first | (simp at h; done) | (simp at h; omega) | (simp_all; done)⟩
    (repeat (first | refine Or.inl ⟨rfl, rfl, ?_⟩ | refine Or.inl ⟨rfl, ?_⟩ | refine Or.inr ?_))
    refine Go_ops rfl (OpTo_pcall (v := .tuple #[mkR zeroR, .bool false]) rfl rfl rfl rfl rfl (by kernel_rfl) (fun w hm _ => hp_get_t (some ⟨b, 0, none⟩) (vw0 own) key w (.inr ⟨b, rfl, hm.blk_at (i := 1) rfl⟩)) ?_)
    refine VC_sound tabOk 100 ?_
    intro b8 _
    (repeat (first | refine Or.inl ⟨rfl, rfl, ?_⟩ | refine Or.inl ⟨rfl, ?_⟩ | refine Or.inr ?_))
    refine Go_ops rfl (OpTo_pcall (v := .tuple #[.slice none 0 0, .int .i64 4]) rfl rfl rfl rfl rfl (by kernel_rfl) (fun w hm _ => hp_truncate_t (some ⟨b, 0, none⟩) (vw0 own) w (.inr ⟨b, rfl, hm.blk_at (i := 2) rfl⟩)) ?_)
    refine VC_sound tabOk 100 ?_
    show Go _ _ _ _
    refine Go_any mixed [] [(0, false), (1, false), (2, false), (3, false), (4, false), (5, false), (6, false), (7, false), (8, false), (13, false), (16, false), (17, false), (9, false), (18, false), (10, true), (11, false), (12, false), (14, true), (15, false), (19, true), (20, false), (21, false), (22, false), (23, false), (24, false), (26, false), (25, false), (27, true), (28, false), (29, false), (30, false), (31, false), (33, false), (32, false), (34, true), (35, false), (36, false), (37, false), (38, false), (40, false), (39, false), (41, true), (42, false), (43, false), (44, false), (45, false), (46, false), (47, true), (48, false), (49, false)] rfl (by kernel_rfl) (by kernel_rfl) [.blk b6 35 (vw0 own).cs] (fun _ => True) (fun _ _ _ h => h) (fun w hm _ => ⟨Holds.of_idx [1] hm, trivial⟩) ?_
    refine VC_sound tabOk 100 ?_
    refine ⟨fun h => by first | (simp at h; done) | (simp at h; omega) | (simp_all; done), fun _ => ?_⟩
    refine ⟨fun h => by first | (simp at h; done) | (simp at h; omega) | (simp_all; done), fun _ => ?_⟩
    (repeat (first | refine Or.inl ⟨rfl, rfl, ?_⟩ | refine Or.inl ⟨rfl, ?_⟩ | refine Or.inr ?_))
    (repeat (first | refine Or.inl ⟨rfl, rfl, ?_⟩ | refine Or.inl ⟨rfl, ?_⟩ | refine Or.inr ?_))
    refine Go_aloneL rfl rfl (OpTo_pcall (v := .slice none 0 0) rfl rfl rfl rfl rfl (by kernel_rfl) (fun w hm _ => hp_scan_t (some ⟨b, 0, none⟩) (vw0 own) w (.inr ⟨b, rfl, hm.blk_at (i := 2) rfl⟩)) ?_)
    refine And.intro (fun w hm _ => ⟨Holds.of_idx [1] hm, trivial⟩) ?_
    refine VC_sound tabOk 100 ?_
    refine ⟨_, wrap_i64 (n := 0) (by decide) (by decide), ?_⟩
    refine Go_aloneL rfl rfl (OpTo_pcall (v := .int .i64 0) rfl rfl rfl rfl rfl (by kernel_rfl) (fun w hm _ => hp_len_t (some ⟨b, 0, none⟩) w (.inr ⟨b, rfl, hm.blk_at (i := 2) rfl⟩)) ?_)
    refine And.intro (fun w hm _ => ⟨Holds.of_idx [1] hm, trivial⟩) ?_
    refine VC_sound tabOk 100 ?_
    refine ⟨_, wrap_i64 (n := 0) (by decide) (by decide), ?_⟩
    refine Go_aloneL rfl rfl (OpTo_pcall (v := .int .i64 0) rfl rfl rfl rfl rfl (by kernel_rfl) (fun w hm _ => hp_vacuum_t (some ⟨b, 0, none⟩) 0 none 0 0 w (.inr ⟨b, rfl, hm.blk_at (i := 2) rfl⟩)) ?_)
    refine And.intro (fun w hm _ => ⟨Holds.of_idx [1] hm, trivial⟩) ?_
    refine VC_sound tabOk 100 ?_
    refine ⟨_, wrap_i64 (n := 0) (by decide) (by decide), ?_⟩
    refine ⟨fun h => by first | (simp at h; done) | (simp at h; omega) | (simp_all; done), fun _ => ?_⟩
    (repeat (first | refine Or.inl ⟨rfl, rfl, ?_⟩ | refine Or.inl ⟨rfl, ?_⟩ | refine Or.inr ?_))
    refine Go_aloneL rfl rfl (OpTo_pcall (v := .int .i64 4) rfl rfl rfl rfl rfl (by kernel_rfl) (fun w hm _ => hp_insert_t (some ⟨b, 0, none⟩) (vw0 own) zeroR w (.inr ⟨b, rfl, hm.blk_at (i := 2) rfl⟩)) ?_)
    refine And.intro (fun w hm _ => ⟨Holds.of_idx [1] hm, trivial⟩) ?_
    refine VC_sound tabOk 100 ?_
    refine ⟨fun h => by first | (simp at h; done) | (simp at h; omega) | (simp_all; done), fun _ => ?_⟩
    (repeat (first | refine Or.inl ⟨rfl, rfl, ?_⟩ | refine Or.inl ⟨rfl, ?_⟩ | refine Or.inr ?_))
    refine Go_aloneL rfl rfl (OpTo_pcall (v := .int .i64 4) rfl rfl rfl rfl rfl (by kernel_rfl) (fun w hm _ => hp_update_t (some ⟨b, 0, none⟩) (vw0 own) zeroR w (.inr ⟨b, rfl, hm.blk_at (i := 2) rfl⟩)) ?_)
    refine And.intro (fun w hm _ => ⟨Holds.of_idx [1] hm, trivial⟩) ?_
    refine VC_sound tabOk 100 ?_
    refine ⟨fun h => by first | (simp at h; done) | (simp at h; omega) | (simp_all; done), fun _ => ?_⟩
    (repeat (first | refine Or.inl ⟨rfl, rfl, ?_⟩ | refine Or.inl ⟨rfl, ?_⟩ | refine Or.inr ?_))
    refine Go_aloneL rfl rfl (OpTo_pcall (v := .int .i64 4) rfl rfl rfl rfl rfl (by kernel_rfl) (fun w hm _ => hp_delete_t (some ⟨b, 0, none⟩) (vw0 own) key w (.inr ⟨b, rfl, hm.blk_at (i := 2) rfl⟩)) ?_)
    refine And.intro (fun w hm _ => ⟨Holds.of_idx [1] hm, trivial⟩) ?_
    refine VC_sound tabOk 100 ?_
    refine ⟨fun h => by first | (simp at h; done) | (simp at h; omega) | (simp_all; done), fun _ => ?_⟩
    refine Go_aloneL rfl rfl (OpTo_pcall (v := .int .i64 4) rfl rfl rfl rfl rfl (by kernel_rfl) (fun w hm _ => hp_redo_t (some ⟨b, 0, none⟩) own (.slice none 0 0) w (.inr ⟨b, rfl, hm.blk_at (i := 2) rfl⟩)) ?_)
    refine And.intro (fun w hm _ => ⟨Holds.of_idx [1] hm, trivial⟩) ?_
    refine VC_sound tabOk 100 ?_
    refine ⟨fun h => by first | (simp at h; done) | (simp at h; omega) | (simp_all; done), fun _ => ?_⟩
    show Go _ _ _ _
    refine Go_ops rfl (OpTo_ncall rfl rfl rfl rfl rfl (by kernel_rfl) (fun w hm _ => hp_new none w) ?_)
    rintro _ _ ⟨b9, rfl, rfl⟩
    refine VC_sound tabOk 100 ?_
    refine ⟨_, wrap_i64 (n := ((1 : Nat) : Int) + 1) (by decide) (by decide), ?_⟩
    exact Go_fin (2, b9) (by dsimp only; omega) (by dsimp only; omega) ⟨rfl, rfl, rfl, rfl, rfl, trivial⟩ (fun _ h => h.sel [2, 0] rfl)
  · refine VC_sound tabOk 100 ?_
    refine ⟨fun h => by first | (simp at h; done) | (simp at h; omega) | (simp_all; done), fun _ => ?_⟩
    refine Go_ops rfl (OpTo_pcall (v := .bool true) rfl rfl rfl rfl rfl (by kernel_rfl) (fun w hm _ => l07_clash w) ?_)
    refine VC_sound tabOk 100 ?_
    rfl
end Go.Proofs.Ytobffgjilojpfaa
