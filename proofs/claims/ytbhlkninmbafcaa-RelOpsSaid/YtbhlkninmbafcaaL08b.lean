/- The laws RelTables and RelOps: what each run comes to. -/
import Derived.Test.YtbhlkninmbafcaaL08
set_option autoImplicit false
set_option linter.unusedVariables false
namespace Go.Proofs.Ytbhlkninmbafcaa
open Go.RX Go Go.RowKit


theorem heapAt_end (ps : List (Option Addr)) (W : Int) (h : (ps.length : Int) = W) : heapAt ps W = none := by
  subst h; simp [heapAt]
theorem heapAt_last (ps : List (Option Addr)) (W : Int) (h : (ps.length : Int) = W) (h1 : 1 ≤ W) (hq : ∀ q ∈ ps, q ≠ none) : ∃ a, heapAt ps (W - 1) = some a := by
  have hlt : (W - 1).toNat < ps.length := by omega
  have hne := hq ps[(W - 1).toNat] (List.getElem_mem hlt)
  obtain ⟨a, ha⟩ := Option.ne_none_iff_exists'.1 hne
  exact ⟨a, by rw [heapAt, if_pos (by omega), List.getElem?_eq_getElem hlt, ha]; rfl⟩

set_option maxHeartbeats 2000000 in
theorem l8_RelTables (n : Int) (w0 : World) (hn : -9223372036854775808 ≤ n ∧ n ≤ 9223372036854775807) : Calls Try.prog 4 #[.int .i64 n] w0 fun e w' => e = .returned (.bool true) ∧ Below w0.heap.size w0 w' := by
  refine enterP (tab := tab) Try.func4 rfl Try.ntmps4 rfl (args := [_]) rfl ?_
  refine VC_sound tabOk 100 ?_
  have hT : (tabs n : Int) = if n < 1 then 1 else if 4 < n then 4 else n := by unfold tabs; repeat' split
                                                                               all_goals omega
  rcases (by omega : n < 1 ∨ 4 < n ∨ (1 ≤ n ∧ n ≤ 4)) with h1 | h1 | h1
  · rw [if_pos h1] at hT
    refine ⟨fun _ => ?_, fun h => by simp at h; omega⟩
    refine ⟨fun h => by simp at h; omega, fun _ => ?_⟩
    show Go _ _ _ _
    refine Go_ops rfl (OpTo_ncall rfl rfl rfl rfl rfl (by kernel_rfl) (fun w hm _ => txn_new w) ?_)
    rintro _ _ ⟨bm, b1, b2, rfl, rfl⟩
    refine VC_sound tabOk 100 ?_
    show Go _ _ _ _
    refine Go_ops rfl (OpTo_ncall rfl rfl rfl rfl rfl (by kernel_rfl) (fun w hm _ => rel_new (some ⟨bm, 0, none⟩) n w hn) ?_)
    rintro _ _ ⟨br, A2, c2, ps, rfl, hl, hq, rfl⟩
    have hW : (ps.length : Int) = 1 := by rw [hl]; exact hT
    have e1 := heapAt_end ps 1 hW
    obtain ⟨q, e2⟩ := heapAt_last ps 1 hW (by omega) hq
    refine VC_sound tabOk 100 ?_
    refine Go_ops rfl (OpTo_pcall (v := .bool true) rfl rfl rfl rfl rfl (by kernel_rfl) (fun w hm _ => l8_row w) ?_)
    refine VC_sound tabOk 100 ?_
    refine ⟨fun _ => ?_, fun h => by simp at h⟩
    refine Go_ops rfl (OpTo_pcall (v := .int .i64 ps.length) rfl rfl rfl rfl rfl (by kernel_rfl) (fun w hm _ => rel_tables br A2 ps.length c2 w (hm.blk_at (i := 0) rfl)) ?_)
    refine VC_sound tabOk 100 ?_
    refine ⟨fun _ => ?_, fun h => absurd hW (by simpa using h)⟩
    refine Go_ops rfl (OpTo_pcall (v := .pointer none) rfl rfl rfl rfl rfl (by kernel_rfl) (fun w hm _ => e1 ▸ rel_heap br A2 c2 ps 1 w (hm.blk_at (i := 0) rfl) (hm.own_rd (i := 1) rfl)) ?_)
    refine VC_sound tabOk 100 ?_
    refine ⟨_, wrap_i64 (n := (1 : Int) - 1) (by omega) (by omega), ?_⟩
    refine Go_ops rfl (OpTo_pcall (v := .pointer (some q)) rfl rfl rfl rfl rfl (by kernel_rfl) (fun w hm _ => e2 ▸ rel_heap br A2 c2 ps ((1 : Int) - 1) w (hm.blk_at (i := 0) rfl) (hm.own_rd (i := 1) rfl)) ?_)
    refine VC_sound tabOk 100 ?_
    rfl
  · rw [if_neg (by omega), if_pos h1] at hT
    refine ⟨fun h => by simp at h; omega, fun _ => ?_⟩
    refine ⟨fun _ => ?_, fun h => by simp at h; omega⟩
    show Go _ _ _ _
    refine Go_ops rfl (OpTo_ncall rfl rfl rfl rfl rfl (by kernel_rfl) (fun w hm _ => txn_new w) ?_)
    rintro _ _ ⟨bm, b1, b2, rfl, rfl⟩
    refine VC_sound tabOk 100 ?_
    show Go _ _ _ _
    refine Go_ops rfl (OpTo_ncall rfl rfl rfl rfl rfl (by kernel_rfl) (fun w hm _ => rel_new (some ⟨bm, 0, none⟩) n w hn) ?_)
    rintro _ _ ⟨br, A2, c2, ps, rfl, hl, hq, rfl⟩
    have hW : (ps.length : Int) = 4 := by rw [hl]; exact hT
    have e1 := heapAt_end ps 4 hW
    obtain ⟨q, e2⟩ := heapAt_last ps 4 hW (by omega) hq
    refine VC_sound tabOk 100 ?_
    refine Go_ops rfl (OpTo_pcall (v := .bool true) rfl rfl rfl rfl rfl (by kernel_rfl) (fun w hm _ => l8_row w) ?_)
    refine VC_sound tabOk 100 ?_
    refine ⟨fun _ => ?_, fun h => by simp at h⟩
    refine Go_ops rfl (OpTo_pcall (v := .int .i64 ps.length) rfl rfl rfl rfl rfl (by kernel_rfl) (fun w hm _ => rel_tables br A2 ps.length c2 w (hm.blk_at (i := 0) rfl)) ?_)
    refine VC_sound tabOk 100 ?_
    refine ⟨fun _ => ?_, fun h => absurd hW (by simpa using h)⟩
    refine Go_ops rfl (OpTo_pcall (v := .pointer none) rfl rfl rfl rfl rfl (by kernel_rfl) (fun w hm _ => e1 ▸ rel_heap br A2 c2 ps 4 w (hm.blk_at (i := 0) rfl) (hm.own_rd (i := 1) rfl)) ?_)
    refine VC_sound tabOk 100 ?_
    refine ⟨_, wrap_i64 (n := (4 : Int) - 1) (by omega) (by omega), ?_⟩
    refine Go_ops rfl (OpTo_pcall (v := .pointer (some q)) rfl rfl rfl rfl rfl (by kernel_rfl) (fun w hm _ => e2 ▸ rel_heap br A2 c2 ps ((4 : Int) - 1) w (hm.blk_at (i := 0) rfl) (hm.own_rd (i := 1) rfl)) ?_)
    refine VC_sound tabOk 100 ?_
    rfl
  · rw [if_neg (by omega), if_neg (by omega)] at hT
    refine ⟨fun h => by simp at h; omega, fun _ => ?_⟩
    refine ⟨fun h => by simp at h; omega, fun _ => ?_⟩
    show Go _ _ _ _
    refine Go_ops rfl (OpTo_ncall rfl rfl rfl rfl rfl (by kernel_rfl) (fun w hm _ => txn_new w) ?_)
    rintro _ _ ⟨bm, b1, b2, rfl, rfl⟩
    refine VC_sound tabOk 100 ?_
    show Go _ _ _ _
    refine Go_ops rfl (OpTo_ncall rfl rfl rfl rfl rfl (by kernel_rfl) (fun w hm _ => rel_new (some ⟨bm, 0, none⟩) n w hn) ?_)
    rintro _ _ ⟨br, A2, c2, ps, rfl, hl, hq, rfl⟩
    have hW : (ps.length : Int) = n := by rw [hl]; exact hT
    have e1 := heapAt_end ps n hW
    obtain ⟨q, e2⟩ := heapAt_last ps n hW (by omega) hq
    refine VC_sound tabOk 100 ?_
    refine Go_ops rfl (OpTo_pcall (v := .bool true) rfl rfl rfl rfl rfl (by kernel_rfl) (fun w hm _ => l8_row w) ?_)
    refine VC_sound tabOk 100 ?_
    refine ⟨fun _ => ?_, fun h => by simp at h⟩
    refine Go_ops rfl (OpTo_pcall (v := .int .i64 ps.length) rfl rfl rfl rfl rfl (by kernel_rfl) (fun w hm _ => rel_tables br A2 ps.length c2 w (hm.blk_at (i := 0) rfl)) ?_)
    refine VC_sound tabOk 100 ?_
    refine ⟨fun _ => ?_, fun h => absurd hW (by simpa using h)⟩
    refine Go_ops rfl (OpTo_pcall (v := .pointer none) rfl rfl rfl rfl rfl (by kernel_rfl) (fun w hm _ => e1 ▸ rel_heap br A2 c2 ps n w (hm.blk_at (i := 0) rfl) (hm.own_rd (i := 1) rfl)) ?_)
    refine VC_sound tabOk 100 ?_
    refine ⟨_, wrap_i64 (n := (n : Int) - 1) (by omega) (by omega), ?_⟩
    refine Go_ops rfl (OpTo_pcall (v := .pointer (some q)) rfl rfl rfl rfl rfl (by kernel_rfl) (fun w hm _ => e2 ▸ rel_heap br A2 c2 ps ((n : Int) - 1) w (hm.blk_at (i := 0) rfl) (hm.own_rd (i := 1) rfl)) ?_)
    refine VC_sound tabOk 100 ?_
    rfl

theorem opsOf_len (k : Int) (r : RowM) (rows : List RowM) : (opsOf k r rows).length ≤ rows.length + 1 := by
  unfold opsOf; repeat' split
  all_goals simp

def rowK (k : Int) : RowM := ⟨k, ⟨#[]⟩⟩
set_option maxHeartbeats 4000000 in
theorem l8_RelOps (kind table key : Int) (A : Option Addr) (c : Nat) (ks : List Int) (w0 : World) (hA : RdI w0 A ks) (hkind : 0 ≤ kind ∧ kind ≤ 255) :
    Calls Try.prog 3 #[.int .u8 kind, .int .i64 table, .int .i64 key, .slice A ks.length c] w0 fun e w' => e = .returned (.bool true) ∧ Below w0.heap.size w0 w' := by
  refine enterP (tab := tab) Try.func3 rfl Try.ntmps3 rfl (args := [_, _, _, _]) rfl ?_
  refine VC_sound tabOk 100 ?_
  refine ⟨fun h => ?_, fun h => ?_⟩
  · refine Go_ops rfl (OpTo_pcall (v := .bool true) rfl rfl rfl rfl rfl (by kernel_rfl) (fun w hm _ => l8_row w) ?_)
    refine VC_sound tabOk 100 ?_
    rfl
  have hlen : ks.length ≤ 40 := by simp at h; omega
  refine Go_res _ (fun w h => h.own_nil (enc := encR) (k := 2) (T := 26) none) ?_
  refine Go_loop (σ := Option Addr × Nat × Nat) (fun s => [(0, .v (.int .u8 kind)), (1, .v (.int .i64 table)), (2, .v (.int .i64 key)), (3, .v (.slice A ks.length c)), (9, .v (.slice s.1 s.2.2 s.2.1)), (10, .v (.int .i64 s.2.2))]) (fun s => [own encR 2 26 s.1 s.2.1 ((ks.take s.2.2).map rowK)])
    (fun s => s.2.2 ≤ ks.length) (fun s => ks.length - s.2.2) (none, 0, 0) (by simp) ⟨rfl, rfl, rfl, rfl, rfl, rfl, trivial⟩ (fun w h => h) ?_
  rintro ⟨A1, c1, i⟩ hi
  dsimp only at hi ⊢
  refine VC_sound tabOk 100 ?_
  refine ⟨fun hb => ?_, fun hb => ?_⟩
  · have hlt : i < ks.length := by simp at hb; omega
    obtain ⟨b, o, rfl⟩ := RdI.some hA (ne_nil_of_lt (by omega : 0 < ks.length))
    refine ⟨⟨by omega, by omega⟩, ?_⟩
    refine Go_ops rfl (OpTo_loadRow tabOk (encI_is .i64) (.int .i64 ks[i]) rfl rfl rfl rfl rfl (fun h => rfl) (fun w hm _ => hA.mod hm) (List.getElem?_eq_getElem hlt) (by simp only [addA]; rfl) ?_)
    refine VC_sound tabOk 100 ?_
    intro b29 _
    show Go _ _ _ _
    refine Go_ops rfl (OpTo_append tabOk encR_is (ys := [rowK ks[i]]) (i := 1) rfl rfl rfl rfl rfl rfl rfl rfl rfl (by simp; omega) rfl (fun w hm _ => hm.blk_rd (i := 0) rfl) (by simp; omega) (by simp; omega) (fun A2 c2 => ?_))
    refine VC_sound tabOk 100 ?_
    refine ⟨_, wrap_i64 (n := (i : Int) + 1) (by omega) (by omega), ?_⟩
    refine Go_fin (A2, c2, i + 1) (by simp; omega) (by simp; omega) ⟨rfl, rfl, rfl, rfl, rfl, rfl, trivial⟩ (fun _ h => ?_)
    have h := h.sel [1] rfl
    have e : ((ks.take (i + 1)).map rowK) = ((ks.take i).map rowK) ++ [rowK ks[i]] := by
      rw [List.take_succ_eq_append_getElem hlt, List.map_append]; rfl
    dsimp only
    rw [e]
    exact h
  · have he : i = ks.length := by simp at hb; omega
    subst he
    have hrl : ((ks.take ks.length).map rowK).length = ks.length := by simp
    generalize hrows : (ks.take ks.length).map rowK = rows at hrl
    refine ⟨fun h20 => ?_, fun h20 => ?_⟩
    · have hk1 : 0 ≤ kind.tmod 6 := Int.tmod_nonneg 6 hkind.1
      have hk2 : kind.tmod 6 < 6 := Int.tmod_lt_of_pos kind (by decide)
      refine ⟨by decide, _, rfl, ?_⟩
      refine ⟨_, wrap_u8 (n := 1 + kind.tmod 6) (by omega) (by omega), ?_⟩
      intro b12 _
      (repeat (first | refine Or.inl ⟨rfl, rfl, ?_⟩ | refine Or.inl ⟨rfl, ?_⟩ | refine Or.inr ?_))
      refine Go_res [.blk b12 28 [.int .u8 (1 + kind.tmod 6), .int .i64 table, .int .i64 key, .string ⟨#[116]⟩], own encR 2 26 A1 c1 rows] (fun _ h => h) ?_
      show Go _ _ _ _
      refine Go_any mixed [13, 14] [(0, true), (1, false), (2, false), (4, false), (6, false), (9, false), (12, false), (3, false), (5, false), (7, false), (8, false), (11, false), (10, true), (13, true), (14, true), (15, false), (16, false)] rfl (by kernel_rfl) (by kernel_rfl) [.blk b12 28 [.int .u8 (1 + kind.tmod 6), .int .i64 table, .int .i64 key, .string ⟨#[116]⟩]] (FrmX [heapOf w0]) (FrmX.stable _) (fun w hm _ => ⟨Holds.of_idx [0] hm, FrmX.of_mod hm⟩) ?_
      refine VC_sound tabOk 100 ?_
      refine Go_aloneS rfl rfl (fun w hm _ => ⟨Holds.of_mod hm (by simp), FrmX.of_mod hm⟩) (OpTo_pcall (v := .bool true) rfl rfl rfl rfl rfl (by kernel_rfl) (fun w hm _ => l8_row w) ?_)
      refine And.intro rfl ?_
      refine VC_sound tabOk 100 ?_
      refine ⟨fun _ => ?_, fun h => by simp at h⟩
      (repeat (first | refine Or.inl ⟨rfl, rfl, ?_⟩ | refine Or.inl ⟨rfl, ?_⟩ | refine Or.inr ?_))
      refine Go_aloneL rfl rfl (OpTo_ncall (Qc := opQ 66 (opsOf (1 + kind.tmod 6) ⟨key, ⟨#[116]⟩⟩ rows)) rfl rfl rfl rfl rfl (by kernel_rfl) (fun w hm _ => hrl ▸ rel_ops (1 + kind.tmod 6) table ⟨key, ⟨#[116]⟩⟩ A1 c1 rows w (hm.own_rd (i := 1) rfl) (by omega)) ?_)
      rintro _ _ ⟨A3, c3, rfl, rfl⟩
      refine And.intro (fun w hm _ => ⟨Holds.of_idx [1] hm, FrmX.of_mod hm⟩) ?_
      refine VC_sound tabOk 100 ?_
      refine Go_aloneM rfl rfl rfl (OpTo_ncall (Qc := opQ 67 (opsOf (1 + kind.tmod 6) ⟨key, ⟨#[116]⟩⟩ rows)) rfl rfl rfl rfl rfl (by kernel_rfl) (fun w hm _ => hrl ▸ ref_ops (1 + kind.tmod 6) table ⟨key, ⟨#[116]⟩⟩ A1 c1 rows w (hm.own_rd (i := 2) rfl) (by omega)) ?_)
      rintro _ _ ⟨A4, c4, rfl, rfl⟩
      refine VC_sound tabOk 100 ?_
      refine Go_aloneM rfl rfl rfl (OpTo_pcall (v := .bool true) rfl rfl rfl rfl rfl (by kernel_rfl) (fun w hm _ => l8_ops A3 A4 c3 c4 _ w (hm.own_rd (i := 1) rfl) (hm.own_rd (i := 0) rfl) (by have := opsOf_len (1 + kind.tmod 6) ⟨key, ⟨#[116]⟩⟩ rows; omega)) ?_)
      refine VC_sound tabOk 100 ?_
      rfl
    · skip
      intro b12 _
      (repeat (first | refine Or.inl ⟨rfl, rfl, ?_⟩ | refine Or.inl ⟨rfl, ?_⟩ | refine Or.inr ?_))
      refine Go_res [.blk b12 28 [.int .u8 kind, .int .i64 table, .int .i64 key, .string ⟨#[116]⟩], own encR 2 26 A1 c1 rows] (fun _ h => h) ?_
      show Go _ _ _ _
      refine Go_any mixed [13, 14] [(0, true), (1, false), (2, false), (4, false), (6, false), (9, false), (12, false), (3, false), (5, false), (7, false), (8, false), (11, false), (10, true), (13, true), (14, true), (15, false), (16, false)] rfl (by kernel_rfl) (by kernel_rfl) [.blk b12 28 [.int .u8 kind, .int .i64 table, .int .i64 key, .string ⟨#[116]⟩]] (FrmX [heapOf w0]) (FrmX.stable _) (fun w hm _ => ⟨Holds.of_idx [0] hm, FrmX.of_mod hm⟩) ?_
      refine VC_sound tabOk 100 ?_
      refine Go_aloneS rfl rfl (fun w hm _ => ⟨Holds.of_mod hm (by simp), FrmX.of_mod hm⟩) (OpTo_pcall (v := .bool true) rfl rfl rfl rfl rfl (by kernel_rfl) (fun w hm _ => l8_row w) ?_)
      refine And.intro rfl ?_
      refine VC_sound tabOk 100 ?_
      refine ⟨fun _ => ?_, fun h => by simp at h⟩
      (repeat (first | refine Or.inl ⟨rfl, rfl, ?_⟩ | refine Or.inl ⟨rfl, ?_⟩ | refine Or.inr ?_))
      refine Go_aloneL rfl rfl (OpTo_ncall (Qc := opQ 66 (opsOf kind ⟨key, ⟨#[116]⟩⟩ rows)) rfl rfl rfl rfl rfl (by kernel_rfl) (fun w hm _ => hrl ▸ rel_ops kind table ⟨key, ⟨#[116]⟩⟩ A1 c1 rows w (hm.own_rd (i := 1) rfl) (by omega)) ?_)
      rintro _ _ ⟨A3, c3, rfl, rfl⟩
      refine And.intro (fun w hm _ => ⟨Holds.of_idx [1] hm, FrmX.of_mod hm⟩) ?_
      refine VC_sound tabOk 100 ?_
      refine Go_aloneM rfl rfl rfl (OpTo_ncall (Qc := opQ 67 (opsOf kind ⟨key, ⟨#[116]⟩⟩ rows)) rfl rfl rfl rfl rfl (by kernel_rfl) (fun w hm _ => hrl ▸ ref_ops kind table ⟨key, ⟨#[116]⟩⟩ A1 c1 rows w (hm.own_rd (i := 2) rfl) (by omega)) ?_)
      rintro _ _ ⟨A4, c4, rfl, rfl⟩
      refine VC_sound tabOk 100 ?_
      refine Go_aloneM rfl rfl rfl (OpTo_pcall (v := .bool true) rfl rfl rfl rfl rfl (by kernel_rfl) (fun w hm _ => l8_ops A3 A4 c3 c4 _ w (hm.own_rd (i := 1) rfl) (hm.own_rd (i := 0) rfl) (by have := opsOf_len kind ⟨key, ⟨#[116]⟩⟩ rows; omega)) ?_)
      refine VC_sound tabOk 100 ?_
      rfl
end Go.Proofs.Ytbhlkninmbafcaa
