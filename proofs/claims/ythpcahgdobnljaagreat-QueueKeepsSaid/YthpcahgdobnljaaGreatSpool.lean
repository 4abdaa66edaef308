/- What the functions of package spool do. -/
import Derived.Test.YthpcahgdobnljaaGreatEvent
set_option maxRecDepth 100000
set_option autoImplicit false
set_option linter.unusedVariables false
namespace Go.Proofs.YthpcahgdobnljaaGreat.Sp
open Go.RX Go Go.RowKit


/-- A table: where it stands, its capacity, what stands in it. -/
structure Tb where
  A : Option Addr
  c : Nat
  xs : List EventM
abbrev Tb.v (t : Tb) : Value := .slice t.A t.xs.length t.c
abbrev Tb.r (t : Tb) : Res := own encE 8 65 t.A t.c t.xs
def noTb : Tb := ⟨none, 0, []⟩

abbrev spB (bs : Nat) (a b c : Tb) (cur : Nat) : Res := .blk bs 146 [a.v, b.v, c.v, .int .i64 cur]
def spR (bs : Nat) (a b c : Tb) (cur : Nat) : List Res := [spB bs a b c cur, a.r, b.r, c.r]
def pick3 (a b c : Tb) : Nat → Tb
  | 0 => a
  | 1 => b
  | _ => c

theorem spool_new (w0 : World) : Calls Tryz.prog 80 #[] w0 fun e w' => ∃ v Rs', e = .returned v ∧ (∃ bs, v = .pointer (some ⟨bs, 0, none⟩) ∧ Rs' = spR bs noTb noTb noTb 0) ∧ Mod [heapOf w0] Rs' w' ∧ Oth w0 w' := by
  refine enterN (tab := tab) Tryz.func80 rfl Tryz.ntmps80 rfl (args := []) rfl (Mod.start w0) ?_
  refine VC_sound tabOk 100 ?_
  intro b1 _
  refine ⟨_, ⟨b1, rfl, rfl⟩, fun _ _ hm => ?_⟩
  exact (((hm.own_nil (enc := encE) (k := 8) (T := 65) none).own_nil (enc := encE) (k := 8) (T := 65) none).own_nil (enc := encE) (k := 8) (T := 65) none).sel [3, 0, 1, 2] rfl

theorem spool_cur (bs : Nat) (a b c : Tb) (cur : Nat) (w0 : World) (hb : w0.heap[bs]? = some (.cells #[a.v, b.v, c.v, .int .i64 cur] 146 (0, 0))) :
    Calls Tryz.prog 78 #[.pointer (some ⟨bs, 0, none⟩)] w0 fun e w' => e = .returned (.int .i64 cur) ∧ BelowD w0.heap.size w0 w' := by
  refine enterP (tab := tab) Tryz.func78 rfl Tryz.ntmps78 rfl (args := [_]) rfl ?_
  refine VC_sound tabOk 100 ?_
  refine Go_ops rfl (OpTo_loadBlk tabOk (cs := [a.v, b.v, c.v, .int .i64 cur]) (.int .i64 cur) rfl rfl rfl (fun w hm _ => hm.block_old hb) rfl ?_)
  refine VC_sound tabOk 100 ?_
  rfl

def nxt (cur : Nat) : Nat := (cur + 1) % 3
theorem spool_after (bs : Nat) (a b c : Tb) (cur : Nat) (w0 : World) (hb : w0.heap[bs]? = some (.cells #[a.v, b.v, c.v, .int .i64 cur] 146 (0, 0))) (hc : cur < 3) :
    Calls Tryz.prog 144 #[.pointer (some ⟨bs, 0, none⟩)] w0 fun e w' => e = .returned (.int .i64 (nxt cur)) ∧ BelowD w0.heap.size w0 w' := by
  refine enterP (tab := tab) Tryz.func144 rfl Tryz.ntmps144 rfl (args := [_]) rfl ?_
  refine VC_sound tabOk 100 ?_
  refine Go_ops rfl (OpTo_pcall (v := .int .i64 cur) rfl rfl rfl rfl rfl (by kernel_rfl) (fun w hm _ => spool_cur bs a b c cur w (hm.block_old hb)) ?_)
  refine VC_sound tabOk 100 ?_
  refine ⟨_, wrap_i64 (n := (cur : Int) + 1) (by omega) (by omega), ?_⟩
  refine ⟨by decide, (nxt cur : Nat), ?_, ?_⟩
  · rw [Int.tmod_eq_emod_of_nonneg (by omega)]; simp [nxt]
  rfl

set_option maxHeartbeats 1000000 in
theorem spool_len (bs : Nat) (a b c : Tb) (cur : Nat) (w0 : World) (hb : w0.heap[bs]? = some (.cells #[a.v, b.v, c.v, .int .i64 cur] 146 (0, 0))) (h1 : a.xs.length ≤ 1000000) (h2 : b.xs.length ≤ 1000000) (h3 : c.xs.length ≤ 1000000) :
    Calls Tryz.prog 141 #[.pointer (some ⟨bs, 0, none⟩)] w0 fun e w' => e = .returned (.int .i64 ((a.xs.length + b.xs.length + c.xs.length : Nat) : Int)) ∧ BelowD w0.heap.size w0 w' := by
  refine enterP (tab := tab) Tryz.func141 rfl Tryz.ntmps141 rfl (args := [_]) rfl ?_
  refine VC_sound tabOk 100 ?_
  refine Go_ops rfl (OpTo_loadBlk tabOk (cs := [a.v, b.v, c.v, .int .i64 cur]) (.agg #[a.v, b.v, c.v]) rfl rfl rfl (fun w hm _ => hm.block_old hb) rfl ?_)
  refine VC_sound tabOk 100 ?_
  refine Go_loop (σ := Nat) (fun i => [(3, .v (.int .i64 (match i with | 0 => 0 | 1 => a.xs.length | 2 => (a.xs.length + b.xs.length : Nat) | _ => (a.xs.length + b.xs.length + c.xs.length : Nat) : Int))), (11, .v (.agg #[a.v, b.v, c.v])), (12, .v (.int .i64 i))]) (fun _ => [])
    (fun i => i ≤ 3) (fun i => 3 - i) 0 (by omega) ⟨rfl, rfl, rfl, trivial⟩ (fun _ h => h) ?_
  intro i hi
  have hi' : i = 0 ∨ i = 1 ∨ i = 2 ∨ i = 3 := by omega
  rcases hi' with rfl | rfl | rfl | rfl
  · try dsimp only
    refine VC_sound tabOk 100 ?_
    refine ⟨fun _ => ?_, fun h => by simp at h⟩
    refine ⟨⟨by omega, by omega⟩, _, rfl, ?_⟩
    refine ⟨_, wrap_i64 (n := (0 : Int) + (a.xs.length : Int)) (by omega) (by omega), ?_⟩
    refine ⟨_, wrap_i64 (n := ((0 : Nat) : Int) + 1) (by omega) (by omega), ?_⟩
    refine Go_fin 1 (by omega) (by omega) ⟨congrArg (Value.int .i64) ?_, rfl, rfl, trivial⟩ (fun _ h => h)
    show (0 : Int) + (a.xs.length : Int) = (a.xs.length : Int)
    omega
  · try dsimp only
    refine VC_sound tabOk 100 ?_
    refine ⟨fun _ => ?_, fun h => by simp at h⟩
    refine ⟨⟨by omega, by omega⟩, _, rfl, ?_⟩
    refine ⟨_, wrap_i64 (n := (a.xs.length : Int) + (b.xs.length : Int)) (by omega) (by omega), ?_⟩
    refine ⟨_, wrap_i64 (n := ((1 : Nat) : Int) + 1) (by omega) (by omega), ?_⟩
    refine Go_fin 2 (by omega) (by omega) ⟨congrArg (Value.int .i64) ?_, rfl, rfl, trivial⟩ (fun _ h => h)
    show (a.xs.length : Int) + (b.xs.length : Int) = ((a.xs.length + b.xs.length : Nat) : Int)
    omega
  · try dsimp only
    refine VC_sound tabOk 100 ?_
    refine ⟨fun _ => ?_, fun h => by simp at h⟩
    refine ⟨⟨by omega, by omega⟩, _, rfl, ?_⟩
    refine ⟨_, wrap_i64 (n := ((a.xs.length + b.xs.length : Nat) : Int) + (c.xs.length : Int)) (by omega) (by omega), ?_⟩
    refine ⟨_, wrap_i64 (n := ((2 : Nat) : Int) + 1) (by omega) (by omega), ?_⟩
    refine Go_fin 3 (by omega) (by omega) ⟨congrArg (Value.int .i64) ?_, rfl, rfl, trivial⟩ (fun _ h => h)
    show ((a.xs.length + b.xs.length : Nat) : Int) + (c.xs.length : Int) = ((a.xs.length + b.xs.length + c.xs.length : Nat) : Int)
    omega
  · try dsimp only
    refine VC_sound tabOk 100 ?_
    refine ⟨fun h => by simp at h, fun _ => ?_⟩
    rfl

def spSet (bs : Nat) (a b c : Tb) (cur i : Nat) (t : Tb) : List Res := match i with
  | 0 => spR bs t b c cur
  | 1 => spR bs a t c cur
  | _ => spR bs a b t cur
def addToQ (bs : Nat) (a b c : Tb) (cur i : Nat) (e : EventM) : Value → List Res → Prop := fun v Rs => ∃ A' c', v = .int .i64 0 ∧ Rs = spSet bs a b c cur i ⟨A', c', (pick3 a b c i).xs ++ [e]⟩
set_option maxHeartbeats 2000000 in
theorem spool_addTo (bs : Nat) (a b c : Tb) (cur i : Nat) (e : EventM) (w0 : World) (hfs : List PH) (hm : Mod hfs (spR bs a b c cur) w0) (hi : i < 3) (h1 : a.xs.length ≤ 1000000) (h2 : b.xs.length ≤ 1000000) (h3 : c.xs.length ≤ 1000000) :
    Calls Tryz.prog 140 #[.pointer (some ⟨bs, 0, none⟩), .int .i64 i, mkE e] w0 fun e' w' => ∃ v Rs', e' = .returned v ∧ addToQ bs a b c cur i e v Rs' ∧ Mod hfs Rs' w' ∧ Oth w0 w' := by
  refine enterN (tab := tab) Tryz.func140 rfl Tryz.ntmps140 rfl (args := [_, _, _]) rfl hm ?_
  have hi' : i = 0 ∨ i = 1 ∨ i = 2 := by omega
  rcases hi' with rfl | rfl | rfl
  · refine VC_sound tabOk 100 ?_
    intro b5 _
    refine ⟨fun h => by simp at h, fun _ => ?_⟩
    refine ⟨fun h => by simp at h, fun _ => ?_⟩
    (repeat (first | refine Or.inl ⟨rfl, rfl, ?_⟩ | refine Or.inl ⟨rfl, ?_⟩ | refine Or.inr ?_))
    refine Go_res [.blk b5 65 [.int .i64 e.id, .int .i64 e.tx, .string e.owner, .int .i64 e.tries, .int .i64 e.table, .int .u8 e.kind, .int .i64 e.key, .string e.text], spB bs a b c cur, a.r, b.r, c.r] (fun _ h => h) ?_
    show Go _ _ _ _
    refine Go_any mixed [10, 14] [(0, false), (1, false), (2, false), (3, false), (4, false), (5, false), (6, false), (11, false), (12, false), (7, false), (8, false), (9, true), (10, true), (13, false), (14, true)] rfl (by kernel_rfl) (by kernel_rfl) [.blk b5 65 [.int .i64 e.id, .int .i64 e.tx, .string e.owner, .int .i64 e.tries, .int .i64 e.table, .int .u8 e.kind, .int .i64 e.key, .string e.text], spB bs a b c cur] (FrmX hfs) (FrmX.stable _) (fun w hm _ => ⟨Holds.of_idx [0, 1] hm, FrmX.of_mod hm⟩) ?_
    refine VC_sound tabOk 100 ?_
    refine ⟨⟨by omega, by omega⟩, ?_⟩
    (repeat (first | refine Or.inl ⟨rfl, rfl, ?_⟩ | refine Or.inl ⟨rfl, ?_⟩ | refine Or.inr ?_))
    intro b9 _
    refine Go_aloneM rfl rfl rfl (OpTo_append tabOk encE_is (ys := [e]) (i := 3) rfl rfl rfl rfl rfl rfl rfl rfl rfl rfl rfl (fun w hm _ => hm.blk_rd (i := 0) rfl) (by simp; omega) (by simp; omega) (fun A2 c2 => ?_))
    refine VC_sound tabOk 100 ?_
    refine ⟨⟨by omega, by omega⟩, ?_⟩
    (repeat (first | refine Or.inl ⟨rfl, rfl, ?_⟩ | refine Or.inl ⟨rfl, ?_⟩ | refine Or.inr ?_))
    refine ⟨_, ⟨A2, c2, rfl, rfl⟩, fun hfs w h => ?_⟩
    have h := h.sel [2, 3, 4, 5] rfl
    dsimp only at h
    rw [show a.xs.length + 1 = (a.xs ++ [e]).length by simp] at h
    exact h
  · refine VC_sound tabOk 100 ?_
    intro b5 _
    refine ⟨fun h => by simp at h, fun _ => ?_⟩
    refine ⟨fun h => by simp at h, fun _ => ?_⟩
    (repeat (first | refine Or.inl ⟨rfl, rfl, ?_⟩ | refine Or.inl ⟨rfl, ?_⟩ | refine Or.inr ?_))
    refine Go_res [.blk b5 65 [.int .i64 e.id, .int .i64 e.tx, .string e.owner, .int .i64 e.tries, .int .i64 e.table, .int .u8 e.kind, .int .i64 e.key, .string e.text], spB bs a b c cur, a.r, b.r, c.r] (fun _ h => h) ?_
    show Go _ _ _ _
    refine Go_any mixed [10, 14] [(0, false), (1, false), (2, false), (3, false), (4, false), (5, false), (6, false), (11, false), (12, false), (7, false), (8, false), (9, true), (10, true), (13, false), (14, true)] rfl (by kernel_rfl) (by kernel_rfl) [.blk b5 65 [.int .i64 e.id, .int .i64 e.tx, .string e.owner, .int .i64 e.tries, .int .i64 e.table, .int .u8 e.kind, .int .i64 e.key, .string e.text], spB bs a b c cur] (FrmX hfs) (FrmX.stable _) (fun w hm _ => ⟨Holds.of_idx [0, 1] hm, FrmX.of_mod hm⟩) ?_
    refine VC_sound tabOk 100 ?_
    refine ⟨⟨by omega, by omega⟩, ?_⟩
    (repeat (first | refine Or.inl ⟨rfl, rfl, ?_⟩ | refine Or.inl ⟨rfl, ?_⟩ | refine Or.inr ?_))
    intro b9 _
    refine Go_aloneM rfl rfl rfl (OpTo_append tabOk encE_is (ys := [e]) (i := 4) rfl rfl rfl rfl rfl rfl rfl rfl rfl rfl rfl (fun w hm _ => hm.blk_rd (i := 0) rfl) (by simp; omega) (by simp; omega) (fun A2 c2 => ?_))
    refine VC_sound tabOk 100 ?_
    refine ⟨⟨by omega, by omega⟩, ?_⟩
    (repeat (first | refine Or.inl ⟨rfl, rfl, ?_⟩ | refine Or.inl ⟨rfl, ?_⟩ | refine Or.inr ?_))
    refine ⟨_, ⟨A2, c2, rfl, rfl⟩, fun hfs w h => ?_⟩
    have h := h.sel [2, 3, 4, 5] rfl
    dsimp only at h
    rw [show b.xs.length + 1 = (b.xs ++ [e]).length by simp] at h
    exact h
  · refine VC_sound tabOk 100 ?_
    intro b5 _
    refine ⟨fun h => by simp at h, fun _ => ?_⟩
    refine ⟨fun h => by simp at h, fun _ => ?_⟩
    (repeat (first | refine Or.inl ⟨rfl, rfl, ?_⟩ | refine Or.inl ⟨rfl, ?_⟩ | refine Or.inr ?_))
    refine Go_res [.blk b5 65 [.int .i64 e.id, .int .i64 e.tx, .string e.owner, .int .i64 e.tries, .int .i64 e.table, .int .u8 e.kind, .int .i64 e.key, .string e.text], spB bs a b c cur, a.r, b.r, c.r] (fun _ h => h) ?_
    show Go _ _ _ _
    refine Go_any mixed [10, 14] [(0, false), (1, false), (2, false), (3, false), (4, false), (5, false), (6, false), (11, false), (12, false), (7, false), (8, false), (9, true), (10, true), (13, false), (14, true)] rfl (by kernel_rfl) (by kernel_rfl) [.blk b5 65 [.int .i64 e.id, .int .i64 e.tx, .string e.owner, .int .i64 e.tries, .int .i64 e.table, .int .u8 e.kind, .int .i64 e.key, .string e.text], spB bs a b c cur] (FrmX hfs) (FrmX.stable _) (fun w hm _ => ⟨Holds.of_idx [0, 1] hm, FrmX.of_mod hm⟩) ?_
    refine VC_sound tabOk 100 ?_
    refine ⟨⟨by omega, by omega⟩, ?_⟩
    (repeat (first | refine Or.inl ⟨rfl, rfl, ?_⟩ | refine Or.inl ⟨rfl, ?_⟩ | refine Or.inr ?_))
    intro b9 _
    refine Go_aloneM rfl rfl rfl (OpTo_append tabOk encE_is (ys := [e]) (i := 5) rfl rfl rfl rfl rfl rfl rfl rfl rfl rfl rfl (fun w hm _ => hm.blk_rd (i := 0) rfl) (by simp; omega) (by simp; omega) (fun A2 c2 => ?_))
    refine VC_sound tabOk 100 ?_
    refine ⟨⟨by omega, by omega⟩, ?_⟩
    (repeat (first | refine Or.inl ⟨rfl, rfl, ?_⟩ | refine Or.inl ⟨rfl, ?_⟩ | refine Or.inr ?_))
    refine ⟨_, ⟨A2, c2, rfl, rfl⟩, fun hfs w h => ?_⟩
    have h := h.sel [2, 3, 4, 5] rfl
    dsimp only at h
    rw [show c.xs.length + 1 = (c.xs ++ [e]).length by simp] at h
    exact h

set_option maxHeartbeats 1000000 in
theorem spool_add (bs : Nat) (a b c : Tb) (cur : Nat) (e : EventM) (w0 : World) (hfs : List PH) (hm : Mod hfs (spR bs a b c cur) w0) (hi : cur < 3) (h1 : a.xs.length ≤ 1000000) (h2 : b.xs.length ≤ 1000000) (h3 : c.xs.length ≤ 1000000) :
    Calls Tryz.prog 86 #[.pointer (some ⟨bs, 0, none⟩), mkE e] w0 fun e' w' => ∃ v Rs', e' = .returned v ∧ (∃ A' c', v = .tuple #[] ∧ Rs' = spSet bs a b c cur cur ⟨A', c', (pick3 a b c cur).xs ++ [e]⟩) ∧ Mod hfs Rs' w' ∧ Oth w0 w' := by
  refine enterN (tab := tab) Tryz.func86 rfl Tryz.ntmps86 rfl (args := [_, _]) rfl hm ?_
  refine VC_sound tabOk 100 ?_
  intro b3 _
  refine Go_sel [1, 2, 3, 4, 0] rfl ?_
  refine Go_res [spB bs a b c cur, a.r, b.r, c.r, .blk b3 65 [.int .i64 e.id, .int .i64 e.tx, .string e.owner, .int .i64 e.tries, .int .i64 e.table, .int .u8 e.kind, .int .i64 e.key, .string e.text]] (fun _ h => h) ?_
  show Go _ _ _ _
  refine Go_any mixed [] [(0, false), (1, false), (3, false), (2, true), (4, true)] rfl (by kernel_rfl) (by kernel_rfl) [.blk b3 65 [.int .i64 e.id, .int .i64 e.tx, .string e.owner, .int .i64 e.tries, .int .i64 e.table, .int .u8 e.kind, .int .i64 e.key, .string e.text]] (FrmX hfs) (FrmX.stable _) (fun w hm _ => ⟨Holds.of_idx [4] hm, FrmX.of_mod hm⟩) ?_
  refine VC_sound tabOk 100 ?_
  (repeat (first | refine Or.inl ⟨rfl, rfl, ?_⟩ | refine Or.inl ⟨rfl, ?_⟩ | refine Or.inr ?_))
  refine Go_aloneS rfl rfl (fun w hm _ => ⟨Holds.of_idx [4] hm, FrmX.of_mod hm⟩) (OpTo_pcall (v := .int .i64 cur) rfl rfl rfl rfl rfl (by kernel_rfl) (fun w hm _ => spool_cur bs a b c cur w (hm.blk_at (i := 0) rfl)) ?_)
  refine And.intro rfl ?_
  refine VC_sound tabOk 100 ?_
  refine Go_aloneL rfl rfl (OpTo_mcall (spR bs a b c cur) [.blk b3 65 [.int .i64 e.id, .int .i64 e.tx, .string e.owner, .int .i64 e.tries, .int .i64 e.table, .int .u8 e.kind, .int .i64 e.key, .string e.text]] (List.Perm.refl _) rfl rfl rfl rfl rfl (by kernel_rfl) (fun w hb hm hio hsp k => spool_addTo bs a b c cur cur e w _ k hi h1 h2 h3) ?_)
  rintro _ _ ⟨A', c', rfl, rfl⟩
  refine And.intro (fun w hm _ => ⟨⟨hm.blk_behind (i := 0) rfl, trivial⟩, FrmX.of_mod hm⟩) ?_
  refine VC_sound tabOk 100 ?_
  exact ⟨_, ⟨A', c', rfl, rfl⟩, fun hfs w h => (h.permRs (List.perm_append_comm (l₁ := spSet bs a b c cur cur ⟨A', c', (pick3 a b c cur).xs ++ [e]⟩) (l₂ := [.blk b3 65 [.int .i64 e.id, .int .i64 e.tx, .string e.owner, .int .i64 e.tries, .int .i64 e.table, .int .u8 e.kind, .int .i64 e.key, .string e.text]]))).drop⟩

/-- What Rotate comes to. -/
def rotQ (bs : Nat) (a b c : Tb) (cur : Nat) (free : Bool) : Value → List Res → Prop := fun v Rs =>
  ((pick3 a b c (nxt cur)).xs = [] ∧ v = .tuple #[.int .u8 2, .int .i64 0] ∧ Rs = spR bs a b c (nxt cur)) ∨
  ((pick3 a b c (nxt cur)).xs ≠ [] ∧ free = false ∧ v = .tuple #[.int .u8 0, .int .i64 9] ∧ Rs = spR bs a b c cur) ∨
  ((pick3 a b c (nxt cur)).xs ≠ [] ∧ free = true ∧ v = .tuple #[.int .u8 1, .int .i64 0] ∧ Rs = spSet bs a b c cur (nxt cur) noTb)
set_option maxHeartbeats 2000000 in
theorem spool_rotate (bs : Nat) (a b c : Tb) (cur : Nat) (free : Bool) (w0 : World) (hfs : List PH) (hm : Mod hfs (spR bs a b c cur) w0) (hi : cur < 3) :
    Calls Tryz.prog 89 #[.pointer (some ⟨bs, 0, none⟩), .bool free] w0 fun e' w' => ∃ v Rs', e' = .returned v ∧ rotQ bs a b c cur free v Rs' ∧ Mod hfs Rs' w' ∧ Oth w0 w' := by
  refine enterN (tab := tab) Tryz.func89 rfl Tryz.ntmps89 rfl (args := [_, _]) rfl hm ?_
  have hi' : cur = 0 ∨ cur = 1 ∨ cur = 2 := by omega
  rcases hi' with rfl | rfl | rfl
  · refine VC_sound tabOk 100 ?_
    show Go _ _ _ _
    refine Go_any mixed [2] [(0, false), (1, false), (3, false), (4, false), (2, true), (5, false), (6, true), (7, false), (8, false), (9, false)] rfl (by kernel_rfl) (by kernel_rfl) [] (FrmX hfs) (FrmX.stable _) (fun w hm _ => ⟨trivial, FrmX.of_mod hm⟩) ?_
    refine VC_sound tabOk 100 ?_
    refine Go_aloneM rfl rfl rfl (OpTo_pcall (v := .int .i64 1) rfl rfl rfl rfl rfl (by kernel_rfl) (fun w hm _ => spool_after bs a b c 0 w (hm.blk_at (i := 0) rfl) (by omega)) ?_)
    refine VC_sound tabOk 100 ?_
    refine ⟨⟨by omega, by omega⟩, ?_⟩
    (repeat (first | refine Or.inl ⟨rfl, rfl, ?_⟩ | refine Or.inl ⟨rfl, ?_⟩ | refine Or.inr ?_))
    refine ⟨fun g1 => ?_, fun g1 => ?_⟩
    · have g1 : b.xs = [] := by simpa using g1
      refine Go_ops rfl (OpTo_pcall (v := .int .i64 1) rfl rfl rfl rfl rfl (by kernel_rfl) (fun w hm _ => spool_after bs a b c 0 w (hm.blk_at (i := 0) rfl) (by omega)) ?_)
      refine VC_sound tabOk 100 ?_
      (repeat (first | refine Or.inl ⟨rfl, rfl, ?_⟩ | refine Or.inl ⟨rfl, ?_⟩ | refine Or.inr ?_))
      exact ⟨_, .inl ⟨g1, rfl, rfl⟩, fun _ _ h => h⟩
    · have g1 : b.xs ≠ [] := fun h => by rw [h] at g1; simp at g1
      refine ⟨fun g2 => ?_, fun g2 => ?_⟩
      · exact ⟨_, .inr (.inl ⟨g1, by simpa using g2, rfl, rfl⟩), fun _ _ h => h⟩
      · refine Go_any mixed [2, 6] [(0, false), (1, false), (3, false), (4, false), (2, true), (5, false), (6, true)] rfl (by kernel_rfl) (by kernel_rfl) [] (FrmX hfs) (FrmX.stable _) (fun w hm _ => ⟨trivial, FrmX.of_mod hm⟩) ?_
        refine VC_sound tabOk 100 ?_
        refine Go_aloneM rfl rfl rfl (OpTo_pcall (v := .int .i64 1) rfl rfl rfl rfl rfl (by kernel_rfl) (fun w hm _ => spool_after bs a b c 0 w (hm.blk_at (i := 0) rfl) (by omega)) ?_)
        refine VC_sound tabOk 100 ?_
        refine ⟨⟨by omega, by omega⟩, ?_⟩
        (repeat (first | refine Or.inl ⟨rfl, rfl, ?_⟩ | refine Or.inl ⟨rfl, ?_⟩ | refine Or.inr ?_))
        refine ⟨_, .inr (.inr ⟨g1, by simpa using g2, rfl, rfl⟩), fun hfs w h => ?_⟩
        exact ((h.own_nil (enc := encE) (k := 8) (T := 65) none).sel [1, 2, 0, 4] rfl)
  · refine VC_sound tabOk 100 ?_
    show Go _ _ _ _
    refine Go_any mixed [2] [(0, false), (1, false), (3, false), (4, false), (2, true), (5, false), (6, true), (7, false), (8, false), (9, false)] rfl (by kernel_rfl) (by kernel_rfl) [] (FrmX hfs) (FrmX.stable _) (fun w hm _ => ⟨trivial, FrmX.of_mod hm⟩) ?_
    refine VC_sound tabOk 100 ?_
    refine Go_aloneM rfl rfl rfl (OpTo_pcall (v := .int .i64 2) rfl rfl rfl rfl rfl (by kernel_rfl) (fun w hm _ => spool_after bs a b c 1 w (hm.blk_at (i := 0) rfl) (by omega)) ?_)
    refine VC_sound tabOk 100 ?_
    refine ⟨⟨by omega, by omega⟩, ?_⟩
    (repeat (first | refine Or.inl ⟨rfl, rfl, ?_⟩ | refine Or.inl ⟨rfl, ?_⟩ | refine Or.inr ?_))
    refine ⟨fun g1 => ?_, fun g1 => ?_⟩
    · have g1 : c.xs = [] := by simpa using g1
      refine Go_ops rfl (OpTo_pcall (v := .int .i64 2) rfl rfl rfl rfl rfl (by kernel_rfl) (fun w hm _ => spool_after bs a b c 1 w (hm.blk_at (i := 0) rfl) (by omega)) ?_)
      refine VC_sound tabOk 100 ?_
      (repeat (first | refine Or.inl ⟨rfl, rfl, ?_⟩ | refine Or.inl ⟨rfl, ?_⟩ | refine Or.inr ?_))
      exact ⟨_, .inl ⟨g1, rfl, rfl⟩, fun _ _ h => h⟩
    · have g1 : c.xs ≠ [] := fun h => by rw [h] at g1; simp at g1
      refine ⟨fun g2 => ?_, fun g2 => ?_⟩
      · exact ⟨_, .inr (.inl ⟨g1, by simpa using g2, rfl, rfl⟩), fun _ _ h => h⟩
      · refine Go_any mixed [2, 6] [(0, false), (1, false), (3, false), (4, false), (2, true), (5, false), (6, true)] rfl (by kernel_rfl) (by kernel_rfl) [] (FrmX hfs) (FrmX.stable _) (fun w hm _ => ⟨trivial, FrmX.of_mod hm⟩) ?_
        refine VC_sound tabOk 100 ?_
        refine Go_aloneM rfl rfl rfl (OpTo_pcall (v := .int .i64 2) rfl rfl rfl rfl rfl (by kernel_rfl) (fun w hm _ => spool_after bs a b c 1 w (hm.blk_at (i := 0) rfl) (by omega)) ?_)
        refine VC_sound tabOk 100 ?_
        refine ⟨⟨by omega, by omega⟩, ?_⟩
        (repeat (first | refine Or.inl ⟨rfl, rfl, ?_⟩ | refine Or.inl ⟨rfl, ?_⟩ | refine Or.inr ?_))
        refine ⟨_, .inr (.inr ⟨g1, by simpa using g2, rfl, rfl⟩), fun hfs w h => ?_⟩
        exact ((h.own_nil (enc := encE) (k := 8) (T := 65) none).sel [1, 2, 3, 0] rfl)
  · refine VC_sound tabOk 100 ?_
    show Go _ _ _ _
    refine Go_any mixed [2] [(0, false), (1, false), (3, false), (4, false), (2, true), (5, false), (6, true), (7, false), (8, false), (9, false)] rfl (by kernel_rfl) (by kernel_rfl) [] (FrmX hfs) (FrmX.stable _) (fun w hm _ => ⟨trivial, FrmX.of_mod hm⟩) ?_
    refine VC_sound tabOk 100 ?_
    refine Go_aloneM rfl rfl rfl (OpTo_pcall (v := .int .i64 0) rfl rfl rfl rfl rfl (by kernel_rfl) (fun w hm _ => spool_after bs a b c 2 w (hm.blk_at (i := 0) rfl) (by omega)) ?_)
    refine VC_sound tabOk 100 ?_
    refine ⟨⟨by omega, by omega⟩, ?_⟩
    (repeat (first | refine Or.inl ⟨rfl, rfl, ?_⟩ | refine Or.inl ⟨rfl, ?_⟩ | refine Or.inr ?_))
    refine ⟨fun g1 => ?_, fun g1 => ?_⟩
    · have g1 : a.xs = [] := by simpa using g1
      refine Go_ops rfl (OpTo_pcall (v := .int .i64 0) rfl rfl rfl rfl rfl (by kernel_rfl) (fun w hm _ => spool_after bs a b c 2 w (hm.blk_at (i := 0) rfl) (by omega)) ?_)
      refine VC_sound tabOk 100 ?_
      (repeat (first | refine Or.inl ⟨rfl, rfl, ?_⟩ | refine Or.inl ⟨rfl, ?_⟩ | refine Or.inr ?_))
      exact ⟨_, .inl ⟨g1, rfl, rfl⟩, fun _ _ h => h⟩
    · have g1 : a.xs ≠ [] := fun h => by rw [h] at g1; simp at g1
      refine ⟨fun g2 => ?_, fun g2 => ?_⟩
      · exact ⟨_, .inr (.inl ⟨g1, by simpa using g2, rfl, rfl⟩), fun _ _ h => h⟩
      · refine Go_any mixed [2, 6] [(0, false), (1, false), (3, false), (4, false), (2, true), (5, false), (6, true)] rfl (by kernel_rfl) (by kernel_rfl) [] (FrmX hfs) (FrmX.stable _) (fun w hm _ => ⟨trivial, FrmX.of_mod hm⟩) ?_
        refine VC_sound tabOk 100 ?_
        refine Go_aloneM rfl rfl rfl (OpTo_pcall (v := .int .i64 0) rfl rfl rfl rfl rfl (by kernel_rfl) (fun w hm _ => spool_after bs a b c 2 w (hm.blk_at (i := 0) rfl) (by omega)) ?_)
        refine VC_sound tabOk 100 ?_
        refine ⟨⟨by omega, by omega⟩, ?_⟩
        (repeat (first | refine Or.inl ⟨rfl, rfl, ?_⟩ | refine Or.inl ⟨rfl, ?_⟩ | refine Or.inr ?_))
        refine ⟨_, .inr (.inr ⟨g1, by simpa using g2, rfl, rfl⟩), fun hfs w h => ?_⟩
        exact ((h.own_nil (enc := encE) (k := 8) (T := 65) none).sel [1, 0, 3, 4] rfl)
end Go.Proofs.YthpcahgdobnljaaGreat.Sp
