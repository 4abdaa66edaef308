/- Texts of layer 15 put together (P10, P13, P14). -/
import Derived.Test.YthpcahgdobnljaaGreatQJ
import Derived.Test.YthpcahgdobnljaaGreatME
import Derived.Test.YthpcahgdobnljaaGreatR09
import Derived.Test.YthpcahgdobnljaaGreatMF
import Derived.Test.YthpcahgdobnljaaGreatRxB
import Derived.Test.YthpcahgdobnljaaGreatL14b
/- What the reference of layer 10 does. -/
set_option maxRecDepth 100000
set_option autoImplicit false
set_option linter.unusedVariables false
set_option linter.unusedSimpArgs false
namespace Go.Proofs.YthpcahgdobnljaaGreat.Sp
open Go.RX Go Go.RowKit


def rsR (G : QJ) (T : Tbs) (cur : Nat) : List Res := [.blk G.b 100 [G.v0, T.1.v, T.2.1.v, T.2.2.v, .int .i64 cur, G.v5, G.v6, G.v7, G.v8, G.v9], T.1.r, T.2.1.r, T.2.2.r]
theorem cellT (G : QJ) (T : Tbs) (cur : Nat) (i : Nat) (hi : i < 3) (ti : TyI) (hti : tlook tab 72 = some ti) : partL ti [G.v0, T.1.v, T.2.1.v, T.2.2.v, .int .i64 cur, G.v5, G.v6, G.v7, G.v8, G.v9] (1 + 0 + ((i : Int).toNat * 1)) = some (get3 T i).v := by
  have : ti = (tlook tab 72).get rfl := by rw [Option.eq_some_iff_get_eq.1 hti |>.2]
  subst this
  have : i = 0 ∨ i = 1 ∨ i = 2 := by omega
  rcases this with rfl | rfl | rfl <;> rfl

set_option maxHeartbeats 4000000 in
theorem r10_addTo (G : QJ) (T : Tbs) (cur i : Nat) (e : EventM) (w0 : World) (hfs : List PH) (hm : Mod hfs (rsR G T cur) w0) (hi : i < 3) (hl : len3 T ≤ 100000) :
    Calls Tryz.prog 112 #[.pointer (some ⟨G.b, 1, none⟩), .int .i64 i, mkE e] w0 fun e' w' => ∃ v Rs', e' = .returned v ∧ (∃ A' c', v = .int .i64 0 ∧ Rs' = rsR G (set3 T i ⟨A', c', (get3 T i).xs ++ [e]⟩) cur) ∧ Mod hfs Rs' w' ∧ Oth w0 w' := by
  have hle0 := len3_le T 0 (by omega)
  have hle1 := len3_le T 1 (by omega)
  have hle2 := len3_le T 2 (by omega)
  simp only [get3, pick3] at hle0 hle1 hle2
  refine enterN (tab := tab) Tryz.func112 rfl Tryz.ntmps112 rfl (args := [_, _, _]) rfl hm ?_
  have hi' : i = 0 ∨ i = 1 ∨ i = 2 := by omega
  rcases hi' with rfl | rfl | rfl
  · refine VC_sound tabOk 100 ?_
    intro b5 _
    refine ⟨fun h => by simp at h, fun _ => ?_⟩
    refine ⟨fun h => by simp at h, fun _ => ?_⟩
    refine ⟨⟨by omega, by omega⟩, ?_⟩
    (repeat (first | refine Or.inl ⟨rfl, rfl, ?_⟩ | refine Or.inl ⟨rfl, ?_⟩ | refine Or.inr ?_))
    refine Go_res [own encE 8 65 none 0 [], .blk b5 65 (encE e), .blk G.b 100 [G.v0, T.1.v, T.2.1.v, T.2.2.v, .int .i64 cur, G.v5, G.v6, G.v7, G.v8, G.v9], T.1.r, T.2.1.r, T.2.2.r] (fun w h => h.own_nil none) ?_
    show Go _ _ _ _
    refine Go_ops rfl (OpTo_append tabOk encE_is (xs := []) (ys := T.1.xs) (i := 0) rfl rfl rfl rfl rfl rfl rfl rfl rfl rfl rfl (fun w hm _ => hm.own_rd (i := 3) rfl) (by simp; omega) (by simp; omega) (fun A1 c1 => ?_))
    rw [List.nil_append]
    refine VC_sound tabOk 100 ?_
    refine Go_res [own encE 8 65 A1 c1 T.1.xs, .blk b5 65 (encE e), .blk G.b 100 [G.v0, T.1.v, T.2.1.v, T.2.2.v, .int .i64 cur, G.v5, G.v6, G.v7, G.v8, G.v9], T.1.r, T.2.1.r, T.2.2.r] (fun w h => h) ?_
    show Go _ _ _ _
    refine Go_any mixed [5, 9] [(0, false), (1, false), (2, false), (6, false), (7, false), (3, false), (4, true), (5, true), (8, false), (9, true)] rfl (by kernel_rfl) (by kernel_rfl) [.blk b5 65 (encE e), .blk G.b 100 [G.v0, T.1.v, T.2.1.v, T.2.2.v, .int .i64 cur, G.v5, G.v6, G.v7, G.v8, G.v9]] (FrmX hfs) (FrmX.stable _) (fun w hm _ => ⟨Holds.of_idx [1, 2] hm, FrmX.of_mod hm⟩) ?_
    refine VC_sound tabOk 100 ?_
    (repeat (first | refine Or.inl ⟨rfl, rfl, ?_⟩ | refine Or.inl ⟨rfl, ?_⟩ | refine Or.inr ?_))
    intro b9 _
    refine Go_aloneM rfl rfl rfl (OpTo_append tabOk encE_is (ys := [e]) (i := 1) rfl rfl rfl rfl rfl rfl rfl rfl rfl (by simp) rfl (fun w hm _ => hm.blk_rd (i := 0) rfl) (by simp; omega) (by simp; omega) (fun A2 c2 => ?_))
    refine VC_sound tabOk 100 ?_
    refine ⟨⟨by omega, by omega⟩, ?_⟩
    (repeat (first | refine Or.inl ⟨rfl, rfl, ?_⟩ | refine Or.inl ⟨rfl, ?_⟩ | refine Or.inr ?_))
    refine ⟨_, ⟨A2, c2, rfl, rfl⟩, fun hfs w h => ?_⟩
    have h := h.sel [3, 1, 5, 6] rfl
    rw [show 0 + T.1.xs.length + 1 = (T.1.xs ++ [e]).length by simp] at h
    exact h
  · refine VC_sound tabOk 100 ?_
    intro b5 _
    refine ⟨fun h => by simp at h, fun _ => ?_⟩
    refine ⟨fun h => by simp at h, fun _ => ?_⟩
    refine ⟨⟨by omega, by omega⟩, ?_⟩
    (repeat (first | refine Or.inl ⟨rfl, rfl, ?_⟩ | refine Or.inl ⟨rfl, ?_⟩ | refine Or.inr ?_))
    refine Go_res [own encE 8 65 none 0 [], .blk b5 65 (encE e), .blk G.b 100 [G.v0, T.1.v, T.2.1.v, T.2.2.v, .int .i64 cur, G.v5, G.v6, G.v7, G.v8, G.v9], T.1.r, T.2.1.r, T.2.2.r] (fun w h => h.own_nil none) ?_
    show Go _ _ _ _
    refine Go_ops rfl (OpTo_append tabOk encE_is (xs := []) (ys := T.2.1.xs) (i := 0) rfl rfl rfl rfl rfl rfl rfl rfl rfl rfl rfl (fun w hm _ => hm.own_rd (i := 4) rfl) (by simp; omega) (by simp; omega) (fun A1 c1 => ?_))
    rw [List.nil_append]
    refine VC_sound tabOk 100 ?_
    refine Go_res [own encE 8 65 A1 c1 T.2.1.xs, .blk b5 65 (encE e), .blk G.b 100 [G.v0, T.1.v, T.2.1.v, T.2.2.v, .int .i64 cur, G.v5, G.v6, G.v7, G.v8, G.v9], T.1.r, T.2.1.r, T.2.2.r] (fun w h => h) ?_
    show Go _ _ _ _
    refine Go_any mixed [5, 9] [(0, false), (1, false), (2, false), (6, false), (7, false), (3, false), (4, true), (5, true), (8, false), (9, true)] rfl (by kernel_rfl) (by kernel_rfl) [.blk b5 65 (encE e), .blk G.b 100 [G.v0, T.1.v, T.2.1.v, T.2.2.v, .int .i64 cur, G.v5, G.v6, G.v7, G.v8, G.v9]] (FrmX hfs) (FrmX.stable _) (fun w hm _ => ⟨Holds.of_idx [1, 2] hm, FrmX.of_mod hm⟩) ?_
    refine VC_sound tabOk 100 ?_
    (repeat (first | refine Or.inl ⟨rfl, rfl, ?_⟩ | refine Or.inl ⟨rfl, ?_⟩ | refine Or.inr ?_))
    intro b9 _
    refine Go_aloneM rfl rfl rfl (OpTo_append tabOk encE_is (ys := [e]) (i := 1) rfl rfl rfl rfl rfl rfl rfl rfl rfl (by simp) rfl (fun w hm _ => hm.blk_rd (i := 0) rfl) (by simp; omega) (by simp; omega) (fun A2 c2 => ?_))
    refine VC_sound tabOk 100 ?_
    refine ⟨⟨by omega, by omega⟩, ?_⟩
    (repeat (first | refine Or.inl ⟨rfl, rfl, ?_⟩ | refine Or.inl ⟨rfl, ?_⟩ | refine Or.inr ?_))
    refine ⟨_, ⟨A2, c2, rfl, rfl⟩, fun hfs w h => ?_⟩
    have h := h.sel [3, 4, 1, 6] rfl
    rw [show 0 + T.2.1.xs.length + 1 = (T.2.1.xs ++ [e]).length by simp] at h
    exact h
  · refine VC_sound tabOk 100 ?_
    intro b5 _
    refine ⟨fun h => by simp at h, fun _ => ?_⟩
    refine ⟨fun h => by simp at h, fun _ => ?_⟩
    refine ⟨⟨by omega, by omega⟩, ?_⟩
    (repeat (first | refine Or.inl ⟨rfl, rfl, ?_⟩ | refine Or.inl ⟨rfl, ?_⟩ | refine Or.inr ?_))
    refine Go_res [own encE 8 65 none 0 [], .blk b5 65 (encE e), .blk G.b 100 [G.v0, T.1.v, T.2.1.v, T.2.2.v, .int .i64 cur, G.v5, G.v6, G.v7, G.v8, G.v9], T.1.r, T.2.1.r, T.2.2.r] (fun w h => h.own_nil none) ?_
    show Go _ _ _ _
    refine Go_ops rfl (OpTo_append tabOk encE_is (xs := []) (ys := T.2.2.xs) (i := 0) rfl rfl rfl rfl rfl rfl rfl rfl rfl rfl rfl (fun w hm _ => hm.own_rd (i := 5) rfl) (by simp; omega) (by simp; omega) (fun A1 c1 => ?_))
    rw [List.nil_append]
    refine VC_sound tabOk 100 ?_
    refine Go_res [own encE 8 65 A1 c1 T.2.2.xs, .blk b5 65 (encE e), .blk G.b 100 [G.v0, T.1.v, T.2.1.v, T.2.2.v, .int .i64 cur, G.v5, G.v6, G.v7, G.v8, G.v9], T.1.r, T.2.1.r, T.2.2.r] (fun w h => h) ?_
    show Go _ _ _ _
    refine Go_any mixed [5, 9] [(0, false), (1, false), (2, false), (6, false), (7, false), (3, false), (4, true), (5, true), (8, false), (9, true)] rfl (by kernel_rfl) (by kernel_rfl) [.blk b5 65 (encE e), .blk G.b 100 [G.v0, T.1.v, T.2.1.v, T.2.2.v, .int .i64 cur, G.v5, G.v6, G.v7, G.v8, G.v9]] (FrmX hfs) (FrmX.stable _) (fun w hm _ => ⟨Holds.of_idx [1, 2] hm, FrmX.of_mod hm⟩) ?_
    refine VC_sound tabOk 100 ?_
    (repeat (first | refine Or.inl ⟨rfl, rfl, ?_⟩ | refine Or.inl ⟨rfl, ?_⟩ | refine Or.inr ?_))
    intro b9 _
    refine Go_aloneM rfl rfl rfl (OpTo_append tabOk encE_is (ys := [e]) (i := 1) rfl rfl rfl rfl rfl rfl rfl rfl rfl (by simp) rfl (fun w hm _ => hm.blk_rd (i := 0) rfl) (by simp; omega) (by simp; omega) (fun A2 c2 => ?_))
    refine VC_sound tabOk 100 ?_
    refine ⟨⟨by omega, by omega⟩, ?_⟩
    (repeat (first | refine Or.inl ⟨rfl, rfl, ?_⟩ | refine Or.inl ⟨rfl, ?_⟩ | refine Or.inr ?_))
    refine ⟨_, ⟨A2, c2, rfl, rfl⟩, fun hfs w h => ?_⟩
    have h := h.sel [3, 4, 5, 1] rfl
    rw [show 0 + T.2.2.xs.length + 1 = (T.2.2.xs ++ [e]).length by simp] at h
    exact h

set_option maxHeartbeats 2000000 in
theorem r10_all (G : QJ) (T : Tbs) (cur : Nat) (w0 : World) (hfs : List PH) (hm : Mod hfs (rsR G T cur) w0) (hl : len3 T ≤ 10000) :
    Calls Tryz.prog 77 #[.pointer (some ⟨G.b, 1, none⟩)] w0 fun e w' => ∃ v Rs', e = .returned v ∧ (∃ ys A' c', SrtR (pre3 T.1 T.2.1 T.2.2 3) ys ∧ v = .slice A' ys.length c' ∧ Rs' = own encE 8 65 A' c' ys :: rsR G T cur) ∧ Mod hfs Rs' w' ∧ Oth w0 w' := by
  have hp3 := pre3_len T
  have hbd : ∀ i, i < 3 → (pre3 T.1 T.2.1 T.2.2 i).length + (get3 T i).xs.length = (pre3 T.1 T.2.1 T.2.2 (i + 1)).length := fun i hi => by rw [pre3_succ _ _ _ i hi]; simp
  have hup : ∀ i, i ≤ 3 → (pre3 T.1 T.2.1 T.2.2 i).length ≤ 10000 := fun i hi => by
    have e0 := hbd 0 (by omega); have e1 := hbd 1 (by omega); have e2 := hbd 2 (by omega)
    simp only [Nat.zero_add, Nat.reduceAdd] at e0 e1 e2
    have : i = 0 ∨ i = 1 ∨ i = 2 ∨ i = 3 := by omega
    rcases this with rfl | rfl | rfl | rfl <;> omega
  refine enterN (tab := tab) Tryz.func77 rfl Tryz.ntmps77 rfl (args := [_]) rfl hm ?_
  refine VC_sound tabOk 100 ?_
  refine Go_loop (σ := Nat × Option Addr × Nat) (fun s => [(0, .v (.pointer (some ⟨G.b, 1, none⟩))), (3, .v (.slice s.2.1 (pre3 T.1 T.2.1 T.2.2 s.1).length s.2.2)), (4, .v (.int .i64 s.1))]) (fun s => own encE 8 65 s.2.1 s.2.2 (pre3 T.1 T.2.1 T.2.2 s.1) :: rsR G T cur) (fun s => s.1 ≤ 3) (fun s => 3 - s.1) (0, none, 0) (by simp) ⟨rfl, rfl, rfl, trivial⟩ (fun _ h => h.own_nil none) ?_
  rintro ⟨i, A2, c2⟩ hi
  dsimp only at hi ⊢
  refine VC_sound tabOk 100 ?_
  refine ⟨fun hc => ?_, fun hc => ?_⟩
  · have hlt : i < 3 := by have := of_decide_eq_true hc; omega
    have e1 := hbd i hlt
    have e2 := hup (i + 1) (by omega)
    refine ⟨⟨by omega, by omega⟩, ?_⟩
    refine Or.inr ?_
    refine Go_ops rfl (OpTo_loadBlk tabOk (cs := [G.v0, T.1.v, T.2.1.v, T.2.2.v, .int .i64 cur, G.v5, G.v6, G.v7, G.v8, G.v9]) (get3 T i).v rfl rfl rfl (fun w hm _ => hm.blk_at (i := 1) rfl) (cellT G T cur i hlt _ rfl) ?_)
    refine VC_sound tabOk 100 ?_
    show Go _ _ _ _
    refine Go_ops rfl (OpTo_append tabOk encE_is (ys := (get3 T i).xs) (i := 0) rfl rfl rfl rfl rfl rfl rfl rfl rfl rfl rfl (fun w hm _ => by
      have : i = 0 ∨ i = 1 ∨ i = 2 := by omega
      rcases this with rfl | rfl | rfl
      · exact hm.own_rd (i := 2) rfl
      · exact hm.own_rd (i := 3) rfl
      · exact hm.own_rd (i := 4) rfl) (by simp; omega) (by omega) (fun A3 c3 => ?_))
    refine VC_sound tabOk 100 ?_
    refine ⟨_, wrap_i64 (n := (i : Int) + 1) (by omega) (by omega), ?_⟩
    refine Go_fin (i + 1, A3, c3) (by dsimp only; omega) (by dsimp only; omega) ⟨rfl, ?_, rfl, trivial⟩ (fun _ h => by dsimp only; rw [pre3_succ _ _ _ i hlt]; exact h)
    dsimp only; rw [← e1]
  have he : i = 3 := by have := of_decide_eq_false hc; omega
  subst he
  show Go _ _ _ _
  refine Go_ops rfl (OpTo_ncall rfl rfl rfl rfl rfl (by kernel_rfl) (fun w hm _ => r09_sort A2 c2 (pre3 T.1 T.2.1 T.2.2 3) w (hm.own_rd (i := 0) rfl) (by omega)) ?_)
  rintro _ _ ⟨ys, hS, A1, c1, rfl, rfl⟩
  refine VC_sound tabOk 100 ?_
  exact ⟨_, ⟨ys, A1, c1, hS, by rw [hS.2.2]; rfl, rfl⟩, fun _ _ h => h.sel [0, 2, 3, 4, 5] rfl⟩

set_option maxHeartbeats 2000000 in
theorem r10_next (G : QJ) (T : Tbs) (cur : Nat) (w0 : World) (hfs : List PH) (hm : Mod hfs (rsR G T cur) w0) (hi : cur < 3) :
    Calls Tryz.prog 128 #[.pointer (some ⟨G.b, 1, none⟩)] w0 fun e w' => ∃ v Rs', e = .returned v ∧ (v = (get3 T (nxt cur)).v ∧ Rs' = rsR G T cur) ∧ Mod hfs Rs' w' ∧ Oth w0 w' := by
  have hn : nxt cur < 3 := by simp only [nxt]; omega
  refine enterN (tab := tab) Tryz.func128 rfl Tryz.ntmps128 rfl (args := [_]) rfl hm ?_
  refine VC_sound tabOk 100 ?_
  show Go _ _ _ _
  refine Go_any mixed [] [(0, false), (1, false), (2, false), (3, false), (7, false), (8, false), (4, false), (5, false), (6, false), (9, false), (10, false), (11, false)] rfl (by kernel_rfl) (by kernel_rfl) [.blk G.b 100 [G.v0, T.1.v, T.2.1.v, T.2.2.v, .int .i64 cur, G.v5, G.v6, G.v7, G.v8, G.v9]] (fun _ => True) (fun _ _ _ h => h) (fun w hm _ => ⟨Holds.of_idx [0] hm, trivial⟩) ?_
  refine VC_sound tabOk 100 ?_
  (repeat (first | refine Or.inl ⟨rfl, rfl, ?_⟩ | refine Or.inl ⟨rfl, ?_⟩ | refine Or.inr ?_))
  refine ⟨_, wrap_i64 (n := (cur : Int) + 1) (by omega) (by omega), ?_⟩
  refine ⟨by decide, (nxt cur : Nat), ?_, ?_⟩
  · rw [Int.tmod_eq_emod_of_nonneg (by omega)]; simp [nxt]
  refine ⟨⟨by omega, by omega⟩, ?_⟩
  have : cur = 0 ∨ cur = 1 ∨ cur = 2 := by omega
  rcases this with rfl | rfl | rfl
  · (repeat (first | refine Or.inl ⟨rfl, rfl, ?_⟩ | refine Or.inl ⟨rfl, ?_⟩ | refine Or.inr ?_))
    exact ⟨_, ⟨rfl, rfl⟩, fun _ _ h => h⟩
  · (repeat (first | refine Or.inl ⟨rfl, rfl, ?_⟩ | refine Or.inl ⟨rfl, ?_⟩ | refine Or.inr ?_))
    exact ⟨_, ⟨rfl, rfl⟩, fun _ _ h => h⟩
  · (repeat (first | refine Or.inl ⟨rfl, rfl, ?_⟩ | refine Or.inl ⟨rfl, ?_⟩ | refine Or.inr ?_))
    exact ⟨_, ⟨rfl, rfl⟩, fun _ _ h => h⟩

set_option maxHeartbeats 4000000 in
theorem r10_rotate (G : QJ) (T : Tbs) (cur : Nat) (free : Bool) (w0 : World) (hfs : List PH) (hm : Mod hfs (rsR G T cur) w0) (hi : cur < 3) :
    Calls Tryz.prog 66 #[.pointer (some ⟨G.b, 1, none⟩), .bool free] w0 fun e w' => ∃ v Rs', e = .returned v ∧ (((get3 T (nxt cur)).xs = [] ∧ v = .tuple #[.int .u8 2, .int .i64 0] ∧ Rs' = rsR G T (nxt cur)) ∨ ((get3 T (nxt cur)).xs ≠ [] ∧ free = false ∧ v = .tuple #[.int .u8 0, .int .i64 9] ∧ Rs' = rsR G T cur) ∨ ((get3 T (nxt cur)).xs ≠ [] ∧ free = true ∧ v = .tuple #[.int .u8 1, .int .i64 0] ∧ Rs' = rsR G (set3 T (nxt cur) noTb) cur)) ∧ Mod hfs Rs' w' ∧ Oth w0 w' := by
  refine enterN (tab := tab) Tryz.func66 rfl Tryz.ntmps66 rfl (args := [_, _]) rfl hm ?_
  have : cur = 0 ∨ cur = 1 ∨ cur = 2 := by omega
  rcases this with rfl | rfl | rfl
  · refine VC_sound tabOk 100 ?_
    (repeat (first | refine Or.inl ⟨rfl, rfl, ?_⟩ | refine Or.inl ⟨rfl, ?_⟩ | refine Or.inr ?_))
    refine ⟨_, wrap_i64 (n := ((0 : Nat) : Int) + 1) (by omega) (by omega), ?_⟩
    refine ⟨by decide, 1, rfl, ?_⟩
    refine ⟨⟨by omega, by omega⟩, ?_⟩
    (repeat (first | refine Or.inl ⟨rfl, rfl, ?_⟩ | refine Or.inl ⟨rfl, ?_⟩ | refine Or.inr ?_))
    refine ⟨fun g1 => ?_, fun g1 => ?_⟩
    · have g1 : T.2.1.xs = [] := by simpa using g1
      (repeat (first | refine Or.inl ⟨rfl, rfl, ?_⟩ | refine Or.inl ⟨rfl, ?_⟩ | refine Or.inr ?_))
      exact ⟨_, .inl ⟨g1, rfl, rfl⟩, fun _ _ h => h⟩
    · have g1 : T.2.1.xs ≠ [] := fun h => by rw [h] at g1; simp at g1
      refine ⟨fun g2 => ?_, fun g2 => ?_⟩
      · exact ⟨_, .inr (.inl ⟨g1, by simpa using g2, rfl, rfl⟩), fun _ _ h => h⟩
      · refine ⟨⟨by omega, by omega⟩, ?_⟩
        (repeat (first | refine Or.inl ⟨rfl, rfl, ?_⟩ | refine Or.inl ⟨rfl, ?_⟩ | refine Or.inr ?_))
        refine ⟨_, .inr (.inr ⟨g1, by simpa using g2, rfl, rfl⟩), fun hfs w h => ?_⟩
        exact ((h.own_nil (enc := encE) (k := 8) (T := 65) none).sel [1, 2, 0, 4] rfl)
  · refine VC_sound tabOk 100 ?_
    (repeat (first | refine Or.inl ⟨rfl, rfl, ?_⟩ | refine Or.inl ⟨rfl, ?_⟩ | refine Or.inr ?_))
    refine ⟨_, wrap_i64 (n := ((1 : Nat) : Int) + 1) (by omega) (by omega), ?_⟩
    refine ⟨by decide, 2, rfl, ?_⟩
    refine ⟨⟨by omega, by omega⟩, ?_⟩
    (repeat (first | refine Or.inl ⟨rfl, rfl, ?_⟩ | refine Or.inl ⟨rfl, ?_⟩ | refine Or.inr ?_))
    refine ⟨fun g1 => ?_, fun g1 => ?_⟩
    · have g1 : T.2.2.xs = [] := by simpa using g1
      (repeat (first | refine Or.inl ⟨rfl, rfl, ?_⟩ | refine Or.inl ⟨rfl, ?_⟩ | refine Or.inr ?_))
      exact ⟨_, .inl ⟨g1, rfl, rfl⟩, fun _ _ h => h⟩
    · have g1 : T.2.2.xs ≠ [] := fun h => by rw [h] at g1; simp at g1
      refine ⟨fun g2 => ?_, fun g2 => ?_⟩
      · exact ⟨_, .inr (.inl ⟨g1, by simpa using g2, rfl, rfl⟩), fun _ _ h => h⟩
      · refine ⟨⟨by omega, by omega⟩, ?_⟩
        (repeat (first | refine Or.inl ⟨rfl, rfl, ?_⟩ | refine Or.inl ⟨rfl, ?_⟩ | refine Or.inr ?_))
        refine ⟨_, .inr (.inr ⟨g1, by simpa using g2, rfl, rfl⟩), fun hfs w h => ?_⟩
        exact ((h.own_nil (enc := encE) (k := 8) (T := 65) none).sel [1, 2, 3, 0] rfl)
  · refine VC_sound tabOk 100 ?_
    (repeat (first | refine Or.inl ⟨rfl, rfl, ?_⟩ | refine Or.inl ⟨rfl, ?_⟩ | refine Or.inr ?_))
    refine ⟨_, wrap_i64 (n := ((2 : Nat) : Int) + 1) (by omega) (by omega), ?_⟩
    refine ⟨by decide, 0, rfl, ?_⟩
    refine ⟨⟨by omega, by omega⟩, ?_⟩
    (repeat (first | refine Or.inl ⟨rfl, rfl, ?_⟩ | refine Or.inl ⟨rfl, ?_⟩ | refine Or.inr ?_))
    refine ⟨fun g1 => ?_, fun g1 => ?_⟩
    · have g1 : T.1.xs = [] := by simpa using g1
      (repeat (first | refine Or.inl ⟨rfl, rfl, ?_⟩ | refine Or.inl ⟨rfl, ?_⟩ | refine Or.inr ?_))
      exact ⟨_, .inl ⟨g1, rfl, rfl⟩, fun _ _ h => h⟩
    · have g1 : T.1.xs ≠ [] := fun h => by rw [h] at g1; simp at g1
      refine ⟨fun g2 => ?_, fun g2 => ?_⟩
      · exact ⟨_, .inr (.inl ⟨g1, by simpa using g2, rfl, rfl⟩), fun _ _ h => h⟩
      · refine ⟨⟨by omega, by omega⟩, ?_⟩
        (repeat (first | refine Or.inl ⟨rfl, rfl, ?_⟩ | refine Or.inl ⟨rfl, ?_⟩ | refine Or.inr ?_))
        refine ⟨_, .inr (.inr ⟨g1, by simpa using g2, rfl, rfl⟩), fun hfs w h => ?_⟩
        exact ((h.own_nil (enc := encE) (k := 8) (T := 65) none).sel [1, 0, 3, 4] rfl)

theorem rs_rd {R : Res} {G : QJ} {T : Tbs} {cur : Nat} {hfs : List PH} {w : World} (hm : Mod hfs (R :: rsR G T cur) w) (i : Nat) (hi : i < 3) : RdW w (get3 T i).A ((get3 T i).xs.flatMap encE) := by
  have : i = 0 ∨ i = 1 ∨ i = 2 := by omega
  rcases this with rfl | rfl | rfl
  · exact hm.own_rd (i := 2) rfl
  · exact hm.own_rd (i := 3) rfl
  · exact hm.own_rd (i := 4) rfl
def ntx (x : Int) (xs : List EventM) : List EventM := xs.filter fun e => !decide (e.tx = x)
theorem ntx_len (x : Int) (xs : List EventM) : (ntx x xs).length ≤ xs.length := List.length_filter_le _ _

set_option maxHeartbeats 8000000 in
theorem r10_forget (G : QJ) (T : Tbs) (cur : Nat) (x : Int) (w0 : World) (hfs : List PH) (hm : Mod hfs (rsR G T cur) w0) (hl : len3 T ≤ 10000) :
    Calls Tryz.prog 53 #[.pointer (some ⟨G.b, 1, none⟩), .int .i64 x] w0 fun e w' => ∃ v Rs', e = .returned v ∧ (∃ S : Tbs, v = .int .i64 ((len3 T : Int) - len3 S) ∧ (∀ k, k < 3 → (get3 S k).xs = ntx x (get3 T k).xs) ∧ Rs' = rsR G S cur) ∧ Mod hfs Rs' w' ∧ Oth w0 w' := by
  refine enterN (tab := tab) Tryz.func53 rfl Tryz.ntmps53 rfl (args := [_, _]) rfl hm ?_
  refine VC_sound tabOk 100 ?_
  refine Go_loop (σ := Nat × Tbs) (fun s => [(0, .v (.pointer (some ⟨G.b, 1, none⟩))), (1, .v (.int .i64 x)), (5, .v (.int .i64 ((len3 T : Int) - len3 s.2))), (6, .v (.int .i64 s.1))]) (fun s => rsR G s.2 cur) (fun s => s.1 ≤ 3 ∧ len3 s.2 ≤ len3 T ∧ ∀ k, k < 3 → (get3 s.2 k).xs = if k < s.1 then ntx x (get3 T k).xs else (get3 T k).xs) (fun s => 3 - s.1) (0, T) ⟨Nat.zero_le _, Nat.le_refl _, fun k _ => by rw [if_neg (Nat.not_lt_zero _)]⟩ ⟨rfl, rfl, congrArg (Value.int .i64) (by dsimp only; omega), rfl, trivial⟩ (fun _ h => h) ?_
  rintro ⟨i, S⟩ ⟨hi, hS, hX⟩
  dsimp only at hi hS hX ⊢
  refine VC_sound tabOk 100 ?_
  refine ⟨fun hc => ?_, fun hc => ?_⟩
  · have hlt : i < 3 := by have := of_decide_eq_true hc; omega
    have hxi : (get3 S i).xs = (get3 T i).xs := by rw [hX i hlt, if_neg (Nat.lt_irrefl _)]
    have hle := len3_le S i hlt
    refine Go_res (own encE 8 65 none 0 [] :: rsR G S cur) (fun w h => h.own_nil none) ?_
    generalize hxs : (get3 S i).xs = xs at hle hxi
    refine Go_loop (σ := Nat × Option Addr × Nat) (fun s => [(0, .v (.pointer (some ⟨G.b, 1, none⟩))), (1, .v (.int .i64 x)), (5, .v (.int .i64 ((len3 T : Int) - len3 S + ((s.1 : Int) - (ntx x (xs.take s.1)).length)))), (6, .v (.int .i64 i)), (7, .v (.slice s.2.1 (ntx x (xs.take s.1)).length s.2.2)), (8, .v (.int .i64 s.1))]) (fun s => own encE 8 65 s.2.1 s.2.2 (ntx x (xs.take s.1)) :: rsR G S cur) (fun s => s.1 ≤ xs.length) (fun s => xs.length - s.1) (0, none, 0) (Nat.zero_le _) ⟨rfl, rfl, congrArg (Value.int .i64) (by simp [ntx]), rfl, rfl, rfl, trivial⟩ (fun _ h => h) ?_
    rintro ⟨j, A1, c1⟩ hj
    dsimp only at hj ⊢
    have hn1 := ntx_len x (xs.take j)
    rw [List.length_take] at hn1
    refine VC_sound tabOk 100 ?_
    refine ⟨⟨by omega, by omega⟩, ?_⟩
    refine Or.inr ?_
    refine Go_ops rfl (OpTo_loadBlk tabOk (cs := [G.v0, S.1.v, S.2.1.v, S.2.2.v, .int .i64 cur, G.v5, G.v6, G.v7, G.v8, G.v9]) (get3 S i).v rfl rfl rfl (fun w hm _ => hm.blk_at (i := 1) rfl) (cellT G S cur i hlt _ rfl) ?_)
    by_cases hjl : j < xs.length
    · obtain ⟨e, hge⟩ : ∃ e, xs[j]? = some e := ⟨_, List.getElem?_eq_getElem hjl⟩
      have hstep : ntx x (xs.take (j + 1)) = ntx x (xs.take j) ++ if e.tx = x then [] else [e] := by
        rw [List.take_add_one, hge, ntx, List.filter_append, ntx]
        congr 1
        by_cases h : e.tx = x <;> simp [h]
      refine Go_with _ (fun w hm _ => RdW.some encE_is (rs_rd hm i hlt) (by rw [hxs]; exact ne_nil_of_lt hjl)) ?_
      rintro ⟨bb, ob, hA⟩
      have hv : (get3 S i).v = .slice (some ⟨bb, ob, none⟩) xs.length (get3 S i).c := by rw [Tb.v, hA, hxs]
      have hrd : ∀ {hfs : List PH} {R : Res} {w : World}, Mod hfs (R :: rsR G S cur) w → RdW w (some ⟨bb, ob, none⟩) (xs.flatMap encE) := fun hm => by
        have := rs_rd hm i hlt
        rwa [hA, hxs] at this
      rw [hv]
      refine VC_sound tabOk 100 ?_
      refine ⟨fun _ => ?_, fun h => by simp at h; omega⟩
      refine ⟨⟨by omega, by omega⟩, ?_⟩
      refine Or.inr ?_
      refine Go_ops rfl (OpTo_loadBlk tabOk (cs := [G.v0, S.1.v, S.2.1.v, S.2.2.v, .int .i64 cur, G.v5, G.v6, G.v7, G.v8, G.v9]) (.slice (some ⟨bb, ob, none⟩) xs.length (get3 S i).c) rfl rfl rfl (fun w hm _ => hm.blk_at (i := 1) rfl) (by rw [← hv]; exact cellT G S cur i hlt _ rfl) ?_)
      refine VC_sound tabOk 100 ?_
      refine ⟨⟨by omega, by omega⟩, ?_⟩
      refine Or.inr ?_
      refine Go_ops rfl (OpTo_loadPart tabOk encE_is (n := j) (j := 1) (.int .i64 e.tx) rfl rfl rfl (fun w hm _ => hrd hm) hge rfl (by simp only [addA]; rfl) ?_)
      refine VC_sound tabOk 100 ?_
      refine ⟨fun h => ?_, fun h => ?_⟩
      · have h' := of_decide_eq_true h
        refine ⟨_, wrap_i64 (n := (len3 T : Int) - len3 S + ((j : Int) - (ntx x (xs.take j)).length) + 1) (by omega) (by omega), ?_⟩
        refine ⟨_, wrap_i64 (n := (j : Int) + 1) (by omega) (by omega), ?_⟩
        have e2 : ntx x (xs.take (j + 1)) = ntx x (xs.take j) := by rw [hstep, if_pos h', List.append_nil]
        exact Go_fin (j + 1, A1, c1) (by dsimp only; omega) (by dsimp only; omega) ⟨rfl, rfl, congrArg (Value.int .i64) (by dsimp only; rw [e2]; omega), rfl, (by dsimp only; rw [e2]), rfl, trivial⟩ (fun _ h => by dsimp only; rw [e2]; exact h)
      · have h' := of_decide_eq_false h
        have e2 : ntx x (xs.take (j + 1)) = ntx x (xs.take j) ++ [e] := by rw [hstep, if_neg h']
        refine ⟨⟨by omega, by omega⟩, ?_⟩
        refine Or.inr ?_
        refine Go_ops rfl (OpTo_loadBlk tabOk (cs := [G.v0, S.1.v, S.2.1.v, S.2.2.v, .int .i64 cur, G.v5, G.v6, G.v7, G.v8, G.v9]) (.slice (some ⟨bb, ob, none⟩) xs.length (get3 S i).c) rfl rfl rfl (fun w hm _ => hm.blk_at (i := 1) rfl) (by rw [← hv]; exact cellT G S cur i hlt _ rfl) ?_)
        refine VC_sound tabOk 100 ?_
        refine ⟨⟨by omega, by omega⟩, ?_⟩
        refine Or.inr ?_
        refine Go_ops rfl (OpTo_loadRow tabOk encE_is (mkE e) rfl rfl rfl rfl rfl (fun h => by first | rfl | cases h) (fun w hm _ => hrd hm) hge (by simp only [addA]; rfl) ?_)
        refine VC_sound tabOk 100 ?_
        intro b48 _
        show Go _ _ _ _
        refine Go_ops rfl (OpTo_append tabOk encE_is (ys := [e]) (i := 1) rfl rfl rfl rfl rfl rfl rfl rfl rfl rfl rfl (fun w hm _ => hm.blk_rd (i := 0) rfl) (by simp; omega) (by simp; omega) (fun A2 c2 => ?_))
        refine VC_sound tabOk 100 ?_
        refine ⟨_, wrap_i64 (n := (j : Int) + 1) (by omega) (by omega), ?_⟩
        exact Go_fin (j + 1, A2, c2) (by dsimp only; omega) (by dsimp only; omega) ⟨rfl, rfl, congrArg (Value.int .i64) (by dsimp only; rw [e2]; simp; omega), rfl, (by dsimp only; rw [e2]; simp [SV.val]), rfl, trivial⟩ (fun _ h => by dsimp only; rw [e2]; exact Mod.drop (a := [_]) h)
    have hje : j = xs.length := by omega
    subst hje
    rw [List.take_length] at hn1 ⊢
    have hv : (get3 S i).v = .slice (get3 S i).A xs.length (get3 S i).c := by rw [Tb.v, hxs]
    rw [hv]
    refine VC_sound tabOk 100 ?_
    refine ⟨fun h => by simp at h, fun _ => ?_⟩
    have hlen : len3 (set3 S i ⟨A1, c1, ntx x xs⟩) + xs.length = len3 S + (ntx x xs).length := by
      have : i = 0 ∨ i = 1 ∨ i = 2 := by omega
      rcases this with rfl | rfl | rfl <;> simp only [get3, pick3] at hxs <;> simp only [sum3, set3, hxs] <;> omega
    have hn2 := ntx_len x xs
    have inv : i + 1 ≤ 3 ∧ len3 (set3 S i ⟨A1, c1, ntx x xs⟩) ≤ len3 T ∧ ∀ k, k < 3 → (get3 (set3 S i ⟨A1, c1, ntx x xs⟩) k).xs = if k < i + 1 then ntx x (get3 T k).xs else (get3 T k).xs := by
      refine ⟨hlt, by omega, fun k hk => ?_⟩
      rw [get_set3 S i k _ hlt hk]
      by_cases hki : k = i
      · subst hki; rw [if_pos rfl, if_pos (by omega), hxi]
      · rw [if_neg hki, hX k hk]
        by_cases h : k < i
        · rw [if_pos h, if_pos (by omega)]
        · rw [if_neg h, if_neg (by omega)]
    refine ⟨⟨by omega, by omega⟩, ?_⟩
    have : i = 0 ∨ i = 1 ∨ i = 2 := by omega
    rcases this with rfl | rfl | rfl
    · (repeat (first | refine Or.inl ⟨rfl, rfl, ?_⟩ | refine Or.inl ⟨rfl, ?_⟩ | refine Or.inr ?_))
      refine ⟨_, wrap_i64 (n := ((0 : Nat) : Int) + 1) (by omega) (by omega), ?_⟩
      exact Go_fin (0 + 1, set3 S 0 ⟨A1, c1, ntx x xs⟩) inv (by dsimp only; omega) ⟨rfl, rfl, congrArg (Value.int .i64) (by dsimp only; omega), rfl, trivial⟩ (fun _ h => h.sel [1, 0, 3, 4] rfl)
    · (repeat (first | refine Or.inl ⟨rfl, rfl, ?_⟩ | refine Or.inl ⟨rfl, ?_⟩ | refine Or.inr ?_))
      refine ⟨_, wrap_i64 (n := ((1 : Nat) : Int) + 1) (by omega) (by omega), ?_⟩
      exact Go_fin (1 + 1, set3 S 1 ⟨A1, c1, ntx x xs⟩) inv (by dsimp only; omega) ⟨rfl, rfl, congrArg (Value.int .i64) (by dsimp only; omega), rfl, trivial⟩ (fun _ h => h.sel [1, 2, 0, 4] rfl)
    · (repeat (first | refine Or.inl ⟨rfl, rfl, ?_⟩ | refine Or.inl ⟨rfl, ?_⟩ | refine Or.inr ?_))
      refine ⟨_, wrap_i64 (n := ((2 : Nat) : Int) + 1) (by omega) (by omega), ?_⟩
      exact Go_fin (2 + 1, set3 S 2 ⟨A1, c1, ntx x xs⟩) inv (by dsimp only; omega) ⟨rfl, rfl, congrArg (Value.int .i64) (by dsimp only; omega), rfl, trivial⟩ (fun _ h => h.sel [1, 2, 3, 0] rfl)
  have he : i = 3 := by have := of_decide_eq_false hc; omega
  subst he
  exact ⟨_, ⟨S, rfl, fun k hk => by rw [hX k hk, if_pos hk], rfl⟩, fun _ _ h => h⟩
end Go.Proofs.YthpcahgdobnljaaGreat.Sp

/- What the reference of layer 13 does. -/
set_option maxRecDepth 100000
set_option autoImplicit false
set_option linter.unusedVariables false
set_option linter.unusedSimpArgs false
namespace Go.Proofs.YthpcahgdobnljaaGreat.Cu
open Go.RX Go Go.RowKit


theorem RdW.take_ {α : Type} {enc : α → List Value} {k : Nat} (he : IsEnc enc k) {w : World} {A : Option Addr} {xs : List α} (h : RdW w A (xs.flatMap enc)) (n : Nat) : RdW w A ((xs.take n).flatMap enc) := by
  rcases h with h | ⟨b, o, h1, h2⟩
  · have := he.flat_nil h; subst this; exact .inl (by simp)
  · refine .inr ⟨b, o, h1, fun j v hv => h2 j v ?_⟩
    rw [← List.take_append_drop n xs, List.flatMap_append, List.getElem?_append_left (List.getElem?_eq_some_iff.1 hv).1]; exact hv
theorem RdW.drop_ {α : Type} {enc : α → List Value} {k : Nat} (he : IsEnc enc k) {w : World} {A : Option Addr} {xs : List α} (h : RdW w A (xs.flatMap enc)) (c n : Nat) (hn : n ≤ xs.length) (hc : xs.length ≤ c) : RdW w (slA A c n k) ((xs.drop n).flatMap enc) := by
  by_cases hcn : c = n
  · exact .inl (by rw [List.drop_of_length_le (by omega)]; rfl)
  rcases h with h | ⟨b, o, rfl, h2⟩
  · have := he.flat_nil h; subst this; exact .inl (by simp)
  · refine .inr ⟨b, o + n * k, ?_, fun j v hv => ?_⟩
    · rw [slA, if_neg hcn]
      show some (Addr.add _ _) = _
      rw [← addA_eq]; rfl
    · have := h2 (n * k + j) v (by
        have e := he.flat_len (xs.take n)
        rw [List.length_take, Nat.min_eq_left hn] at e
        rw [← List.take_append_drop n xs, List.flatMap_append, List.getElem?_append_right (by omega), e, Nat.add_sub_cancel_left]; exact hv)
      rwa [← Nat.add_assoc] at this

theorem gtS (x y : ByteArray) : (!(Op.bytesLess x.toList y.toList || x.toList == y.toList)) = ltS y x := by
  have e : Op.bytesLess x.toList y.toList = ltS x y := rfl
  rw [e]
  cases h1 : ltS x y with
  | true => rw [ordS.asym h1]; rfl
  | false =>
    cases h2 : ltS y x with
    | true =>
      have : ¬ (x.toList == y.toList) = true := fun h => by
        have := toList_inj (by simpa using h)
        subst this
        rw [ordS.irr] at h2; cases h2
      simp [this]
    | false =>
      have := ordS.tri _ _ h1 h2
      subst this
      simp

theorem eqS (a b : ByteArray) : (a.toList == b.toList) = decide (a = b) := by
  rw [Bool.eq_iff_iff, beq_iff_eq, decide_eq_true_eq]
  exact ⟨toList_inj, fun h => by rw [h]⟩

abbrev rfC (G : QJ) (A : Option Addr) (c : Nat) (ys : List CurV) : List Res := [.blk G.b 100 [G.v0, G.v1, G.v2, G.v3, G.v4, G.v5, G.v6, .slice A ys.length c, G.v8, G.v9], own encC 3 101 A c ys]

/-- The place of one. -/
def fI (k : ByteArray) (ys : List CurV) : Int := match ys.findIdx? fun x => decide (x.name = k) with
  | some i => (i : Int)
  | none => -1
theorem fI_at {k : ByteArray} {ys : List CurV} {i : Nat} (hi : i < ys.length) (h1 : ys[i].name = k) (h2 : ∀ j (hj : j < i), (ys[j]'(by omega)).name ≠ k) : fI k ys = i := by
  have : (ys.findIdx? fun x => decide (x.name = k)) = some i := List.findIdx?_eq_some_iff_getElem.2 ⟨hi, by simpa using h1, fun j hj => by simpa using h2 j hj⟩
  rw [fI, this]
theorem fI_none {k : ByteArray} {ys : List CurV} (h : ∀ y ∈ ys, y.name ≠ k) : fI k ys = -1 := by
  have : (ys.findIdx? fun x => decide (x.name = k)) = none := List.findIdx?_eq_none_iff.2 fun x hx => by simpa using h x hx
  rw [fI, this]
theorem fI_split {k : ByteArray} {y1 y2 : List CurV} {y : CurV} (hy : y.name = k) (h1 : ∀ z ∈ y1, z.name ≠ k) : fI k (y1 ++ y :: y2) = y1.length :=
  fI_at (by simp) (by rw [List.getElem_append_right (Nat.le_refl _)]; simpa using hy) fun j hj => by
    rw [List.getElem_append_left hj]; exact h1 _ (List.getElem_mem hj)

set_option maxHeartbeats 1000000 in
theorem r13_find (G : QJ) (A : Option Addr) (c : Nat) (ys : List CurV) (k : ByteArray) (hl : ys.length ≤ 1000) (w0 : World) (hb : w0.heap[G.b]? = some (.cells #[G.v0, G.v1, G.v2, G.v3, G.v4, G.v5, G.v6, .slice A ys.length c, G.v8, G.v9] 100 (0, 0))) (hr : RdW w0 A (ys.flatMap encC)) :
    Calls Tryz.prog 121 #[.pointer (some ⟨G.b, 7, none⟩), .string k] w0 fun e w' => e = .returned (.int .i64 (fI k ys)) ∧ BelowD w0.heap.size w0 w' := by
  refine enterP (tab := tab) Tryz.func121 rfl Tryz.ntmps121 rfl (args := [_, _]) rfl ?_
  refine VC_sound tabOk 100 ?_
  refine Go_loop (σ := Nat) (fun i => [(0, .v (.pointer (some ⟨G.b, 7, none⟩))), (1, .v (.string k)), (5, .v (.int .i64 i))]) (fun _ => []) (fun i => i ≤ ys.length ∧ ∀ j (h : j < ys.length), j < i → ys[j].name ≠ k) (fun i => ys.length - i) 0 ⟨Nat.zero_le _, fun _ _ h => by omega⟩ ⟨rfl, rfl, rfl, trivial⟩ (fun _ h => h) ?_
  rintro i ⟨hi, hne⟩
  dsimp only at hi hne ⊢
  refine VC_sound tabOk 100 ?_
  refine Go_ops rfl (OpTo_loadBlk tabOk (cs := [G.v0, G.v1, G.v2, G.v3, G.v4, G.v5, G.v6, .slice A ys.length c, G.v8, G.v9]) (.slice A ys.length c) rfl rfl rfl (fun w hm _ => hm.block_old hb) rfl ?_)
  by_cases hlt : i < ys.length
  · obtain ⟨ba, oa, rfl⟩ := RdW.some encC_is hr (ne_nil_of_lt hlt)
    refine VC_sound tabOk 100 ?_
    refine ⟨fun _ => ?_, fun h => by first | (simp at h; done) | (simp at h; omega) | (simp_all; done)⟩
    refine Go_ops rfl (OpTo_loadBlk tabOk (cs := [G.v0, G.v1, G.v2, G.v3, G.v4, G.v5, G.v6, .slice (some ⟨ba, oa, none⟩) ys.length c, G.v8, G.v9]) (.slice (some ⟨ba, oa, none⟩) ys.length c) rfl rfl rfl (fun w hm _ => hm.block_old hb) rfl ?_)
    refine VC_sound tabOk 100 ?_
    refine ⟨⟨by omega, by omega⟩, ?_⟩
    refine Go_ops rfl (OpTo_loadPart tabOk encC_is (j := 0) (.string ys[i].name) rfl rfl rfl (fun w hm _ => hr.mod hm) (List.getElem?_eq_getElem hlt) rfl (by simp only [addA]; rfl) ?_)
    refine VC_sound tabOk 100 ?_
    refine ⟨fun h => ?_, fun h => ?_⟩
    · rw [eqS] at h
      refine congrArg (Value.int .i64) (fI_at hlt (of_decide_eq_true h) fun j hj => hne j (by omega) hj).symm
    · rw [eqS] at h
      refine ⟨_, wrap_i64 (n := (i : Int) + 1) (by omega) (by omega), ?_⟩
      refine Go_fin (i + 1) ⟨by omega, fun j h1 h2 => ?_⟩ (by omega) ⟨rfl, rfl, rfl, trivial⟩ (fun _ h => h)
      by_cases e : j = i
      · subst e; exact of_decide_eq_false h
      · exact hne j h1 (by omega)
  · refine VC_sound tabOk 100 ?_
    refine ⟨fun h => by first | (simp at h; done) | (simp at h; omega) | (simp_all; done), fun _ => ?_⟩
    refine congrArg (Value.int .i64) (fI_none fun y hy => ?_).symm
    obtain ⟨j, hj, rfl⟩ := List.mem_iff_getElem.1 hy
    exact hne j hj (by omega)

set_option maxHeartbeats 1000000 in
theorem r13_set (G : QJ) (A : Option Addr) (c : Nat) (y1 y2 : List CurV) (y x : CurV) (hl : (y1 ++ y :: y2).length ≤ 1000) (w0 : World) (hfs : List PH) (hm : Mod hfs (rfC G A c (y1 ++ y :: y2)) w0) :
    Calls Tryz.prog 123 #[.pointer (some ⟨G.b, 7, none⟩), .int .i64 y1.length, mkC x] w0 fun e w' => ∃ v Rs', e = .returned v ∧ (v = .tuple #[] ∧ ∃ A' c', Rs' = rfC G A' c' (y1 ++ x :: y2)) ∧ Mod hfs Rs' w' ∧ Oth w0 w' := by
  refine enterN (tab := tab) Tryz.func123 rfl Tryz.ntmps123 rfl (args := [_, _, _]) rfl hm ?_
  refine VC_sound tabOk 100 ?_
  intro b5 _
  (repeat (first | refine Or.inl ⟨rfl, rfl, ?_⟩ | refine Or.inl ⟨rfl, ?_⟩ | refine Or.inr ?_))
  refine Go_res (own encC 3 101 none 0 [] :: .blk b5 101 (encC x) :: rfC G A c (y1 ++ y :: y2)) (fun w h => h.own_nil none) ?_
  show Go _ _ _ _
  refine Go_ops rfl (OpTo_append tabOk encC_is (xs := []) (ys := y1 ++ y :: y2) (i := 0) rfl rfl rfl rfl rfl rfl rfl rfl rfl rfl rfl (fun w hm _ => hm.own_rd (i := 3) rfl) (by simp at hl ⊢; omega) (by simp at hl ⊢; omega) (fun A2 c2 => ?_))
  rw [List.nil_append]
  refine Go_with _ (fun w hm _ => hm.own_some (i := 0) rfl (by simp)) ?_
  rintro ⟨ba, oa, rfl⟩
  refine VC_sound tabOk 100 ?_
  (repeat (first | refine Or.inl ⟨rfl, rfl, ?_⟩ | refine Or.inl ⟨rfl, ?_⟩ | refine Or.inr ?_))
  refine ⟨⟨by omega, by simp; omega⟩, ?_⟩
  (repeat (first | refine Or.inl ⟨rfl, rfl, ?_⟩ | refine Or.inl ⟨rfl, ?_⟩ | refine Or.inr ?_))
  show Go _ _ _ _
  refine Go_ops rfl (OpTo_storeRow tabOk encC_is (n := y1.length) (u := x) (xs := y1 ++ y :: y2) 0 rfl rfl rfl rfl rfl rfl rfl (by simp) (by simp only [addA]; rfl) rfl ?_)
  refine VC_sound tabOk 100 ?_
  (repeat (first | refine Or.inl ⟨rfl, rfl, ?_⟩ | refine Or.inl ⟨rfl, ?_⟩ | refine Or.inr ?_))
  refine ⟨_, ⟨rfl, some ⟨ba, oa, none⟩, c2, rfl⟩, fun hfs w h => ?_⟩
  have h := h.sel [2, 0] rfl
  have e : (y1 ++ y :: y2).set y1.length x = y1 ++ x :: y2 := by rw [List.set_append_right _ _ (Nat.le_refl _), Nat.sub_self, List.set_cons_zero]
  have e2 : 0 + (y1 ++ y :: y2).length = (y1 ++ x :: y2).length := by simp
  rw [e, e2] at h
  exact h

/-! ### who is there -/
/-- What Register comes to. -/
def regY (k : ByteArray) (at_ : Int) (ys : List CurV) : Int :=
  if k.size = 0 ∨ 40 < k.size ∨ at_ < 1 then 1 else if 0 ≤ fI k ys then 5 else if 4 ≤ ys.length then 8 else 0
theorem fI_in {k : ByteArray} {ys : List CurV} : 0 ≤ fI k ys ↔ k ∈ ys.map CurV.name := by
  by_cases h : k ∈ ys.map CurV.name
  · simp only [h, iff_true]
    obtain ⟨y, hy, rfl⟩ := List.mem_map.1 h
    unfold fI
    split
    · omega
    · rename_i h0
      have := List.findIdx?_eq_none_iff.1 h0 y hy
      simp at this
  · simp only [h, iff_false]
    rw [fI_none fun y hy e => h (List.mem_map.2 ⟨y, hy, e⟩)]
    decide

set_option maxHeartbeats 4000000 in
theorem r13_register (G : QJ) (A : Option Addr) (c : Nat) (ys : List CurV) (k : ByteArray) (at_ : Int) (hl : ys.length ≤ 1000) (hrise : Rise ltS CurV.name ys) (w0 : World) (hfs : List PH) (hm : Mod hfs (rfC G A c ys) w0) :
    Calls Tryz.prog 116 #[.pointer (some ⟨G.b, 7, none⟩), .string k, .int .i64 at_] w0 fun e w' => ∃ v Rs', e = .returned v ∧ (v = .int .i64 (regY k at_ ys) ∧ ∃ A' c' zs, Rs' = rfC G A' c' zs ∧ ((regY k at_ ys = 0 ∧ (ys ++ [(⟨k, at_, 0⟩ : CurV)]).Perm zs ∧ Rise ltS CurV.name zs) ∨ (regY k at_ ys ≠ 0 ∧ zs = ys))) ∧ Mod hfs Rs' w' ∧ Oth w0 w' := by
  have hcap := hm.own_le (i := 1) rfl
  have hA : ys ≠ [] → ∃ b o, A = some ⟨b, o, none⟩ := fun h => hm.own_some (i := 1) rfl h
  have stay : ∀ e : Int, e ≠ 0 → regY k at_ ys = e → Value.int .i64 e = .int .i64 (regY k at_ ys) ∧ ∃ A' c' zs, rfC G A c ys = rfC G A' c' zs ∧ ((regY k at_ ys = 0 ∧ (ys ++ [(⟨k, at_, 0⟩ : CurV)]).Perm zs ∧ Rise ltS CurV.name zs) ∨ (regY k at_ ys ≠ 0 ∧ zs = ys)) :=
    fun e h1 h2 => ⟨by rw [h2], A, c, ys, rfl, .inr ⟨by rw [h2]; exact h1, rfl⟩⟩
  refine enterN (tab := tab) Tryz.func116 rfl Tryz.ntmps116 rfl (args := [_, _, _]) rfl hm ?_
  refine VC_sound tabOk 100 ?_
  refine ⟨fun h1 => ?_, fun h1 => ?_⟩
  · exact ⟨_, stay 1 (by decide) (by rw [regY, if_pos (.inl (by have := of_decide_eq_true h1; omega))]), fun _ _ h => h⟩
  have h1' := of_decide_eq_false h1
  refine ⟨fun h2 => ?_, fun h2 => ?_⟩
  · exact ⟨_, stay 1 (by decide) (by rw [regY, if_pos (.inr (.inl (by have := of_decide_eq_true h2; omega)))]), fun _ _ h => h⟩
  have h2' := of_decide_eq_false h2
  refine ⟨fun h3 => ?_, fun h3 => ?_⟩
  · exact ⟨_, stay 1 (by decide) (by rw [regY, if_pos (.inr (.inr (of_decide_eq_true h3)))]), fun _ _ h => h⟩
  have h3' := of_decide_eq_false h3
  have hn : ¬ (k.size = 0 ∨ 40 < k.size ∨ at_ < 1) := by omega
  refine Go_ops rfl (OpTo_pcall (v := .int .i64 (fI k ys)) rfl rfl rfl rfl rfl (by kernel_rfl) (fun w hm _ => r13_find G A c ys k hl w (hm.blk_at (i := 0) rfl) (hm.own_rd (i := 1) rfl)) ?_)
  refine VC_sound tabOk 100 ?_
  refine ⟨fun h4 => ?_, fun h4 => ?_⟩
  · exact ⟨_, stay 5 (by decide) (by rw [regY, if_neg hn, if_pos (of_decide_eq_true h4)]), fun _ _ h => h⟩
  have h4' : ¬ 0 ≤ fI k ys := of_decide_eq_false h4
  (repeat (first | refine Or.inl ⟨rfl, rfl, ?_⟩ | refine Or.inl ⟨rfl, ?_⟩ | refine Or.inr ?_))
  refine ⟨fun h5 => ?_, fun h5 => ?_⟩
  · exact ⟨_, stay 8 (by decide) (by rw [regY, if_neg hn, if_neg h4', if_pos (by have := of_decide_eq_true h5; omega)]), fun _ _ h => h⟩
  have he : regY k at_ ys = 0 := by rw [regY, if_neg hn, if_neg h4', if_neg (by have := of_decide_eq_false h5; omega)]
  (repeat (first | refine Or.inl ⟨rfl, rfl, ?_⟩ | refine Or.inl ⟨rfl, ?_⟩ | refine Or.inr ?_))
  refine Go_join (E := ?jE2) (k := ?jk2) (σ := Nat) (fun n => [(0, .v (.pointer (some ⟨G.b, 7, none⟩))), (1, .v (.string k)), (2, .v (.int .i64 at_)), (7, .v (.int .i64 n)), (53, .v (.slice none 0 0)), (59, .v (.slice A n c))]) (fun _ => rfC G A c ys)
    (fun n => n ≤ ys.length ∧ (∀ y ∈ ys.drop n, ltS k y.name = true) ∧ ∀ y ∈ ys.take n, ltS k y.name = false) ?jm2 ?jr2
  case jm2 =>
    intro J
    refine Go_loop (σ := Nat) (fun n => [(0, .v (.pointer (some ⟨G.b, 7, none⟩))), (1, .v (.string k)), (2, .v (.int .i64 at_)), (7, .v (.int .i64 n))]) (fun _ => rfC G A c ys) (fun n => n ≤ ys.length ∧ ∀ y ∈ ys.drop n, ltS k y.name = true) (fun n => n) ys.length ⟨Nat.le_refl _, by simp⟩ ⟨rfl, rfl, rfl, rfl, trivial⟩ (fun _ h => h) ?_
    rintro n ⟨hn, hd⟩
    dsimp only at hn hd ⊢
    refine VC_sound tabOk 100 ?_
    refine ⟨fun hj => ?_, fun hj => ?_⟩
    · have h0 : 0 < n := by have := of_decide_eq_true hj; omega
      obtain ⟨y, hgy⟩ : ∃ y, ys[n - 1]? = some y := ⟨_, List.getElem?_eq_getElem (by omega)⟩
      have hidx : ((n : Int) - 1).toNat = n - 1 := by omega
      obtain ⟨b1, o1, rfl⟩ := hA (ne_nil_of_lt (by omega : 0 < ys.length))
      (repeat (first | refine Or.inl ⟨rfl, rfl, ?_⟩ | refine Or.inl ⟨rfl, ?_⟩ | refine Or.inr ?_))
      refine ⟨_, wrap_i64 (n := (n : Int) - 1) (by omega) (by omega), ?_⟩
      refine ⟨⟨by omega, by omega⟩, ?_⟩
      (repeat (first | refine Or.inl ⟨rfl, rfl, ?_⟩ | refine Or.inl ⟨rfl, ?_⟩ | refine Or.inr ?_))
      refine Go_ops rfl (OpTo_loadPart tabOk encC_is (j := 0) (.string y.name) rfl rfl rfl (fun w hm _ => hm.own_rd (i := 1) rfl) hgy rfl (by simp only [addA, hidx]) ?_)
      refine VC_sound tabOk 100 ?_
      refine ⟨fun hgt => ?_, fun hgt => ?_⟩
      · rw [gtS] at hgt
        refine ⟨_, wrap_i64 (n := (n : Int) - 1) (by omega) (by omega), ?_⟩
        refine Go_fin (n - 1) ⟨by omega, fun z hz => ?_⟩ (by omega) ⟨rfl, rfl, rfl, congrArg (Value.int .i64) (by omega), trivial⟩ (fun _ h => h)
        have hdr : ys.drop (n - 1) = y :: ys.drop n := by
          obtain ⟨hh, rfl⟩ := List.getElem?_eq_some_iff.1 hgy
          rw [List.drop_eq_getElem_cons hh]; congr 2; omega
        rw [hdr] at hz
        rcases List.mem_cons.1 hz with rfl | hz
        · exact hgt
        · exact hd z hz
      · rw [gtS] at hgt
        (repeat (first | refine Or.inl ⟨rfl, rfl, ?_⟩ | refine Or.inl ⟨rfl, ?_⟩ | refine Or.inr ?_))
        refine ⟨⟨by omega, by omega⟩, ?_⟩
        refine J n ⟨hn, hd, fun z hz => ?_⟩ _ _ ?_ ?_
        rotate_left
        · exact ⟨rfl, rfl, rfl, rfl, rfl, rfl, trivial⟩
        · exact fun _ h => h
        obtain ⟨j, hj1, hj2⟩ := mem_take_at hz
        have h1 : ltS y.name z.name = false := hrise.at_ ordS hj2 hgy (by omega)
        cases h5 : ltS k z.name with
        | false => rfl
        | true => have := ordS.lt_of_lt_le h5 h1; rw [hgt] at this; cases this
    · have h0 : n = 0 := by have := of_decide_eq_false hj; omega
      subst h0
      (repeat (first | refine Or.inl ⟨rfl, rfl, ?_⟩ | refine Or.inl ⟨rfl, ?_⟩ | refine Or.inr ?_))
      refine ⟨⟨by omega, by omega⟩, ?_⟩
      refine J 0 ⟨hn, hd, by simp⟩ _ _ ?_ ?_
      · exact ⟨rfl, rfl, rfl, rfl, rfl, rfl, trivial⟩
      · exact fun _ h => h
  case jr2 =>
    rintro n ⟨hn, hd, htk⟩
    generalize hit : (⟨k, at_, 0⟩ : CurV) = it
    have hk : it.name = k := by rw [← hit]
    have hput : Rise ltS CurV.name (ys.take n ++ it :: ys.drop n) := by
      refine Rise.append (hrise.take n) (List.pairwise_cons.2 ⟨fun y hy => ordS.asym (by rw [hk]; exact hd y hy), hrise.drop n⟩) fun x hx y hy => ?_
      rcases List.mem_cons.1 hy with rfl | hy
      · rw [hk]; exact htk x hx
      · obtain ⟨i, hi1, hi2⟩ := mem_take_at hx
        obtain ⟨j, hj1, hj2⟩ := mem_drop_at hy
        exact hrise.at_ ordS hi2 hj2 (by omega)
    have hperm : (ys ++ [it]).Perm (ys.take n ++ it :: ys.drop n) := by
      refine (List.perm_append_comm).trans ?_
      show (it :: ys).Perm _
      refine (List.Perm.of_eq ?_).trans (List.perm_middle (l₁ := ys.take n) (a := it) (l₂ := ys.drop n)).symm
      rw [List.take_append_drop]
    refine Go_res (own encC 3 101 none 0 [] :: rfC G A c ys) (fun w h => h.own_nil none) ?_
    show Go _ _ _ _
    refine Go_ops rfl (OpTo_append tabOk encC_is (xs := []) (ys := ys.take n) (i := 0) rfl rfl rfl rfl rfl rfl rfl rfl rfl rfl (by simp; omega) (fun w hm _ => RdW.take_ encC_is (hm.own_rd (i := 2) rfl) n) (by simp; omega) (by simp; omega) (fun A2 c2 => ?_))
    refine VC_sound tabOk 100 ?_
    intro b99 _
    show Go _ _ _ _
    refine Go_ops rfl (OpTo_append tabOk encC_is (ys := [it]) (i := 1) rfl rfl rfl rfl rfl rfl rfl rfl rfl (by simp; omega) rfl (fun w hm _ => by rw [← hit]; exact hm.blk_rd (i := 0) rfl) (by simp; omega) (by simp; omega) (fun A3 c3 => ?_))
    refine VC_sound tabOk 100 ?_
    (repeat (first | refine Or.inl ⟨rfl, rfl, ?_⟩ | refine Or.inl ⟨rfl, ?_⟩ | refine Or.inr ?_))
    refine ⟨⟨by omega, by omega⟩, ?_⟩
    show Go _ _ _ _
    refine Go_ops rfl (OpTo_append tabOk encC_is (ys := ys.drop n) (i := 1) rfl rfl rfl rfl rfl rfl rfl rfl rfl (by simp; omega) (by simp) (fun w hm _ => RdW.drop_ encC_is (hm.own_rd (i := 3) rfl) c n hn hcap.1) (by simp; omega) (by simp; omega) (fun A4 c4 => ?_))
    refine VC_sound tabOk 100 ?_
    (repeat (first | refine Or.inl ⟨rfl, rfl, ?_⟩ | refine Or.inl ⟨rfl, ?_⟩ | refine Or.inr ?_))
    have e1 : [] ++ ys.take n ++ [it] ++ ys.drop n = ys.take n ++ it :: ys.drop n := by simp
    have e2 : 0 + n + 1 + (ys.length - (n : Int).toNat) = (ys.take n ++ it :: ys.drop n).length := by simp; omega
    refine ⟨_, ⟨by rw [he]; rfl, A4, c4, ys.take n ++ it :: ys.drop n, rfl, .inl ⟨he, hperm, hput⟩⟩, fun hfs w h => ?_⟩
    have h := h.sel [2, 1] rfl
    rw [e1, e2] at h
    exact h

set_option maxHeartbeats 1000000 in
theorem r13_unregister_no (G : QJ) (A : Option Addr) (c : Nat) (ys : List CurV) (k : ByteArray) (hl : ys.length ≤ 1000) (hk : ∀ y ∈ ys, y.name ≠ k) (w0 : World) (hfs : List PH) (hm : Mod hfs (rfC G A c ys) w0) :
    Calls Tryz.prog 117 #[.pointer (some ⟨G.b, 7, none⟩), .string k] w0 fun e w' => ∃ v Rs', e = .returned v ∧ (v = .int .i64 4 ∧ Rs' = rfC G A c ys) ∧ Mod hfs Rs' w' ∧ Oth w0 w' := by
  refine enterN (tab := tab) Tryz.func117 rfl Tryz.ntmps117 rfl (args := [_, _]) rfl hm ?_
  refine VC_sound tabOk 100 ?_
  refine Go_ops rfl (OpTo_pcall (v := .int .i64 (-1)) rfl rfl rfl rfl rfl (by kernel_rfl) (fun w hm _ => fI_none hk ▸ r13_find G A c ys k hl w (hm.blk_at (i := 0) rfl) (hm.own_rd (i := 1) rfl)) ?_)
  refine VC_sound tabOk 100 ?_
  refine ⟨fun _ => ?_, fun h => by first | (simp at h; done) | (simp at h; omega) | (simp_all; done)⟩
  exact ⟨_, ⟨rfl, rfl⟩, fun _ _ h => h⟩
set_option maxHeartbeats 1000000 in
theorem r13_unregister_ok (G : QJ) (A : Option Addr) (c : Nat) (y1 y2 : List CurV) (y : CurV) (k : ByteArray) (hl : (y1 ++ y :: y2).length ≤ 1000) (hy : y.name = k) (hk : ∀ z ∈ y1, z.name ≠ k) (w0 : World) (hfs : List PH) (hm : Mod hfs (rfC G A c (y1 ++ y :: y2)) w0) :
    Calls Tryz.prog 117 #[.pointer (some ⟨G.b, 7, none⟩), .string k] w0 fun e w' => ∃ v Rs', e = .returned v ∧ (v = .int .i64 0 ∧ ∃ A' c', Rs' = rfC G A' c' (y1 ++ y2)) ∧ Mod hfs Rs' w' ∧ Oth w0 w' := by
  have hcap := hm.own_le (i := 1) rfl
  have hll : (y1 ++ y :: y2).length = y1.length + y2.length + 1 := by simp; omega
  refine enterN (tab := tab) Tryz.func117 rfl Tryz.ntmps117 rfl (args := [_, _]) rfl hm ?_
  refine VC_sound tabOk 100 ?_
  refine Go_ops rfl (OpTo_pcall (v := .int .i64 (y1.length : Int)) rfl rfl rfl rfl rfl (by kernel_rfl) (fun w hm _ => fI_split hy hk ▸ r13_find G A c (y1 ++ y :: y2) k hl w (hm.blk_at (i := 0) rfl) (hm.own_rd (i := 1) rfl)) ?_)
  refine VC_sound tabOk 100 ?_
  refine ⟨fun h => by first | (simp at h; done) | (simp at h; omega) | (simp_all; done), fun _ => ?_⟩
  (repeat (first | refine Or.inl ⟨rfl, rfl, ?_⟩ | refine Or.inl ⟨rfl, ?_⟩ | refine Or.inr ?_))
  refine ⟨⟨by omega, by omega⟩, ?_⟩
  refine Go_res (own encC 3 101 none 0 [] :: rfC G A c (y1 ++ y :: y2)) (fun w h => h.own_nil none) ?_
  show Go _ _ _ _
  refine Go_ops rfl (OpTo_append tabOk encC_is (xs := []) (ys := y1) (i := 0) rfl rfl rfl rfl rfl rfl rfl rfl rfl rfl (by simp) (fun w hm _ => by
    have := RdW.take_ encC_is (hm.own_rd (i := 2) rfl) y1.length
    rwa [List.take_left] at this) (by simp; omega) (by simp; omega) (fun A2 c2 => ?_))
  refine VC_sound tabOk 100 ?_
  (repeat (first | refine Or.inl ⟨rfl, rfl, ?_⟩ | refine Or.inl ⟨rfl, ?_⟩ | refine Or.inr ?_))
  refine ⟨_, wrap_i64 (n := (y1.length : Int) + 1) (by omega) (by omega), ?_⟩
  refine ⟨⟨by omega, by omega⟩, ?_⟩
  show Go _ _ _ _
  refine Go_ops rfl (OpTo_append tabOk encC_is (ys := y2) (i := 0) rfl rfl rfl rfl rfl rfl rfl rfl rfl (by simp) (by simp; omega) (fun w hm _ => by
    have := RdW.drop_ encC_is (hm.own_rd (i := 2) rfl) c (y1.length + 1) (by omega) hcap.1
    have e : (y1 ++ y :: y2).drop (y1.length + 1) = y2 := by simp
    rw [e] at this
    exact this) (by simp; omega) (by simp; omega) (fun A3 c3 => ?_))
  refine VC_sound tabOk 100 ?_
  (repeat (first | refine Or.inl ⟨rfl, rfl, ?_⟩ | refine Or.inl ⟨rfl, ?_⟩ | refine Or.inr ?_))
  refine ⟨_, ⟨rfl, A3, c3, rfl⟩, fun hfs w h => ?_⟩
  have h := h.sel [1, 0] rfl
  have e1 : [] ++ y1 ++ y2 = y1 ++ y2 := by simp
  have e2 : 0 + (y1.length : Int).toNat + ((y1 ++ y :: y2).length - ((y1.length : Int) + 1).toNat) = (y1 ++ y2).length := by simp; omega
  rw [e2] at h
  exact h

set_option maxHeartbeats 1000000 in
theorem r13_open_no (G : QJ) (A : Option Addr) (c : Nat) (ys : List CurV) (k : ByteArray) (next : Int) (hl : ys.length ≤ 1000) (hk : ∀ y ∈ ys, y.name ≠ k) (w0 : World) (hfs : List PH) (hm : Mod hfs (rfC G A c ys) w0) :
    Calls Tryz.prog 120 #[.pointer (some ⟨G.b, 7, none⟩), .string k, .int .i64 next] w0 fun e w' => ∃ v Rs', e = .returned v ∧ (v = .int .i64 4 ∧ Rs' = rfC G A c ys) ∧ Mod hfs Rs' w' ∧ Oth w0 w' := by
  refine enterN (tab := tab) Tryz.func120 rfl Tryz.ntmps120 rfl (args := [_, _, _]) rfl hm ?_
  refine VC_sound tabOk 100 ?_
  refine Go_ops rfl (OpTo_pcall (v := .int .i64 (-1)) rfl rfl rfl rfl rfl (by kernel_rfl) (fun w hm _ => fI_none hk ▸ r13_find G A c ys k hl w (hm.blk_at (i := 0) rfl) (hm.own_rd (i := 1) rfl)) ?_)
  refine VC_sound tabOk 100 ?_
  refine ⟨fun _ => ?_, fun h => by first | (simp at h; done) | (simp at h; omega) | (simp_all; done)⟩
  exact ⟨_, ⟨rfl, rfl⟩, fun _ _ h => h⟩
set_option maxHeartbeats 2000000 in
theorem r13_open (G : QJ) (A : Option Addr) (c : Nat) (y1 y2 : List CurV) (y : CurV) (k : ByteArray) (next : Int) (hl : (y1 ++ y :: y2).length ≤ 1000) (hy : y.name = k) (hk : ∀ z ∈ y1, z.name ≠ k) (w0 : World) (hfs : List PH) (hm : Mod hfs (rfC G A c (y1 ++ y :: y2)) w0) :
    Calls Tryz.prog 120 #[.pointer (some ⟨G.b, 7, none⟩), .string k, .int .i64 next] w0 fun e w' => ∃ v Rs', e = .returned v ∧ (v = .int .i64 (openE y next) ∧ ∃ A' c', Rs' = rfC G A' c' (y1 ++ (if openE y next = 0 then ⟨y.name, y.last, next⟩ else y) :: y2)) ∧ Mod hfs Rs' w' ∧ Oth w0 w' := by
  have hll : (y1 ++ y :: y2).length = y1.length + y2.length + 1 := by simp; omega
  have hgy : (y1 ++ y :: y2)[y1.length]? = some y := by rw [List.getElem?_append_right (Nat.le_refl _), Nat.sub_self]; rfl
  obtain ⟨ba, oa, rfl⟩ := hm.own_some (i := 1) rfl (by simp)
  refine enterN (tab := tab) Tryz.func120 rfl Tryz.ntmps120 rfl (args := [_, _, _]) rfl hm ?_
  refine VC_sound tabOk 100 ?_
  refine Go_ops rfl (OpTo_pcall (v := .int .i64 (y1.length : Int)) rfl rfl rfl rfl rfl (by kernel_rfl) (fun w hm _ => fI_split hy hk ▸ r13_find G _ c (y1 ++ y :: y2) k hl w (hm.blk_at (i := 0) rfl) (hm.own_rd (i := 1) rfl)) ?_)
  refine VC_sound tabOk 100 ?_
  refine ⟨fun h => by first | (simp at h; done) | (simp at h; omega) | (simp_all; done), fun _ => ?_⟩
  (repeat (first | refine Or.inl ⟨rfl, rfl, ?_⟩ | refine Or.inl ⟨rfl, ?_⟩ | refine Or.inr ?_))
  refine ⟨⟨by omega, by omega⟩, ?_⟩
  (repeat (first | refine Or.inl ⟨rfl, rfl, ?_⟩ | refine Or.inl ⟨rfl, ?_⟩ | refine Or.inr ?_))
  refine Go_ops rfl (OpTo_loadPart tabOk encC_is (n := y1.length) (j := 2) (.int .i64 y.opn) rfl rfl rfl (fun w hm _ => hm.own_rd (i := 1) rfl) hgy rfl (by simp only [addA]; rfl) ?_)
  refine VC_sound tabOk 100 ?_
  refine ⟨fun h1 => ?_, fun h1 => ?_⟩
  · have e : openE y next = 7 := by rw [openE, if_pos (by simpa using h1)]
    rw [e]
    exact ⟨_, ⟨rfl, _, c, rfl⟩, fun _ _ h => h⟩
  (repeat (first | refine Or.inl ⟨rfl, rfl, ?_⟩ | refine Or.inl ⟨rfl, ?_⟩ | refine Or.inr ?_))
  refine ⟨⟨by omega, by omega⟩, ?_⟩
  (repeat (first | refine Or.inl ⟨rfl, rfl, ?_⟩ | refine Or.inl ⟨rfl, ?_⟩ | refine Or.inr ?_))
  refine Go_ops rfl (OpTo_loadPart tabOk encC_is (n := y1.length) (j := 1) (.int .i64 y.last) rfl rfl rfl (fun w hm _ => hm.own_rd (i := 1) rfl) hgy rfl (by simp only [addA]; rfl) ?_)
  refine VC_sound tabOk 100 ?_
  refine ⟨fun h2 => ?_, fun h2 => ?_⟩
  · have e : openE y next = 1 := by rw [openE, if_neg (by simpa using h1), if_pos (by simpa using h2)]
    rw [e]
    exact ⟨_, ⟨rfl, _, c, rfl⟩, fun _ _ h => h⟩
  have e : openE y next = 0 := by rw [openE, if_neg (by simpa using h1), if_neg (by simpa using h2)]
  rw [e]
  (repeat (first | refine Or.inl ⟨rfl, rfl, ?_⟩ | refine Or.inl ⟨rfl, ?_⟩ | refine Or.inr ?_))
  refine ⟨⟨by omega, by omega⟩, ?_⟩
  (repeat (first | refine Or.inl ⟨rfl, rfl, ?_⟩ | refine Or.inl ⟨rfl, ?_⟩ | refine Or.inr ?_))
  refine Go_ops rfl (OpTo_loadPart tabOk encC_is (n := y1.length) (j := 1) (.int .i64 y.last) rfl rfl rfl (fun w hm _ => hm.own_rd (i := 1) rfl) hgy rfl (by simp only [addA]; rfl) ?_)
  refine VC_sound tabOk 100 ?_
  show Go _ _ _ _
  refine Go_ops rfl (OpTo_mcall (rfC G (some ⟨ba, oa, none⟩) c (y1 ++ y :: y2)) [] (List.Perm.of_eq (by simp)) rfl rfl rfl rfl rfl (by kernel_rfl) (fun w hb hm hio hsp g => r13_set G _ c y1 y2 y ⟨k, y.last, next⟩ hl w _ g) ?_)
  rintro _ _ ⟨rfl, A2, c2, rfl⟩
  refine VC_sound tabOk 100 ?_
  exact ⟨_, ⟨rfl, A2, c2, by rw [hy]; rfl⟩, fun _ _ h => h.permRs (List.Perm.of_eq (List.append_nil _))⟩

set_option maxHeartbeats 1000000 in
theorem r13_finish_no (G : QJ) (A : Option Addr) (c : Nat) (ys : List CurV) (k : ByteArray) (hl : ys.length ≤ 1000) (hk : ∀ y ∈ ys, y.name ≠ k) (w0 : World) (hfs : List PH) (hm : Mod hfs (rfC G A c ys) w0) :
    Calls Tryz.prog 63 #[.pointer (some ⟨G.b, 7, none⟩), .string k] w0 fun e w' => ∃ v Rs', e = .returned v ∧ (v = .tuple #[.int .i64 0, .int .i64 4] ∧ Rs' = rfC G A c ys) ∧ Mod hfs Rs' w' ∧ Oth w0 w' := by
  refine enterN (tab := tab) Tryz.func63 rfl Tryz.ntmps63 rfl (args := [_, _]) rfl hm ?_
  refine VC_sound tabOk 100 ?_
  refine Go_ops rfl (OpTo_pcall (v := .int .i64 (-1)) rfl rfl rfl rfl rfl (by kernel_rfl) (fun w hm _ => fI_none hk ▸ r13_find G A c ys k hl w (hm.blk_at (i := 0) rfl) (hm.own_rd (i := 1) rfl)) ?_)
  refine VC_sound tabOk 100 ?_
  refine ⟨fun _ => ?_, fun h => by first | (simp at h; done) | (simp at h; omega) | (simp_all; done)⟩
  exact ⟨_, ⟨rfl, rfl⟩, fun _ _ h => h⟩
set_option maxHeartbeats 2000000 in
theorem r13_finish (G : QJ) (A : Option Addr) (c : Nat) (y1 y2 : List CurV) (y : CurV) (k : ByteArray) (hl : (y1 ++ y :: y2).length ≤ 1000) (hy : y.name = k) (hk : ∀ z ∈ y1, z.name ≠ k) (w0 : World) (hfs : List PH) (hm : Mod hfs (rfC G A c (y1 ++ y :: y2)) w0) :
    Calls Tryz.prog 63 #[.pointer (some ⟨G.b, 7, none⟩), .string k] w0 fun e w' => ∃ v Rs', e = .returned v ∧ (v = (if y.opn = 0 then .tuple #[.int .i64 0, .int .i64 7] else .tuple #[.int .i64 y.opn, .int .i64 0]) ∧ ∃ A' c', Rs' = rfC G A' c' (y1 ++ (if y.opn = 0 then y else ⟨y.name, y.opn, 0⟩) :: y2)) ∧ Mod hfs Rs' w' ∧ Oth w0 w' := by
  have hll : (y1 ++ y :: y2).length = y1.length + y2.length + 1 := by simp; omega
  have hgy : (y1 ++ y :: y2)[y1.length]? = some y := by rw [List.getElem?_append_right (Nat.le_refl _), Nat.sub_self]; rfl
  obtain ⟨ba, oa, rfl⟩ := hm.own_some (i := 1) rfl (by simp)
  refine enterN (tab := tab) Tryz.func63 rfl Tryz.ntmps63 rfl (args := [_, _]) rfl hm ?_
  refine VC_sound tabOk 100 ?_
  refine Go_ops rfl (OpTo_pcall (v := .int .i64 (y1.length : Int)) rfl rfl rfl rfl rfl (by kernel_rfl) (fun w hm _ => fI_split hy hk ▸ r13_find G _ c (y1 ++ y :: y2) k hl w (hm.blk_at (i := 0) rfl) (hm.own_rd (i := 1) rfl)) ?_)
  refine VC_sound tabOk 100 ?_
  refine ⟨fun h => by first | (simp at h; done) | (simp at h; omega) | (simp_all; done), fun _ => ?_⟩
  (repeat (first | refine Or.inl ⟨rfl, rfl, ?_⟩ | refine Or.inl ⟨rfl, ?_⟩ | refine Or.inr ?_))
  refine ⟨⟨by omega, by omega⟩, ?_⟩
  (repeat (first | refine Or.inl ⟨rfl, rfl, ?_⟩ | refine Or.inl ⟨rfl, ?_⟩ | refine Or.inr ?_))
  refine Go_ops rfl (OpTo_loadPart tabOk encC_is (n := y1.length) (j := 2) (.int .i64 y.opn) rfl rfl rfl (fun w hm _ => hm.own_rd (i := 1) rfl) hgy rfl (by simp only [addA]; rfl) ?_)
  refine VC_sound tabOk 100 ?_
  refine ⟨fun h1 => ?_, fun h1 => ?_⟩
  · have e : y.opn = 0 := by simpa using h1
    rw [if_pos e, if_pos e]
    exact ⟨_, ⟨rfl, _, c, rfl⟩, fun _ _ h => h⟩
  have e : ¬ y.opn = 0 := by simpa using h1
  rw [if_neg e, if_neg e]
  (repeat (first | refine Or.inl ⟨rfl, rfl, ?_⟩ | refine Or.inl ⟨rfl, ?_⟩ | refine Or.inr ?_))
  refine ⟨⟨by omega, by omega⟩, ?_⟩
  (repeat (first | refine Or.inl ⟨rfl, rfl, ?_⟩ | refine Or.inl ⟨rfl, ?_⟩ | refine Or.inr ?_))
  refine Go_ops rfl (OpTo_loadPart tabOk encC_is (n := y1.length) (j := 2) (.int .i64 y.opn) rfl rfl rfl (fun w hm _ => hm.own_rd (i := 1) rfl) hgy rfl (by simp only [addA]; rfl) ?_)
  refine VC_sound tabOk 100 ?_
  show Go _ _ _ _
  refine Go_ops rfl (OpTo_mcall (rfC G (some ⟨ba, oa, none⟩) c (y1 ++ y :: y2)) [] (List.Perm.of_eq (by simp)) rfl rfl rfl rfl rfl (by kernel_rfl) (fun w hb hm hio hsp g => r13_set G _ c y1 y2 y ⟨k, y.opn, 0⟩ hl w _ g) ?_)
  rintro _ _ ⟨rfl, A2, c2, rfl⟩
  refine VC_sound tabOk 100 ?_
  exact ⟨_, ⟨rfl, A2, c2, by rw [hy]⟩, fun _ _ h => h.permRs (List.Perm.of_eq (List.append_nil _))⟩

theorem minL_step (l : List CurV) (z : CurV) : minL (l ++ [z]) = if l = [] then z.last else if z.last < minL l then z.last else minL l := by
  cases l with
  | nil => simp [minL, minF]
  | cons y r => simp only [List.cons_append, minL, List.cons_ne_nil, if_false, List.foldl_cons, List.foldl_append, List.foldl_nil]; rfl

set_option maxHeartbeats 2000000 in
theorem r13_least (G : QJ) (A : Option Addr) (c : Nat) (ys : List CurV) (hl : ys.length ≤ 1000) (w0 : World) (hfs : List PH) (hm : Mod hfs (rfC G A c ys) w0) :
    Calls Tryz.prog 129 #[.pointer (some ⟨G.b, 7, none⟩)] w0 fun e w' => ∃ v Rs', e = .returned v ∧ (v = leastT ys ∧ Rs' = rfC G A c ys) ∧ Mod hfs Rs' w' ∧ Oth w0 w' := by
  have hA : ys ≠ [] → ∃ b o, A = some ⟨b, o, none⟩ := fun h => hm.own_some (i := 1) rfl h
  refine enterN (tab := tab) Tryz.func129 rfl Tryz.ntmps129 rfl (args := [_]) rfl hm ?_
  refine VC_sound tabOk 100 ?_
  refine Go_loop (σ := Nat) (fun i => [(0, .v (.pointer (some ⟨G.b, 7, none⟩))), (4, .v (.int .i64 (minL (ys.take i)))), (5, .v (.int .i64 i))]) (fun _ => rfC G A c ys) (fun i => i ≤ ys.length) (fun i => ys.length - i) 0 (Nat.zero_le _) ⟨rfl, rfl, rfl, trivial⟩ (fun _ h => h) ?_
  intro i hi
  dsimp only at hi ⊢
  refine VC_sound tabOk 100 ?_
  (repeat (first | refine Or.inl ⟨rfl, rfl, ?_⟩ | refine Or.inl ⟨rfl, ?_⟩ | refine Or.inr ?_))
  by_cases hlt : i < ys.length
  · obtain ⟨ba, oa, rfl⟩ := hA (ne_nil_of_lt hlt)
    obtain ⟨z, hgz⟩ : ∃ z, ys[i]? = some z := ⟨_, List.getElem?_eq_getElem hlt⟩
    have hstep : minL (ys.take (i + 1)) = if i = 0 then z.last else if z.last < minL (ys.take i) then z.last else minL (ys.take i) := by
      rw [List.take_add_one, hgz, Option.toList_some, minL_step]
      have : ys.take i = [] ↔ i = 0 := by
        rw [← List.length_eq_zero_iff, List.length_take]; omega
      simp only [this]
    refine ⟨fun _ => ?_, fun h => by first | (simp at h; done) | (simp at h; omega) | (simp_all; done)⟩
    refine ⟨fun h0 => ?_, fun h0 => ?_⟩
    · have h0' : i = 0 := by have := of_decide_eq_true h0; omega
      (repeat (first | refine Or.inl ⟨rfl, rfl, ?_⟩ | refine Or.inl ⟨rfl, ?_⟩ | refine Or.inr ?_))
      refine ⟨⟨by omega, by omega⟩, ?_⟩
      (repeat (first | refine Or.inl ⟨rfl, rfl, ?_⟩ | refine Or.inl ⟨rfl, ?_⟩ | refine Or.inr ?_))
      refine Go_ops rfl (OpTo_loadPart tabOk encC_is (n := i) (j := 1) (.int .i64 z.last) rfl rfl rfl (fun w hm _ => hm.own_rd (i := 1) rfl) hgz rfl (by simp only [addA]; rfl) ?_)
      refine VC_sound tabOk 100 ?_
      refine ⟨_, wrap_i64 (n := (i : Int) + 1) (by omega) (by omega), ?_⟩
      exact Go_fin (i + 1) (by omega) (by omega) ⟨rfl, congrArg (Value.int .i64) (by rw [hstep, if_pos h0']), rfl, trivial⟩ (fun _ h => h)
    · have h0' : ¬ i = 0 := by have := of_decide_eq_false h0; omega
      (repeat (first | refine Or.inl ⟨rfl, rfl, ?_⟩ | refine Or.inl ⟨rfl, ?_⟩ | refine Or.inr ?_))
      refine ⟨⟨by omega, by omega⟩, ?_⟩
      (repeat (first | refine Or.inl ⟨rfl, rfl, ?_⟩ | refine Or.inl ⟨rfl, ?_⟩ | refine Or.inr ?_))
      refine Go_ops rfl (OpTo_loadPart tabOk encC_is (n := i) (j := 1) (.int .i64 z.last) rfl rfl rfl (fun w hm _ => hm.own_rd (i := 1) rfl) hgz rfl (by simp only [addA]; rfl) ?_)
      refine VC_sound tabOk 100 ?_
      refine ⟨fun h1 => ?_, fun h1 => ?_⟩
      · (repeat (first | refine Or.inl ⟨rfl, rfl, ?_⟩ | refine Or.inl ⟨rfl, ?_⟩ | refine Or.inr ?_))
        refine ⟨⟨by omega, by omega⟩, ?_⟩
        (repeat (first | refine Or.inl ⟨rfl, rfl, ?_⟩ | refine Or.inl ⟨rfl, ?_⟩ | refine Or.inr ?_))
        refine Go_ops rfl (OpTo_loadPart tabOk encC_is (n := i) (j := 1) (.int .i64 z.last) rfl rfl rfl (fun w hm _ => hm.own_rd (i := 1) rfl) hgz rfl (by simp only [addA]; rfl) ?_)
        refine VC_sound tabOk 100 ?_
        refine ⟨_, wrap_i64 (n := (i : Int) + 1) (by omega) (by omega), ?_⟩
        exact Go_fin (i + 1) (by omega) (by omega) ⟨rfl, congrArg (Value.int .i64) (by rw [hstep, if_neg h0', if_pos (of_decide_eq_true h1)]), rfl, trivial⟩ (fun _ h => h)
      · refine ⟨_, wrap_i64 (n := (i : Int) + 1) (by omega) (by omega), ?_⟩
        exact Go_fin (i + 1) (by omega) (by omega) ⟨rfl, congrArg (Value.int .i64) (by rw [hstep, if_neg h0', if_neg (of_decide_eq_false h1)]), rfl, trivial⟩ (fun _ h => h)
  have he : i = ys.length := by omega
  subst he
  rw [List.take_length]
  refine ⟨fun h => by first | (simp at h; done) | (simp at h; omega) | (simp_all; done), fun _ => ?_⟩
  show Go _ _ _ _
  refine Go_any mixed [] [(0, false), (1, false), (2, false), (3, false), (7, false), (4, false), (5, false), (6, false), (8, false)] rfl (by kernel_rfl) (by kernel_rfl) [.blk G.b 100 [G.v0, G.v1, G.v2, G.v3, G.v4, G.v5, G.v6, .slice A ys.length c, G.v8, G.v9]] (fun _ => True) (fun _ _ _ h => h) (fun w hm _ => ⟨Holds.of_idx [0] hm, trivial⟩) ?_
  refine VC_sound tabOk 100 ?_
  (repeat (first | refine Or.inl ⟨rfl, rfl, ?_⟩ | refine Or.inl ⟨rfl, ?_⟩ | refine Or.inr ?_))
  exact ⟨_, ⟨by simp [leastT]; rfl, rfl⟩, fun _ _ h => h⟩
end Go.Proofs.YthpcahgdobnljaaGreat.Cu

/- What the reference of layer 14 does. -/
set_option maxRecDepth 100000
set_option autoImplicit false
set_option linter.unusedVariables false
set_option linter.unusedSimpArgs false
namespace Go.Proofs.YthpcahgdobnljaaGreat.Rt
open Go.RX Go Go.RowKit


abbrev rfR (G : QJ) (A : Option Addr) (c : Nat) (xs : List ItemM) : List Res := [.blk G.b 100 [G.v0, G.v1, G.v2, G.v3, G.v4, G.v5, G.v6, G.v7, .slice A xs.length c, G.v9], own encT 9 205 A c xs]

theorem sizeE (o : ByteArray) : (o.toList == ByteArray.toList ⟨#[]⟩) = decide (o.size = 0) := by
  rw [Bool.eq_iff_iff, beq_iff_eq, decide_eq_true_eq]
  constructor
  · intro h; rw [toList_inj h]; rfl
  · intro h
    have : o = ⟨#[]⟩ := ByteArray.ext (Array.eq_empty_of_size_eq_zero h)
    rw [this]

theorem r14_ahead (x y : ItemM) (w0 : World) : Calls Tryz.prog 171 #[mkT x, mkT y] w0 fun r w' => r = .returned (.bool (ltT (keyT x) (keyT y))) ∧ BelowD w0.heap.size w0 w' := by
  refine enterP (tab := tab) Tryz.func171 rfl Tryz.ntmps171 rfl (args := [_, _]) rfl ?_
  refine VC_sound tabOk 100 ?_
  intro b2 _
  intro b3 _
  (repeat (first | refine Or.inl ⟨rfl, rfl, ?_⟩ | refine Or.inl ⟨rfl, ?_⟩ | refine Or.inr ?_))
  rw [keyT_lt]
  refine ⟨fun h1 => ?_, fun h1 => ?_⟩
  · have h1' : ¬ x.at_ = y.at_ := by simpa using h1
    rw [if_neg h1']
    (repeat (first | refine Or.inl ⟨rfl, rfl, ?_⟩ | refine Or.inl ⟨rfl, ?_⟩ | refine Or.inr ?_))
    rfl
  have h1' : x.at_ = y.at_ := by simpa using h1
  rw [if_pos h1']
  (repeat (first | refine Or.inl ⟨rfl, rfl, ?_⟩ | refine Or.inl ⟨rfl, ?_⟩ | refine Or.inr ?_))
  refine ⟨fun h2 => ?_, fun h2 => ?_⟩
  · have h2' : ¬ x.ev.id = y.ev.id := by simpa using h2
    rw [if_neg h2']
    (repeat (first | refine Or.inl ⟨rfl, rfl, ?_⟩ | refine Or.inl ⟨rfl, ?_⟩ | refine Or.inr ?_))
    rfl
  have h2' : x.ev.id = y.ev.id := by simpa using h2
  rw [if_pos h2']
  (repeat (first | refine Or.inl ⟨rfl, rfl, ?_⟩ | refine Or.inl ⟨rfl, ?_⟩ | refine Or.inr ?_))
  rfl

theorem cap14 (t : Int) (h : t ≤ 2147483647) : triesUp t = if t < 2147483647 then t + 1 else t := by
  by_cases h1 : t < 2147483647
  · rw [triesUp_lt h1, if_pos h1]
  · have : t = 2147483647 := by omega
    subst this; rfl

set_option maxHeartbeats 16000000 in
theorem r14_add (G : QJ) (A : Option Addr) (c : Nat) (xs : List ItemM) (e : EventM) (o : ByteArray) (at_ : Int) (hl : xs.length ≤ 1000) (ht : 0 ≤ e.tries ∧ e.tries ≤ 2147483647) (hrise : RiseT xs) (w0 : World) (hfs : List PH) (hm : Mod hfs (rfR G A c xs) w0) :
    Calls Tryz.prog 125 #[.pointer (some ⟨G.b, 8, none⟩), mkE e, .string o, .int .i64 at_] w0 fun r w' => ∃ v Rs', r = .returned v ∧ (∃ A' c' ys, v = .int .i64 (addE xs e o) ∧ AddT xs e o at_ ys ∧ Rs' = rfR G A' c' ys) ∧ Mod hfs Rs' w' ∧ Oth w0 w' := by
  have hcap := hm.own_le (i := 1) rfl
  have hA : xs ≠ [] → ∃ b o, A = some ⟨b, o, none⟩ := fun h => hm.own_some (i := 1) rfl h
  refine enterN (tab := tab) Tryz.func125 rfl Tryz.ntmps125 rfl (args := [_, _, _, _]) rfl hm ?_
  refine VC_sound tabOk 100 ?_
  intro b5 _
  refine ⟨fun h1 => ?_, fun h1 => ?_⟩
  · have he : addE xs e o = 1 := by rw [addE, sizeE, if_pos (by simpa using h1)]
    exact ⟨_, ⟨A, c, xs, by rw [he]; rfl, .inr ⟨by omega, rfl⟩, rfl⟩, fun _ _ h => h.sel [1, 2] rfl⟩
  have h1' : ¬ (o.toList == (ByteArray.toList ⟨#[]⟩)) = true := by rw [sizeE]; simpa using h1
  refine Go_loop (σ := Nat) (fun i => [(0, .v (.pointer (some ⟨G.b, 8, none⟩))), (2, .v (.string o)), (3, .v (.int .i64 at_)), (5, .v (.pointer (some ⟨b5, 0, none⟩))), (9, .v (.int .i64 i))]) (fun _ => .blk b5 65 (encE e) :: rfR G A c xs) (fun i => i ≤ xs.length ∧ (xs.take i).any (hasP e o) = false) (fun i => xs.length - i) 0 ⟨Nat.zero_le _, rfl⟩ ⟨rfl, rfl, rfl, rfl, rfl, trivial⟩ (fun _ h => h) ?_
  rintro i ⟨hi, hno⟩
  dsimp only at hi hno ⊢
  by_cases hlt : i < xs.length
  · obtain ⟨x, hgx⟩ : ∃ x, xs[i]? = some x := ⟨_, List.getElem?_eq_getElem hlt⟩
    obtain ⟨ba, oa, rfl⟩ := hA (ne_nil_of_lt hlt)
    have hstep : (xs.take (i + 1)).any (hasP e o) = ((xs.take i).any (hasP e o) || hasP e o x) := by
      rw [List.take_add_one, hgx, List.any_append]; simp
    have next : hasP e o x = false → i + 1 ≤ xs.length ∧ (xs.take (i + 1)).any (hasP e o) = false := fun h => ⟨hlt, by rw [hstep, hno, h]; rfl⟩
    refine VC_sound tabOk 100 ?_
    (repeat (first | refine Or.inl ⟨rfl, rfl, ?_⟩ | refine Or.inl ⟨rfl, ?_⟩ | refine Or.inr ?_))
    refine ⟨fun _ => ?_, fun h => by first | (simp at h; done) | (simp at h; omega) | (simp_all; done)⟩
    show Go _ _ _ _
    refine Go_any mixed [] [(0, false), (1, false), (2, false), (4, false), (9, false), (3, false), (5, false), (6, false), (7, false), (8, false), (10, false), (11, false), (12, false), (13, false), (14, false), (15, false), (17, false), (22, false), (16, false), (18, false), (19, false), (20, false), (21, false), (23, false), (24, false)] rfl (by kernel_rfl) (by kernel_rfl) [.blk b5 65 (encE e), .blk G.b 100 [G.v0, G.v1, G.v2, G.v3, G.v4, G.v5, G.v6, G.v7, .slice (some ⟨ba, oa, none⟩) xs.length c, G.v9]] (fun w => RdW w (some ⟨ba, oa, none⟩) (xs.flatMap encT)) (fun w w' hk h => h.old hk) (fun w hm _ => ⟨Holds.of_idx [0, 1] hm, by exact Mod.own_rd (k := 9) (T := 205) (c := c) (i := 2) hm rfl⟩) ?_
    refine VC_sound tabOk 100 ?_
    (repeat (first | refine Or.inl ⟨rfl, rfl, ?_⟩ | refine Or.inl ⟨rfl, ?_⟩ | refine Or.inr ?_))
    refine ⟨⟨by omega, by omega⟩, ?_⟩
    (repeat (first | refine Or.inl ⟨rfl, rfl, ?_⟩ | refine Or.inl ⟨rfl, ?_⟩ | refine Or.inr ?_))
    refine Go_first (v := .int .i64 x.ev.id) rfl rfl rfl rfl (fun w _ hw => rxLoadPart tabOk rfl encT_is hw hgx (off := 1) rfl (by simp only [addA]; rfl)) ?_
    refine VC_sound tabOk 100 ?_
    (repeat (first | refine Or.inl ⟨rfl, rfl, ?_⟩ | refine Or.inl ⟨rfl, ?_⟩ | refine Or.inr ?_))
    refine ⟨fun h2 => ?_, fun h2 => ?_⟩
    · (repeat (first | refine Or.inl ⟨rfl, rfl, ?_⟩ | refine Or.inl ⟨rfl, ?_⟩ | refine Or.inr ?_))
      refine ⟨⟨by omega, by omega⟩, ?_⟩
      (repeat (first | refine Or.inl ⟨rfl, rfl, ?_⟩ | refine Or.inl ⟨rfl, ?_⟩ | refine Or.inr ?_))
      refine Go_first (v := .string x.ev.owner) rfl rfl rfl rfl (fun w _ hw => rxLoadPart tabOk rfl encT_is hw hgx (off := 3) rfl (by simp only [addA]; rfl)) ?_
      refine VC_sound tabOk 100 ?_
      refine ⟨fun h3 => ?_, fun h3 => ?_⟩
      · have hh : xs.any (hasP e o) = true := List.any_eq_true.2 ⟨x, List.mem_of_getElem? hgx, by simp only [hasP, h2, Bool.true_and]; exact h3⟩
        have he : addE xs e o = 5 := by rw [addE, if_neg h1', if_pos hh]
        exact ⟨_, ⟨_, c, xs, by rw [he]; rfl, .inr ⟨by omega, rfl⟩, rfl⟩, fun _ _ h => h.sel [1, 2] rfl⟩
      · refine ⟨_, wrap_i64 (n := (i : Int) + 1) (by omega) (by omega), ?_⟩
        exact Go_fin (i + 1) (next (by simp only [hasP, h2, Bool.true_and]; exact h3)) (by omega) ⟨rfl, rfl, rfl, rfl, rfl, trivial⟩ (fun _ h => h)
    · refine ⟨_, wrap_i64 (n := (i : Int) + 1) (by omega) (by omega), ?_⟩
      exact Go_fin (i + 1) (next (by simp only [hasP, h2, Bool.false_and])) (by omega) ⟨rfl, rfl, rfl, rfl, rfl, trivial⟩ (fun _ h => h)
  have hie : i = xs.length := by omega
  subst hie
  rw [List.take_length] at hno
  have h2' : ¬ xs.any (hasP e o) = true := by rw [hno]; simp
  refine VC_sound tabOk 100 ?_
  (repeat (first | refine Or.inl ⟨rfl, rfl, ?_⟩ | refine Or.inl ⟨rfl, ?_⟩ | refine Or.inr ?_))
  refine ⟨fun h => by first | (simp at h; done) | (simp at h; omega) | (simp_all; done), fun _ => ?_⟩
  (repeat (first | refine Or.inl ⟨rfl, rfl, ?_⟩ | refine Or.inl ⟨rfl, ?_⟩ | refine Or.inr ?_))
  refine ⟨fun h3 => ?_, fun h3 => ?_⟩
  · have he : addE xs e o = 8 := by rw [addE, if_neg h1', if_neg h2', if_pos (by have := of_decide_eq_true h3; omega)]
    exact ⟨_, ⟨A, c, xs, by rw [he]; rfl, .inr ⟨by omega, rfl⟩, rfl⟩, fun _ _ h => h.sel [1, 2] rfl⟩
  have he : addE xs e o = 0 := by rw [addE, if_neg h1', if_neg h2', if_neg (by have := of_decide_eq_false h3; omega)]
  (repeat (first | refine Or.inl ⟨rfl, rfl, ?_⟩ | refine Or.inl ⟨rfl, ?_⟩ | refine Or.inr ?_))
  refine Go_join (E := ?jE) (k := ?jk) (σ := Nat) (fun b10 => [(0, .v (.pointer (some ⟨G.b, 8, none⟩))), (10, .v (.pointer (some ⟨b10, 0, none⟩))), (11, .v (.int .i64 xs.length))]) (fun b10 => .blk b10 205 (encT (newIt e o at_)) :: rfR G A c xs) (fun _ => True) ?jm ?jr
  case jm =>
    intro J
    refine ⟨fun h4 => ?_, fun h4 => ?_⟩
    · have h4' : e.tries < 2147483647 := of_decide_eq_true h4
      (repeat (first | refine Or.inl ⟨rfl, rfl, ?_⟩ | refine Or.inl ⟨rfl, ?_⟩ | refine Or.inr ?_))
      refine ⟨_, wrap_i64 (n := e.tries + 1) (by omega) (by omega), ?_⟩
      (repeat (first | refine Or.inl ⟨rfl, rfl, ?_⟩ | refine Or.inl ⟨rfl, ?_⟩ | refine Or.inr ?_))
      intro b10 _
      (repeat (first | refine Or.inl ⟨rfl, rfl, ?_⟩ | refine Or.inl ⟨rfl, ?_⟩ | refine Or.inr ?_))
      refine J b10 trivial _ _ ?_ ?_
      · exact ⟨rfl, rfl, rfl, trivial⟩
      · refine fun _ h => ?_
        simp only [newIt, cap14 e.tries ht.2, if_pos h4']
        exact h.sel [0, 2, 3] rfl
    · have h4' : ¬ e.tries < 2147483647 := of_decide_eq_false h4
      (repeat (first | refine Or.inl ⟨rfl, rfl, ?_⟩ | refine Or.inl ⟨rfl, ?_⟩ | refine Or.inr ?_))
      intro b10 _
      (repeat (first | refine Or.inl ⟨rfl, rfl, ?_⟩ | refine Or.inl ⟨rfl, ?_⟩ | refine Or.inr ?_))
      refine J b10 trivial _ _ ?_ ?_
      · exact ⟨rfl, rfl, rfl, trivial⟩
      · refine fun _ h => ?_
        simp only [newIt, cap14 e.tries ht.2, if_neg h4']
        exact h.sel [0, 2, 3] rfl
  case jr =>
    intro b10 _
    generalize hit : newIt e o at_ = it
    refine Go_join (E := ?jE2) (k := ?jk2) (σ := Nat) (fun n => [(0, .v (.pointer (some ⟨G.b, 8, none⟩))), (10, .v (.pointer (some ⟨b10, 0, none⟩))), (11, .v (.int .i64 n)), (89, .v (.slice none 0 0)), (95, .v (.slice A n c))]) (fun _ => .blk b10 205 (encT it) :: rfR G A c xs)
      (fun n => n ≤ xs.length ∧ (∀ y ∈ xs.drop n, ltT (keyT it) (keyT y) = true) ∧ ∀ y ∈ xs.take n, ltT (keyT it) (keyT y) = false) ?jm2 ?jr2
    case jm2 =>
      intro J
      refine Go_loop (σ := Nat) (fun n => [(0, .v (.pointer (some ⟨G.b, 8, none⟩))), (10, .v (.pointer (some ⟨b10, 0, none⟩))), (11, .v (.int .i64 n))]) (fun _ => .blk b10 205 (encT it) :: rfR G A c xs) (fun n => n ≤ xs.length ∧ ∀ y ∈ xs.drop n, ltT (keyT it) (keyT y) = true) (fun n => n) xs.length ⟨Nat.le_refl _, by simp⟩ ⟨rfl, rfl, rfl, trivial⟩ (fun _ h => h) ?_
      rintro n ⟨hn, hd⟩
      dsimp only at hn hd ⊢
      refine VC_sound tabOk 100 ?_
      show Go _ _ _ _
      refine Go_any mixed [12] [(0, false), (1, false), (2, false), (4, false), (5, false), (6, false), (8, false), (9, false), (3, false), (7, false), (10, false), (11, false), (12, true), (13, false)] rfl (by kernel_rfl) (by kernel_rfl) [.blk b10 205 (encT it), .blk G.b 100 [G.v0, G.v1, G.v2, G.v3, G.v4, G.v5, G.v6, G.v7, .slice A xs.length c, G.v9]] (fun w => RdW w A (xs.flatMap encT)) (fun w w' hk h => h.old hk) (fun w hm _ => ⟨Holds.of_idx [0, 1] hm, by exact Mod.own_rd (k := 9) (T := 205) (c := c) (i := 2) hm rfl⟩) ?_
      refine VC_sound tabOk 100 ?_
      refine ⟨fun hj => ?_, fun hj => ?_⟩
      · have h0 : 0 < n := by have := of_decide_eq_true hj; omega
        obtain ⟨y, hgy⟩ : ∃ y, xs[n - 1]? = some y := ⟨_, List.getElem?_eq_getElem (by omega)⟩
        have hidx : ((n : Int) - 1).toNat = n - 1 := by omega
        obtain ⟨b1, o1, rfl⟩ := hA (ne_nil_of_lt (by omega : 0 < xs.length))
        refine ⟨_, wrap_i64 (n := (n : Int) - 1) (by omega) (by omega), ?_⟩
        (repeat (first | refine Or.inl ⟨rfl, rfl, ?_⟩ | refine Or.inl ⟨rfl, ?_⟩ | refine Or.inr ?_))
        refine ⟨⟨by omega, by omega⟩, ?_⟩
        (repeat (first | refine Or.inl ⟨rfl, rfl, ?_⟩ | refine Or.inl ⟨rfl, ?_⟩ | refine Or.inr ?_))
        refine Go_first (v := mkT y) rfl rfl rfl rfl (fun w _ hw => rxLoadRow tabOk rfl encT_is rfl (fun h => by first | rfl | cases h) hw hgy (by simp only [addA, hidx]) rfl) ?_
        refine VC_sound tabOk 100 ?_
        refine Go_aloneM rfl rfl rfl (OpTo_pcall (v := .bool (ltT (keyT it) (keyT y))) rfl rfl rfl rfl rfl (by kernel_rfl) (fun w hm _ => r14_ahead it y w) ?_)
        refine VC_sound tabOk 100 ?_
        refine ⟨fun hgt => ?_, fun hgt => ?_⟩
        · refine ⟨_, wrap_i64 (n := (n : Int) - 1) (by omega) (by omega), ?_⟩
          refine Go_fin (n - 1) ⟨by omega, fun z hz => ?_⟩ (by omega) ⟨rfl, rfl, congrArg (Value.int .i64) (by omega), trivial⟩ (fun _ h => h)
          have hdr : xs.drop (n - 1) = y :: xs.drop n := by
            obtain ⟨hh, rfl⟩ := List.getElem?_eq_some_iff.1 hgy
            rw [List.drop_eq_getElem_cons hh]; congr 2; omega
          rw [hdr] at hz
          rcases List.mem_cons.1 hz with rfl | hz
          · exact hgt
          · exact hd z hz
        · (repeat (first | refine Or.inl ⟨rfl, rfl, ?_⟩ | refine Or.inl ⟨rfl, ?_⟩ | refine Or.inr ?_))
          refine ⟨⟨by omega, by omega⟩, ?_⟩
          refine J n ⟨hn, hd, fun z hz => ?_⟩ _ _ ?_ ?_
          rotate_left
          · exact ⟨rfl, rfl, rfl, rfl, rfl, trivial⟩
          · exact fun _ h => h
          obtain ⟨j, hj1, hj2⟩ := mem_take_at hz
          have h1 : ltT (keyT y) (keyT z) = false := hrise.at_ ordT hj2 hgy (by omega)
          cases h5 : ltT (keyT it) (keyT z) with
          | false => rfl
          | true => have := ordT.lt_of_lt_le h5 h1; rw [hgt] at this; cases this
      · have h0 : n = 0 := by have := of_decide_eq_false hj; omega
        subst h0
        (repeat (first | refine Or.inl ⟨rfl, rfl, ?_⟩ | refine Or.inl ⟨rfl, ?_⟩ | refine Or.inr ?_))
        refine ⟨⟨by omega, by omega⟩, ?_⟩
        refine J 0 ⟨hn, hd, by simp⟩ _ _ ?_ ?_
        · exact ⟨rfl, rfl, rfl, rfl, rfl, trivial⟩
        · exact fun _ h => h
    case jr2 =>
      rintro n ⟨hn, hd, htk⟩
      have hput : RiseT (xs.take n ++ it :: xs.drop n) := by
        refine Rise.append (hrise.take n) (List.pairwise_cons.2 ⟨fun y hy => ordT.asym (hd y hy), hrise.drop n⟩) fun x hx y hy => ?_
        rcases List.mem_cons.1 hy with rfl | hy
        · exact htk x hx
        · obtain ⟨i, hi1, hi2⟩ := mem_take_at hx
          obtain ⟨j, hj1, hj2⟩ := mem_drop_at hy
          exact hrise.at_ ordT hi2 hj2 (by omega)
      have hperm : (xs ++ [it]).Perm (xs.take n ++ it :: xs.drop n) := by
        refine (List.perm_append_comm).trans ?_
        show (it :: xs).Perm _
        refine (List.Perm.of_eq ?_).trans (List.perm_middle (l₁ := xs.take n) (a := it) (l₂ := xs.drop n)).symm
        rw [List.take_append_drop]
      refine Go_res (own encT 9 205 none 0 [] :: .blk b10 205 (encT it) :: rfR G A c xs) (fun w h => h.own_nil none) ?_
      show Go _ _ _ _
      refine Go_ops rfl (OpTo_append tabOk encT_is (xs := []) (ys := xs.take n) (i := 0) rfl rfl rfl rfl rfl rfl rfl rfl rfl rfl (by simp; omega) (fun w hm _ => RdW.take_ encT_is (hm.own_rd (i := 3) rfl) n) (by simp; omega) (by simp; omega) (fun A2 c2 => ?_))
      refine VC_sound tabOk 100 ?_
      (repeat (first | refine Or.inl ⟨rfl, rfl, ?_⟩ | refine Or.inl ⟨rfl, ?_⟩ | refine Or.inr ?_))
      intro b99 _
      show Go _ _ _ _
      refine Go_ops rfl (OpTo_append tabOk encT_is (ys := [it]) (i := 1) rfl rfl rfl rfl rfl rfl rfl rfl rfl (by simp; omega) rfl (fun w hm _ => hm.blk_rd (i := 0) rfl) (by simp; omega) (by simp; omega) (fun A3 c3 => ?_))
      refine VC_sound tabOk 100 ?_
      (repeat (first | refine Or.inl ⟨rfl, rfl, ?_⟩ | refine Or.inl ⟨rfl, ?_⟩ | refine Or.inr ?_))
      refine ⟨⟨by omega, by omega⟩, ?_⟩
      show Go _ _ _ _
      refine Go_ops rfl (OpTo_append tabOk encT_is (ys := xs.drop n) (i := 1) rfl rfl rfl rfl rfl rfl rfl rfl rfl (by simp; omega) (by simp) (fun w hm _ => RdW.drop_ encT_is (hm.own_rd (i := 4) rfl) c n hn hcap.1) (by simp; omega) (by simp; omega) (fun A4 c4 => ?_))
      refine VC_sound tabOk 100 ?_
      (repeat (first | refine Or.inl ⟨rfl, rfl, ?_⟩ | refine Or.inl ⟨rfl, ?_⟩ | refine Or.inr ?_))
      have e1 : [] ++ xs.take n ++ [it] ++ xs.drop n = xs.take n ++ it :: xs.drop n := by simp
      have e2 : 0 + n + 1 + (xs.length - (n : Int).toNat) = (xs.take n ++ it :: xs.drop n).length := by simp; omega
      refine ⟨_, ⟨A4, c4, xs.take n ++ it :: xs.drop n, by rw [he]; rfl, .inl ⟨he, by rw [hit]; exact ⟨hperm, hput⟩⟩, rfl⟩, fun hfs w h => ?_⟩
      have h := h.sel [3, 1] rfl
      rw [e1, e2] at h
      exact h

theorem due_take (k : Int) {xs : List ItemM} (hr : xs.Pairwise fun a b => a.at_ ≤ b.at_) (i : Nat) (hi : i ≤ xs.length) (h1 : ∀ x ∈ xs.take i, x.at_ ≤ k) (h2 : ∀ x, xs[i]? = some x → k < x.at_) : dueL k xs = (xs.take i).map ItemM.ev := by
  have e : xs = xs.take i ++ xs.drop i := (List.take_append_drop i xs).symm
  have hd : ∀ x ∈ xs.drop i, k < x.at_ := fun x hx => by
    obtain ⟨j, hj1, hj2⟩ := mem_drop_at hx
    obtain ⟨hjl, rfl⟩ := List.getElem?_eq_some_iff.1 hj2
    have hil : i < xs.length := by omega
    have h3 := h2 _ (List.getElem?_eq_getElem hil)
    rcases Nat.lt_or_eq_of_le hj1 with hlt | rfl
    · have := List.pairwise_iff_getElem.1 hr i j hil hjl hlt; omega
    · exact h3
  have f1 : (xs.take i).filter (fun x => decide (x.at_ ≤ k)) = xs.take i := List.filter_eq_self.2 fun x hx => by simpa using h1 x hx
  have f2 : (xs.drop i).filter (fun x => decide (x.at_ ≤ k)) = [] := List.filter_eq_nil_iff.2 fun x hx => by have := hd x hx; simp; omega
  rw [dueL]
  conv => lhs; rw [e]
  rw [List.filter_append, f1, f2, List.append_nil]

set_option maxHeartbeats 2000000 in
theorem r14_due (G : QJ) (A : Option Addr) (c : Nat) (xs : List ItemM) (now : Int) (hrise : RiseT xs) (w0 : World) (hb : w0.heap[G.b]? = some (.cells #[G.v0, G.v1, G.v2, G.v3, G.v4, G.v5, G.v6, G.v7, .slice A xs.length c, G.v9] 100 (0, 0))) (hr : RdW w0 A (xs.flatMap encT)) (hl : xs.length ≤ 10000) :
    Calls Tryz.prog 172 #[.pointer (some ⟨G.b, 8, none⟩), .int .i64 now] w0 fun r w' => ∃ v Rs', r = .returned v ∧ rowEvQ (dueL now xs) v Rs' ∧ Mod [heapOf w0] Rs' w' ∧ Oth w0 w' := by
  refine enterN (tab := tab) Tryz.func172 rfl Tryz.ntmps172 rfl (args := [_, _]) rfl (Mod.start w0) ?_
  refine VC_sound tabOk 100 ?_
  refine Go_loop (σ := Nat × Option Addr × Nat) (fun s => [(0, .v (.pointer (some ⟨G.b, 8, none⟩))), (1, .v (.int .i64 now)), (5, .v (.slice s.2.1 ((xs.take s.1).map ItemM.ev).length s.2.2)), (6, .v (.int .i64 s.1))]) (fun s => [own encE 8 65 s.2.1 s.2.2 ((xs.take s.1).map ItemM.ev)]) (fun s => s.1 ≤ xs.length ∧ ∀ x ∈ xs.take s.1, x.at_ ≤ now) (fun s => xs.length - s.1) (0, none, 0) ⟨Nat.zero_le _, by simp⟩ ⟨rfl, rfl, rfl, rfl, trivial⟩ (fun _ h => h.own_nil none) ?_
  rintro ⟨i, A', c'⟩ ⟨hi, hall⟩
  dsimp only at hi hall ⊢
  have hml : ((xs.take i).map ItemM.ev).length = i := by rw [List.length_map, List.length_take]; omega
  refine VC_sound tabOk 100 ?_
  refine Go_ops rfl (OpTo_loadBlk tabOk (cs := [G.v0, G.v1, G.v2, G.v3, G.v4, G.v5, G.v6, G.v7, .slice A xs.length c, G.v9]) (.slice A xs.length c) rfl rfl rfl (fun w hm _ => hm.block_old hb) rfl ?_)
  refine VC_sound tabOk 100 ?_
  by_cases hlt : i < xs.length
  · obtain ⟨x, hgx⟩ : ∃ x, xs[i]? = some x := ⟨_, List.getElem?_eq_getElem hlt⟩
    obtain ⟨ba, oa, rfl⟩ := RdW.some encT_is hr (ne_nil_of_lt hlt)
    refine ⟨fun _ => ?_, fun h => by first | (simp at h; done) | (simp at h; omega) | (simp_all; done)⟩
    refine Go_ops rfl (OpTo_loadBlk tabOk (cs := [G.v0, G.v1, G.v2, G.v3, G.v4, G.v5, G.v6, G.v7, .slice (some ⟨ba, oa, none⟩) xs.length c, G.v9]) (.slice (some ⟨ba, oa, none⟩) xs.length c) rfl rfl rfl (fun w hm _ => hm.block_old hb) rfl ?_)
    refine VC_sound tabOk 100 ?_
    refine ⟨⟨by omega, by omega⟩, ?_⟩
    refine Go_ops rfl (OpTo_loadPart tabOk encT_is (n := i) (j := 0) (.int .i64 x.at_) rfl rfl rfl (fun w hm _ => hr.mod hm) hgx rfl (by simp only [addA]; rfl) ?_)
    refine VC_sound tabOk 100 ?_
    refine ⟨fun h => ?_, fun h => ?_⟩
    · have hstep : (xs.take (i + 1)).map ItemM.ev = (xs.take i).map ItemM.ev ++ [x.ev] := by rw [List.take_add_one, hgx, List.map_append]; rfl
      refine Go_ops rfl (OpTo_loadBlk tabOk (cs := [G.v0, G.v1, G.v2, G.v3, G.v4, G.v5, G.v6, G.v7, .slice (some ⟨ba, oa, none⟩) xs.length c, G.v9]) (.slice (some ⟨ba, oa, none⟩) xs.length c) rfl rfl rfl (fun w hm _ => hm.block_old hb) rfl ?_)
      refine VC_sound tabOk 100 ?_
      refine ⟨⟨by omega, by omega⟩, ?_⟩
      refine Go_ops rfl (OpTo_loadPart tabOk encT_is (n := i) (j := 1) (mkE x.ev) rfl rfl rfl (fun w hm _ => hr.mod hm) hgx rfl (by simp only [addA]; rfl) ?_)
      refine VC_sound tabOk 100 ?_
      intro b37 _
      show Go _ _ _ _
      refine Go_ops rfl (OpTo_append tabOk encE_is (ys := [x.ev]) (i := 1) rfl rfl rfl rfl rfl rfl rfl rfl rfl rfl rfl (fun w hm _ => hm.blk_rd (i := 0) rfl) (by simp; omega) (by simp; omega) (fun A2 c2 => ?_))
      refine VC_sound tabOk 100 ?_
      refine ⟨_, wrap_i64 (n := (i : Int) + 1) (by omega) (by omega), ?_⟩
      refine Go_fin (i + 1, A2, c2) ⟨by dsimp only; omega, fun y hy => ?_⟩ (by dsimp only; omega) ⟨rfl, rfl, ?_, rfl, trivial⟩ (fun _ h => by dsimp only; rw [hstep]; exact h.sel [1] rfl)
      · dsimp only at hy
        rw [List.take_add_one, hgx] at hy
        rcases List.mem_append.1 hy with hy | hy
        · exact hall y hy
        · simp at hy; subst hy; exact of_decide_eq_true h
      · dsimp only; rw [hstep, List.length_append]; rfl
    · have hd := due_take now (riseT_at hrise) i hi hall (fun y hy => by rw [hgx] at hy; cases hy; have := of_decide_eq_false h; omega)
      rw [hd]
      exact ⟨_, ⟨A', c', rfl, rfl⟩, fun _ _ h => h⟩
  · refine ⟨fun h => by first | (simp at h; done) | (simp at h; omega) | (simp_all; done), fun _ => ?_⟩
    have hd := due_take now (riseT_at hrise) i hi hall (fun y hy => by rw [List.getElem?_eq_none (by omega)] at hy; cases hy)
    rw [hd]
    exact ⟨_, ⟨A', c', rfl, rfl⟩, fun _ _ h => h⟩

set_option maxHeartbeats 1000000 in
theorem r14_take (G : QJ) (A : Option Addr) (c : Nat) (xs : List ItemM) (now : Int) (hl : xs.length ≤ 10000) (hrise : RiseT xs) (w0 : World) (hfs : List PH) (hm : Mod hfs (rfR G A c xs) w0) :
    Calls Tryz.prog 126 #[.pointer (some ⟨G.b, 8, none⟩), .int .i64 now] w0 fun r w' => ∃ v Rs', r = .returned v ∧ (∃ A1 c1 A' c', v = .slice A1 (dueL now xs).length c1 ∧ Rs' = own encE 8 65 A1 c1 (dueL now xs) :: rfR G A' c' (xs.drop (dueL now xs).length)) ∧ Mod hfs Rs' w' ∧ Oth w0 w' := by
  have hdl := dueL_len now xs
  have hcap := hm.own_le (i := 1) rfl
  refine enterN (tab := tab) Tryz.func126 rfl Tryz.ntmps126 rfl (args := [_, _]) rfl hm ?_
  refine VC_sound tabOk 100 ?_
  show Go _ _ _ _
  refine Go_ops rfl (OpTo_ncall rfl rfl rfl rfl rfl (by kernel_rfl) (fun w hm _ => r14_due G A c xs now hrise w (hm.blk_at (i := 0) rfl) (hm.own_rd (i := 1) rfl) hl) ?_)
  rintro _ _ ⟨A1, c1, rfl, rfl⟩
  refine VC_sound tabOk 100 ?_
  (repeat (first | refine Or.inl ⟨rfl, rfl, ?_⟩ | refine Or.inl ⟨rfl, ?_⟩ | refine Or.inr ?_))
  refine ⟨⟨by omega, by omega⟩, ?_⟩
  (repeat (first | refine Or.inl ⟨rfl, rfl, ?_⟩ | refine Or.inl ⟨rfl, ?_⟩ | refine Or.inr ?_))
  refine ⟨_, ⟨A1, c1, slA A c (dueL now xs).length 9, c - (dueL now xs).length, rfl, rfl⟩, fun hfs w h => ?_⟩
  have h := h.own_drop (i := 2) encT_is hdl rfl
  have e : xs.length - ((dueL now xs).length : Int).toNat = (xs.drop (dueL now xs).length).length := by simp
  rw [e] at h
  exact h

set_option maxHeartbeats 2000000 in
theorem r14_drop (G : QJ) (A : Option Addr) (c : Nat) (xs : List ItemM) (o : ByteArray) (hl : xs.length ≤ 10000) (w0 : World) (hfs : List PH) (hm : Mod hfs (rfR G A c xs) w0) :
    Calls Tryz.prog 118 #[.pointer (some ⟨G.b, 8, none⟩), .string o] w0 fun r w' => ∃ v Rs', r = .returned v ∧ (v = .int .i64 ((xs.length : Int) - (leftL o xs).length) ∧ ∃ A' c', Rs' = rfR G A' c' (leftL o xs)) ∧ Mod hfs Rs' w' ∧ Oth w0 w' := by
  have hA : xs ≠ [] → ∃ b o, A = some ⟨b, o, none⟩ := fun h => hm.own_some (i := 1) rfl h
  refine enterN (tab := tab) Tryz.func118 rfl Tryz.ntmps118 rfl (args := [_, _]) rfl hm ?_
  refine VC_sound tabOk 100 ?_
  refine Go_loop (σ := Nat × Option Addr × Nat) (fun s => [(0, .v (.pointer (some ⟨G.b, 8, none⟩))), (1, .v (.string o)), (5, .v (.slice s.2.1 (leftL o (xs.take s.1)).length s.2.2)), (6, .v (.int .i64 s.1))]) (fun s => own encT 9 205 s.2.1 s.2.2 (leftL o (xs.take s.1)) :: rfR G A c xs) (fun s => s.1 ≤ xs.length) (fun s => xs.length - s.1) (0, none, 0) (Nat.zero_le _) ⟨rfl, rfl, rfl, rfl, trivial⟩ (fun _ h => h.own_nil none) ?_
  rintro ⟨i, A', c'⟩ hi
  dsimp only at hi ⊢
  have hll : (leftL o (xs.take i)).length ≤ i := by
    have := List.length_filter_le (fun x : ItemM => !(x.ev.owner.toList == o.toList)) (xs.take i)
    rw [List.length_take] at this
    simp only [leftL]; omega
  refine VC_sound tabOk 100 ?_
  (repeat (first | refine Or.inl ⟨rfl, rfl, ?_⟩ | refine Or.inl ⟨rfl, ?_⟩ | refine Or.inr ?_))
  by_cases hlt : i < xs.length
  · obtain ⟨x, hgx⟩ : ∃ x, xs[i]? = some x := ⟨_, List.getElem?_eq_getElem hlt⟩
    obtain ⟨ba, oa, rfl⟩ := hA (ne_nil_of_lt hlt)
    have hstep : leftL o (xs.take (i + 1)) = leftL o (xs.take i) ++ if (!(x.ev.owner.toList == o.toList)) = true then [x] else [] := by
      simp only [leftL, List.take_add_one, hgx, List.filter_append]
      congr 1
      simp only [Option.toList_some, List.filter_cons, List.filter_nil]
    refine ⟨fun _ => ?_, fun h => by first | (simp at h; done) | (simp at h; omega) | (simp_all; done)⟩
    (repeat (first | refine Or.inl ⟨rfl, rfl, ?_⟩ | refine Or.inl ⟨rfl, ?_⟩ | refine Or.inr ?_))
    refine ⟨⟨by omega, by omega⟩, ?_⟩
    (repeat (first | refine Or.inl ⟨rfl, rfl, ?_⟩ | refine Or.inl ⟨rfl, ?_⟩ | refine Or.inr ?_))
    refine Go_ops rfl (OpTo_loadPart tabOk encT_is (n := i) (j := 3) (.string x.ev.owner) rfl rfl rfl (fun w hm _ => hm.own_rd (i := 2) rfl) hgx rfl (by simp only [addA]; rfl) ?_)
    refine VC_sound tabOk 100 ?_
    refine ⟨fun h => ?_, fun h => ?_⟩
    · rw [if_pos h] at hstep
      (repeat (first | refine Or.inl ⟨rfl, rfl, ?_⟩ | refine Or.inl ⟨rfl, ?_⟩ | refine Or.inr ?_))
      refine ⟨⟨by omega, by omega⟩, ?_⟩
      (repeat (first | refine Or.inl ⟨rfl, rfl, ?_⟩ | refine Or.inl ⟨rfl, ?_⟩ | refine Or.inr ?_))
      refine Go_ops rfl (OpTo_loadRow tabOk encT_is (mkT x) rfl rfl rfl rfl rfl (fun h => by first | rfl | cases h) (fun w hm _ => hm.own_rd (i := 2) rfl) hgx (by simp only [addA]; rfl) ?_)
      refine VC_sound tabOk 100 ?_
      intro b36 _
      show Go _ _ _ _
      refine Go_ops rfl (OpTo_append tabOk encT_is (ys := [x]) (i := 1) rfl rfl rfl rfl rfl rfl rfl rfl rfl rfl rfl (fun w hm _ => hm.blk_rd (i := 0) rfl) (by simp; omega) (by simp; omega) (fun A2 c2 => ?_))
      refine VC_sound tabOk 100 ?_
      refine ⟨_, wrap_i64 (n := (i : Int) + 1) (by omega) (by omega), ?_⟩
      refine Go_fin (i + 1, A2, c2) (by dsimp only; omega) (by dsimp only; omega) ⟨rfl, rfl, ?_, rfl, trivial⟩ (fun _ h => by dsimp only; rw [hstep]; exact h.sel [1, 2, 3] rfl)
      dsimp only; rw [hstep, List.length_append]; rfl
    · rw [if_neg (by rw [h]; simp), List.append_nil] at hstep
      refine ⟨_, wrap_i64 (n := (i : Int) + 1) (by omega) (by omega), ?_⟩
      refine Go_fin (i + 1, A', c') (by dsimp only; omega) (by dsimp only; omega) ⟨rfl, rfl, ?_, rfl, trivial⟩ (fun _ h => by dsimp only; rw [hstep]; exact h)
      dsimp only; rw [hstep]
  have he : i = xs.length := by omega
  subst he
  rw [List.take_length] at hll ⊢
  refine ⟨fun h => by first | (simp at h; done) | (simp at h; omega) | (simp_all; done), fun _ => ?_⟩
  (repeat (first | refine Or.inl ⟨rfl, rfl, ?_⟩ | refine Or.inl ⟨rfl, ?_⟩ | refine Or.inr ?_))
  refine ⟨_, wrap_i64 (n := (xs.length : Int) - (leftL o xs).length) (by omega) (by omega), ?_⟩
  (repeat (first | refine Or.inl ⟨rfl, rfl, ?_⟩ | refine Or.inl ⟨rfl, ?_⟩ | refine Or.inr ?_))
  exact ⟨_, ⟨rfl, A', c', rfl⟩, fun _ _ h => h.sel [1, 0] rfl⟩

end Go.Proofs.YthpcahgdobnljaaGreat.Rt
