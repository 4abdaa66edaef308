/- What the reference of layer 10 does. -/
import Derived.Test.YtdkalgnjfbbokaaL10c
import Derived.Test.YtdkalgnjfbbokaaR09
set_option autoImplicit false
set_option linter.unusedVariables false
set_option linter.unusedSimpArgs false
namespace Go.Proofs.Ytdkalgnjfbbokaa
open Go.RX Go Go.RowKit


theorem spool_addTo_out (bs : Nat) (i : Int) (e : EventM) (w0 : World) (h : i < 0 ∨ 3 ≤ i) :
    Calls Try.prog 15 #[.pointer (some ⟨bs, 0, none⟩), .int .i64 i, mkE e] w0 fun e' w' => e' = .returned (.int .i64 1) ∧ BelowD w0.heap.size w0 w' := by
  refine enterP (tab := tab) Try.func15 rfl Try.ntmps15 rfl (args := [_, _, _]) rfl ?_
  refine VC_sound tabOk 100 ?_
  intro b5 _
  refine ⟨fun _ => ?_, fun h1 => ?_⟩
  · rfl
  · refine ⟨fun _ => ?_, fun h2 => by have := of_decide_eq_false h1; have := of_decide_eq_false h2; omega⟩
    rfl

def rsR (br : Nat) (T : Tbs) (cur : Nat) : List Res := [.blk br 52 [T.1.v, T.2.1.v, T.2.2.v, .int .i64 cur], T.1.r, T.2.1.r, T.2.2.r]
theorem cellT (T : Tbs) (cur : Nat) (i : Nat) (hi : i < 3) (ti : TyI) (hti : tlook tab 39 = some ti) : partL ti [T.1.v, T.2.1.v, T.2.2.v, .int .i64 cur] (0 + 0 + ((i : Int).toNat * 1)) = some (get3 T i).v := by
  have : ti = (tlook tab 39).get rfl := by rw [Option.eq_some_iff_get_eq.1 hti |>.2]
  subst this
  have : i = 0 ∨ i = 1 ∨ i = 2 := by omega
  rcases this with rfl | rfl | rfl <;> rfl

theorem r10_addTo_out (br : Nat) (i : Int) (e : EventM) (w0 : World) (h : i < 0 ∨ 3 ≤ i) :
    Calls Try.prog 21 #[.pointer (some ⟨br, 0, none⟩), .int .i64 i, mkE e] w0 fun e' w' => e' = .returned (.int .i64 1) ∧ BelowD w0.heap.size w0 w' := by
  refine enterP (tab := tab) Try.func21 rfl Try.ntmps21 rfl (args := [_, _, _]) rfl ?_
  refine VC_sound tabOk 100 ?_
  intro b5 _
  refine ⟨fun _ => ?_, fun h1 => ?_⟩
  · rfl
  · refine ⟨fun _ => ?_, fun h2 => by have := of_decide_eq_false h1; have := of_decide_eq_false h2; omega⟩
    rfl

set_option maxHeartbeats 4000000 in
theorem r10_addTo (br : Nat) (T : Tbs) (cur i : Nat) (e : EventM) (w0 : World) (hfs : List PH) (hm : Mod hfs (rsR br T cur) w0) (hi : i < 3) (hl : len3 T ≤ 100000) :
    Calls Try.prog 21 #[.pointer (some ⟨br, 0, none⟩), .int .i64 i, mkE e] w0 fun e' w' => ∃ v Rs', e' = .returned v ∧ (∃ A' c', v = .int .i64 0 ∧ Rs' = rsR br (set3 T i ⟨A', c', (get3 T i).xs ++ [e]⟩) cur) ∧ Mod hfs Rs' w' ∧ Oth w0 w' := by
  have hle0 := len3_le T 0 (by omega)
  have hle1 := len3_le T 1 (by omega)
  have hle2 := len3_le T 2 (by omega)
  simp only [get3, pick3] at hle0 hle1 hle2
  refine enterN (tab := tab) Try.func21 rfl Try.ntmps21 rfl (args := [_, _, _]) rfl hm ?_
  have hi' : i = 0 ∨ i = 1 ∨ i = 2 := by omega
  rcases hi' with rfl | rfl | rfl
  · refine VC_sound tabOk 100 ?_
    intro b5 _
    refine ⟨fun h => by simp at h, fun _ => ?_⟩
    refine ⟨fun h => by simp at h, fun _ => ?_⟩
    refine ⟨⟨by omega, by omega⟩, ?_⟩
    (repeat (first | refine Or.inl ⟨rfl, rfl, ?_⟩ | refine Or.inl ⟨rfl, ?_⟩ | refine Or.inr ?_))
    refine Go_res [own encE 8 29 none 0 [], .blk b5 29 (encE e), .blk br 52 [T.1.v, T.2.1.v, T.2.2.v, .int .i64 cur], T.1.r, T.2.1.r, T.2.2.r] (fun w h => h.own_nil none) ?_
    show Go _ _ _ _
    refine Go_ops rfl (OpTo_append tabOk encE_is (xs := []) (ys := T.1.xs) (i := 0) rfl rfl rfl rfl rfl rfl rfl rfl rfl rfl rfl (fun w hm _ => hm.own_rd (i := 3) rfl) (by simp; omega) (by simp; omega) (fun A1 c1 => ?_))
    rw [List.nil_append]
    refine VC_sound tabOk 100 ?_
    refine Go_res [own encE 8 29 A1 c1 T.1.xs, .blk b5 29 (encE e), .blk br 52 [T.1.v, T.2.1.v, T.2.2.v, .int .i64 cur], T.1.r, T.2.1.r, T.2.2.r] (fun w h => h) ?_
    show Go _ _ _ _
    refine Go_any mixed [5, 9] [(0, false), (1, false), (2, false), (6, false), (7, false), (3, false), (4, true), (5, true), (8, false), (9, true)] rfl (by kernel_rfl) (by kernel_rfl) [.blk b5 29 (encE e), .blk br 52 [T.1.v, T.2.1.v, T.2.2.v, .int .i64 cur]] (FrmX hfs) (FrmX.stable _) (fun w hm _ => ⟨Holds.of_idx [1, 2] hm, FrmX.of_mod hm⟩) ?_
    refine VC_sound tabOk 100 ?_
    (repeat (first | refine Or.inl ⟨rfl, rfl, ?_⟩ | refine Or.inl ⟨rfl, ?_⟩ | refine Or.inr ?_))
    intro b9 _
    refine Go_aloneM rfl rfl rfl (OpTo_append tabOk encE_is (ys := [e]) (i := 1) rfl rfl rfl rfl rfl rfl rfl rfl rfl (by simp) rfl (fun w hm _ => hm.blk_rd (i := 0) rfl) (by simp; omega) (by simp; omega) (fun A2 c2 => ?_))
    refine VC_sound tabOk 100 ?_
    refine ⟨⟨by omega, by omega⟩, ?_⟩
    (repeat (first | refine Or.inl ⟨rfl, rfl, ?_⟩ | refine Or.inl ⟨rfl, ?_⟩ | refine Or.inr ?_))
    refine ⟨_, ⟨A2, c2, rfl, rfl⟩, fun hfs w h => ?_⟩
    have h := h.sel [3, 1, 5, 6] rfl
    rw [show 0 + T.1.xs.length + 1 = (T.1.xs ++ [e]).length by simp] at h
    exact h
  · refine VC_sound tabOk 100 ?_
    intro b5 _
    refine ⟨fun h => by simp at h, fun _ => ?_⟩
    refine ⟨fun h => by simp at h, fun _ => ?_⟩
    refine ⟨⟨by omega, by omega⟩, ?_⟩
    (repeat (first | refine Or.inl ⟨rfl, rfl, ?_⟩ | refine Or.inl ⟨rfl, ?_⟩ | refine Or.inr ?_))
    refine Go_res [own encE 8 29 none 0 [], .blk b5 29 (encE e), .blk br 52 [T.1.v, T.2.1.v, T.2.2.v, .int .i64 cur], T.1.r, T.2.1.r, T.2.2.r] (fun w h => h.own_nil none) ?_
    show Go _ _ _ _
    refine Go_ops rfl (OpTo_append tabOk encE_is (xs := []) (ys := T.2.1.xs) (i := 0) rfl rfl rfl rfl rfl rfl rfl rfl rfl rfl rfl (fun w hm _ => hm.own_rd (i := 4) rfl) (by simp; omega) (by simp; omega) (fun A1 c1 => ?_))
    rw [List.nil_append]
    refine VC_sound tabOk 100 ?_
    refine Go_res [own encE 8 29 A1 c1 T.2.1.xs, .blk b5 29 (encE e), .blk br 52 [T.1.v, T.2.1.v, T.2.2.v, .int .i64 cur], T.1.r, T.2.1.r, T.2.2.r] (fun w h => h) ?_
    show Go _ _ _ _
    refine Go_any mixed [5, 9] [(0, false), (1, false), (2, false), (6, false), (7, false), (3, false), (4, true), (5, true), (8, false), (9, true)] rfl (by kernel_rfl) (by kernel_rfl) [.blk b5 29 (encE e), .blk br 52 [T.1.v, T.2.1.v, T.2.2.v, .int .i64 cur]] (FrmX hfs) (FrmX.stable _) (fun w hm _ => ⟨Holds.of_idx [1, 2] hm, FrmX.of_mod hm⟩) ?_
    refine VC_sound tabOk 100 ?_
    (repeat (first | refine Or.inl ⟨rfl, rfl, ?_⟩ | refine Or.inl ⟨rfl, ?_⟩ | refine Or.inr ?_))
    intro b9 _
    refine Go_aloneM rfl rfl rfl (OpTo_append tabOk encE_is (ys := [e]) (i := 1) rfl rfl rfl rfl rfl rfl rfl rfl rfl (by simp) rfl (fun w hm _ => hm.blk_rd (i := 0) rfl) (by simp; omega) (by simp; omega) (fun A2 c2 => ?_))
    refine VC_sound tabOk 100 ?_
    refine ⟨⟨by omega, by omega⟩, ?_⟩
    (repeat (first | refine Or.inl ⟨rfl, rfl, ?_⟩ | refine Or.inl ⟨rfl, ?_⟩ | refine Or.inr ?_))
    refine ⟨_, ⟨A2, c2, rfl, rfl⟩, fun hfs w h => ?_⟩
    have h := h.sel [3, 4, 1, 6] rfl
    rw [show 0 + T.2.1.xs.length + 1 = (T.2.1.xs ++ [e]).length by simp] at h
    exact h
  · refine VC_sound tabOk 100 ?_
    intro b5 _
    refine ⟨fun h => by simp at h, fun _ => ?_⟩
    refine ⟨fun h => by simp at h, fun _ => ?_⟩
    refine ⟨⟨by omega, by omega⟩, ?_⟩
    (repeat (first | refine Or.inl ⟨rfl, rfl, ?_⟩ | refine Or.inl ⟨rfl, ?_⟩ | refine Or.inr ?_))
    refine Go_res [own encE 8 29 none 0 [], .blk b5 29 (encE e), .blk br 52 [T.1.v, T.2.1.v, T.2.2.v, .int .i64 cur], T.1.r, T.2.1.r, T.2.2.r] (fun w h => h.own_nil none) ?_
    show Go _ _ _ _
    refine Go_ops rfl (OpTo_append tabOk encE_is (xs := []) (ys := T.2.2.xs) (i := 0) rfl rfl rfl rfl rfl rfl rfl rfl rfl rfl rfl (fun w hm _ => hm.own_rd (i := 5) rfl) (by simp; omega) (by simp; omega) (fun A1 c1 => ?_))
    rw [List.nil_append]
    refine VC_sound tabOk 100 ?_
    refine Go_res [own encE 8 29 A1 c1 T.2.2.xs, .blk b5 29 (encE e), .blk br 52 [T.1.v, T.2.1.v, T.2.2.v, .int .i64 cur], T.1.r, T.2.1.r, T.2.2.r] (fun w h => h) ?_
    show Go _ _ _ _
    refine Go_any mixed [5, 9] [(0, false), (1, false), (2, false), (6, false), (7, false), (3, false), (4, true), (5, true), (8, false), (9, true)] rfl (by kernel_rfl) (by kernel_rfl) [.blk b5 29 (encE e), .blk br 52 [T.1.v, T.2.1.v, T.2.2.v, .int .i64 cur]] (FrmX hfs) (FrmX.stable _) (fun w hm _ => ⟨Holds.of_idx [1, 2] hm, FrmX.of_mod hm⟩) ?_
    refine VC_sound tabOk 100 ?_
    (repeat (first | refine Or.inl ⟨rfl, rfl, ?_⟩ | refine Or.inl ⟨rfl, ?_⟩ | refine Or.inr ?_))
    intro b9 _
    refine Go_aloneM rfl rfl rfl (OpTo_append tabOk encE_is (ys := [e]) (i := 1) rfl rfl rfl rfl rfl rfl rfl rfl rfl (by simp) rfl (fun w hm _ => hm.blk_rd (i := 0) rfl) (by simp; omega) (by simp; omega) (fun A2 c2 => ?_))
    refine VC_sound tabOk 100 ?_
    refine ⟨⟨by omega, by omega⟩, ?_⟩
    (repeat (first | refine Or.inl ⟨rfl, rfl, ?_⟩ | refine Or.inl ⟨rfl, ?_⟩ | refine Or.inr ?_))
    refine ⟨_, ⟨A2, c2, rfl, rfl⟩, fun hfs w h => ?_⟩
    have h := h.sel [3, 4, 5, 1] rfl
    rw [show 0 + T.2.2.xs.length + 1 = (T.2.2.xs ++ [e]).length by simp] at h
    exact h

set_option maxHeartbeats 2000000 in
theorem r10_all (br : Nat) (T : Tbs) (cur : Nat) (w0 : World) (hfs : List PH) (hm : Mod hfs (rsR br T cur) w0) (hl : len3 T ≤ 10000) :
    Calls Try.prog 25 #[.pointer (some ⟨br, 0, none⟩)] w0 fun e w' => ∃ v Rs', e = .returned v ∧ (∃ ys A' c', SrtR (pre3 T.1 T.2.1 T.2.2 3) ys ∧ v = .slice A' ys.length c' ∧ Rs' = own encE 8 29 A' c' ys :: rsR br T cur) ∧ Mod hfs Rs' w' ∧ Oth w0 w' := by
  have hp3 := pre3_len T
  have hbd : ∀ i, i < 3 → (pre3 T.1 T.2.1 T.2.2 i).length + (get3 T i).xs.length = (pre3 T.1 T.2.1 T.2.2 (i + 1)).length := fun i hi => by rw [pre3_succ _ _ _ i hi]; simp
  have hup : ∀ i, i ≤ 3 → (pre3 T.1 T.2.1 T.2.2 i).length ≤ 10000 := fun i hi => by
    have e0 := hbd 0 (by omega); have e1 := hbd 1 (by omega); have e2 := hbd 2 (by omega)
    simp only [Nat.zero_add, Nat.reduceAdd] at e0 e1 e2
    have : i = 0 ∨ i = 1 ∨ i = 2 ∨ i = 3 := by omega
    rcases this with rfl | rfl | rfl | rfl <;> omega
  refine enterN (tab := tab) Try.func25 rfl Try.ntmps25 rfl (args := [_]) rfl hm ?_
  refine VC_sound tabOk 100 ?_
  refine Go_loop (σ := Nat × Option Addr × Nat) (fun s => [(0, .v (.pointer (some ⟨br, 0, none⟩))), (3, .v (.slice s.2.1 (pre3 T.1 T.2.1 T.2.2 s.1).length s.2.2)), (4, .v (.int .i64 s.1))]) (fun s => own encE 8 29 s.2.1 s.2.2 (pre3 T.1 T.2.1 T.2.2 s.1) :: rsR br T cur) (fun s => s.1 ≤ 3) (fun s => 3 - s.1) (0, none, 0) (by simp) ⟨rfl, rfl, rfl, trivial⟩ (fun _ h => h.own_nil none) ?_
  rintro ⟨i, A2, c2⟩ hi
  dsimp only at hi ⊢
  refine VC_sound tabOk 100 ?_
  refine ⟨fun hc => ?_, fun hc => ?_⟩
  · have hlt : i < 3 := by have := of_decide_eq_true hc; omega
    have e1 := hbd i hlt
    have e2 := hup (i + 1) (by omega)
    refine ⟨⟨by omega, by omega⟩, ?_⟩
    refine Or.inr ?_
    refine Go_ops rfl (OpTo_loadBlk tabOk (cs := [T.1.v, T.2.1.v, T.2.2.v, .int .i64 cur]) (get3 T i).v rfl rfl rfl (fun w hm _ => hm.blk_at (i := 1) rfl) (cellT T cur i hlt _ rfl) ?_)
    refine VC_sound tabOk 100 ?_
    show Go _ _ _ _
    refine Go_ops rfl (OpTo_append tabOk encE_is (ys := (get3 T i).xs) (i := 0) rfl rfl rfl rfl rfl rfl rfl rfl rfl rfl rfl (fun w hm _ => by
      have : i = 0 ∨ i = 1 ∨ i = 2 := by omega
      rcases this with rfl | rfl | rfl
      · exact hm.own_rd (i := 2) rfl
      · exact hm.own_rd (i := 3) rfl
      · exact hm.own_rd (i := 4) rfl) (by simp; omega) (by omega) (fun A3 c3 => ?_))
    refine VC_sound tabOk 100 ?_
    refine ⟨_, wrap_i64 (n := (i : Int) + 1) (by omega) (by omega), ?_⟩
    refine Go_fin (i + 1, A3, c3) (by dsimp only; omega) (by dsimp only; omega) ⟨rfl, ?_, rfl, trivial⟩ (fun _ h => by dsimp only; rw [pre3_succ _ _ _ i hlt]; exact h)
    dsimp only; rw [← e1]
  have he : i = 3 := by have := of_decide_eq_false hc; omega
  subst he
  show Go _ _ _ _
  refine Go_ops rfl (OpTo_ncall rfl rfl rfl rfl rfl (by kernel_rfl) (fun w hm _ => r09_sort A2 c2 (pre3 T.1 T.2.1 T.2.2 3) w (hm.own_rd (i := 0) rfl) (by omega)) ?_)
  rintro _ _ ⟨ys, hS, A1, c1, rfl, rfl⟩
  refine VC_sound tabOk 100 ?_
  exact ⟨_, ⟨ys, A1, c1, hS, by rw [hS.2.2]; rfl, rfl⟩, fun _ _ h => h.sel [0, 2, 3, 4, 5] rfl⟩

set_option maxHeartbeats 2000000 in
theorem r10_next (br : Nat) (T : Tbs) (cur : Nat) (w0 : World) (hfs : List PH) (hm : Mod hfs (rsR br T cur) w0) (hi : cur < 3) :
    Calls Try.prog 26 #[.pointer (some ⟨br, 0, none⟩)] w0 fun e w' => ∃ v Rs', e = .returned v ∧ (v = (get3 T (nxt cur)).v ∧ Rs' = rsR br T cur) ∧ Mod hfs Rs' w' ∧ Oth w0 w' := by
  have hn : nxt cur < 3 := by simp only [nxt]; omega
  refine enterN (tab := tab) Try.func26 rfl Try.ntmps26 rfl (args := [_]) rfl hm ?_
  refine VC_sound tabOk 100 ?_
  show Go _ _ _ _
  refine Go_any mixed [] [(0, false), (1, false), (2, false), (3, false), (7, false), (8, false), (4, false), (5, false), (6, false), (9, false), (10, false), (11, false)] rfl (by kernel_rfl) (by kernel_rfl) [.blk br 52 [T.1.v, T.2.1.v, T.2.2.v, .int .i64 cur]] (fun _ => True) (fun _ _ _ h => h) (fun w hm _ => ⟨Holds.of_idx [0] hm, trivial⟩) ?_
  refine VC_sound tabOk 100 ?_
  (repeat (first | refine Or.inl ⟨rfl, rfl, ?_⟩ | refine Or.inl ⟨rfl, ?_⟩ | refine Or.inr ?_))
  refine ⟨_, wrap_i64 (n := (cur : Int) + 1) (by omega) (by omega), ?_⟩
  refine ⟨by decide, (nxt cur : Nat), ?_, ?_⟩
  · rw [Int.tmod_eq_emod_of_nonneg (by omega)]; simp [nxt]
  refine ⟨⟨by omega, by omega⟩, ?_⟩
  have : cur = 0 ∨ cur = 1 ∨ cur = 2 := by omega
  rcases this with rfl | rfl | rfl
  · (repeat (first | refine Or.inl ⟨rfl, rfl, ?_⟩ | refine Or.inl ⟨rfl, ?_⟩ | refine Or.inr ?_))
    exact ⟨_, ⟨rfl, rfl⟩, fun _ _ h => h⟩
  · (repeat (first | refine Or.inl ⟨rfl, rfl, ?_⟩ | refine Or.inl ⟨rfl, ?_⟩ | refine Or.inr ?_))
    exact ⟨_, ⟨rfl, rfl⟩, fun _ _ h => h⟩
  · (repeat (first | refine Or.inl ⟨rfl, rfl, ?_⟩ | refine Or.inl ⟨rfl, ?_⟩ | refine Or.inr ?_))
    exact ⟨_, ⟨rfl, rfl⟩, fun _ _ h => h⟩

set_option maxHeartbeats 4000000 in
theorem r10_rotate (br : Nat) (T : Tbs) (cur : Nat) (free : Bool) (w0 : World) (hfs : List PH) (hm : Mod hfs (rsR br T cur) w0) (hi : cur < 3) :
    Calls Try.prog 23 #[.pointer (some ⟨br, 0, none⟩), .bool free] w0 fun e w' => ∃ v Rs', e = .returned v ∧ (((get3 T (nxt cur)).xs = [] ∧ v = .tuple #[.int .u8 2, .int .i64 0] ∧ Rs' = rsR br T (nxt cur)) ∨ ((get3 T (nxt cur)).xs ≠ [] ∧ free = false ∧ v = .tuple #[.int .u8 0, .int .i64 9] ∧ Rs' = rsR br T cur) ∨ ((get3 T (nxt cur)).xs ≠ [] ∧ free = true ∧ v = .tuple #[.int .u8 1, .int .i64 0] ∧ Rs' = rsR br (set3 T (nxt cur) noTb) cur)) ∧ Mod hfs Rs' w' ∧ Oth w0 w' := by
  refine enterN (tab := tab) Try.func23 rfl Try.ntmps23 rfl (args := [_, _]) rfl hm ?_
  have : cur = 0 ∨ cur = 1 ∨ cur = 2 := by omega
  rcases this with rfl | rfl | rfl
  · refine VC_sound tabOk 100 ?_
    (repeat (first | refine Or.inl ⟨rfl, rfl, ?_⟩ | refine Or.inl ⟨rfl, ?_⟩ | refine Or.inr ?_))
    refine ⟨_, wrap_i64 (n := ((0 : Nat) : Int) + 1) (by omega) (by omega), ?_⟩
    refine ⟨by decide, 1, rfl, ?_⟩
    refine ⟨⟨by omega, by omega⟩, ?_⟩
    (repeat (first | refine Or.inl ⟨rfl, rfl, ?_⟩ | refine Or.inl ⟨rfl, ?_⟩ | refine Or.inr ?_))
    refine ⟨fun g1 => ?_, fun g1 => ?_⟩
    · have g1 : T.2.1.xs = [] := by simpa using g1
      (repeat (first | refine Or.inl ⟨rfl, rfl, ?_⟩ | refine Or.inl ⟨rfl, ?_⟩ | refine Or.inr ?_))
      exact ⟨_, .inl ⟨g1, rfl, rfl⟩, fun _ _ h => h⟩
    · have g1 : T.2.1.xs ≠ [] := fun h => by rw [h] at g1; simp at g1
      refine ⟨fun g2 => ?_, fun g2 => ?_⟩
      · exact ⟨_, .inr (.inl ⟨g1, by simpa using g2, rfl, rfl⟩), fun _ _ h => h⟩
      · refine ⟨⟨by omega, by omega⟩, ?_⟩
        (repeat (first | refine Or.inl ⟨rfl, rfl, ?_⟩ | refine Or.inl ⟨rfl, ?_⟩ | refine Or.inr ?_))
        refine ⟨_, .inr (.inr ⟨g1, by simpa using g2, rfl, rfl⟩), fun hfs w h => ?_⟩
        exact ((h.own_nil (enc := encE) (k := 8) (T := 29) none).sel [1, 2, 0, 4] rfl)
  · refine VC_sound tabOk 100 ?_
    (repeat (first | refine Or.inl ⟨rfl, rfl, ?_⟩ | refine Or.inl ⟨rfl, ?_⟩ | refine Or.inr ?_))
    refine ⟨_, wrap_i64 (n := ((1 : Nat) : Int) + 1) (by omega) (by omega), ?_⟩
    refine ⟨by decide, 2, rfl, ?_⟩
    refine ⟨⟨by omega, by omega⟩, ?_⟩
    (repeat (first | refine Or.inl ⟨rfl, rfl, ?_⟩ | refine Or.inl ⟨rfl, ?_⟩ | refine Or.inr ?_))
    refine ⟨fun g1 => ?_, fun g1 => ?_⟩
    · have g1 : T.2.2.xs = [] := by simpa using g1
      (repeat (first | refine Or.inl ⟨rfl, rfl, ?_⟩ | refine Or.inl ⟨rfl, ?_⟩ | refine Or.inr ?_))
      exact ⟨_, .inl ⟨g1, rfl, rfl⟩, fun _ _ h => h⟩
    · have g1 : T.2.2.xs ≠ [] := fun h => by rw [h] at g1; simp at g1
      refine ⟨fun g2 => ?_, fun g2 => ?_⟩
      · exact ⟨_, .inr (.inl ⟨g1, by simpa using g2, rfl, rfl⟩), fun _ _ h => h⟩
      · refine ⟨⟨by omega, by omega⟩, ?_⟩
        (repeat (first | refine Or.inl ⟨rfl, rfl, ?_⟩ | refine Or.inl ⟨rfl, ?_⟩ | refine Or.inr ?_))
        refine ⟨_, .inr (.inr ⟨g1, by simpa using g2, rfl, rfl⟩), fun hfs w h => ?_⟩
        exact ((h.own_nil (enc := encE) (k := 8) (T := 29) none).sel [1, 2, 3, 0] rfl)
  · refine VC_sound tabOk 100 ?_
    (repeat (first | refine Or.inl ⟨rfl, rfl, ?_⟩ | refine Or.inl ⟨rfl, ?_⟩ | refine Or.inr ?_))
    refine ⟨_, wrap_i64 (n := ((2 : Nat) : Int) + 1) (by omega) (by omega), ?_⟩
    refine ⟨by decide, 0, rfl, ?_⟩
    refine ⟨⟨by omega, by omega⟩, ?_⟩
    (repeat (first | refine Or.inl ⟨rfl, rfl, ?_⟩ | refine Or.inl ⟨rfl, ?_⟩ | refine Or.inr ?_))
    refine ⟨fun g1 => ?_, fun g1 => ?_⟩
    · have g1 : T.1.xs = [] := by simpa using g1
      (repeat (first | refine Or.inl ⟨rfl, rfl, ?_⟩ | refine Or.inl ⟨rfl, ?_⟩ | refine Or.inr ?_))
      exact ⟨_, .inl ⟨g1, rfl, rfl⟩, fun _ _ h => h⟩
    · have g1 : T.1.xs ≠ [] := fun h => by rw [h] at g1; simp at g1
      refine ⟨fun g2 => ?_, fun g2 => ?_⟩
      · exact ⟨_, .inr (.inl ⟨g1, by simpa using g2, rfl, rfl⟩), fun _ _ h => h⟩
      · refine ⟨⟨by omega, by omega⟩, ?_⟩
        (repeat (first | refine Or.inl ⟨rfl, rfl, ?_⟩ | refine Or.inl ⟨rfl, ?_⟩ | refine Or.inr ?_))
        refine ⟨_, .inr (.inr ⟨g1, by simpa using g2, rfl, rfl⟩), fun hfs w h => ?_⟩
        exact ((h.own_nil (enc := encE) (k := 8) (T := 29) none).sel [1, 0, 3, 4] rfl)

theorem rs_rd {R : Res} {br : Nat} {T : Tbs} {cur : Nat} {hfs : List PH} {w : World} (hm : Mod hfs (R :: rsR br T cur) w) (i : Nat) (hi : i < 3) : RdW w (get3 T i).A ((get3 T i).xs.flatMap encE) := by
  have : i = 0 ∨ i = 1 ∨ i = 2 := by omega
  rcases this with rfl | rfl | rfl
  · exact hm.own_rd (i := 2) rfl
  · exact hm.own_rd (i := 3) rfl
  · exact hm.own_rd (i := 4) rfl
def ntx (x : Int) (xs : List EventM) : List EventM := xs.filter fun e => !decide (e.tx = x)
theorem ntx_len (x : Int) (xs : List EventM) : (ntx x xs).length ≤ xs.length := List.length_filter_le _ _

set_option maxHeartbeats 8000000 in
theorem r10_forget (br : Nat) (T : Tbs) (cur : Nat) (x : Int) (w0 : World) (hfs : List PH) (hm : Mod hfs (rsR br T cur) w0) (hl : len3 T ≤ 10000) :
    Calls Try.prog 22 #[.pointer (some ⟨br, 0, none⟩), .int .i64 x] w0 fun e w' => ∃ v Rs', e = .returned v ∧ (∃ S : Tbs, v = .int .i64 ((len3 T : Int) - len3 S) ∧ (∀ k, k < 3 → (get3 S k).xs = ntx x (get3 T k).xs) ∧ Rs' = rsR br S cur) ∧ Mod hfs Rs' w' ∧ Oth w0 w' := by
  refine enterN (tab := tab) Try.func22 rfl Try.ntmps22 rfl (args := [_, _]) rfl hm ?_
  refine VC_sound tabOk 100 ?_
  refine Go_loop (σ := Nat × Tbs) (fun s => [(0, .v (.pointer (some ⟨br, 0, none⟩))), (1, .v (.int .i64 x)), (5, .v (.int .i64 ((len3 T : Int) - len3 s.2))), (6, .v (.int .i64 s.1))]) (fun s => rsR br s.2 cur) (fun s => s.1 ≤ 3 ∧ len3 s.2 ≤ len3 T ∧ ∀ k, k < 3 → (get3 s.2 k).xs = if k < s.1 then ntx x (get3 T k).xs else (get3 T k).xs) (fun s => 3 - s.1) (0, T) ⟨Nat.zero_le _, Nat.le_refl _, fun k _ => by rw [if_neg (Nat.not_lt_zero _)]⟩ ⟨rfl, rfl, congrArg (Value.int .i64) (by dsimp only; omega), rfl, trivial⟩ (fun _ h => h) ?_
  rintro ⟨i, S⟩ ⟨hi, hS, hX⟩
  dsimp only at hi hS hX ⊢
  refine VC_sound tabOk 100 ?_
  refine ⟨fun hc => ?_, fun hc => ?_⟩
  · have hlt : i < 3 := by have := of_decide_eq_true hc; omega
    have hxi : (get3 S i).xs = (get3 T i).xs := by rw [hX i hlt, if_neg (Nat.lt_irrefl _)]
    have hle := len3_le S i hlt
    refine Go_res (own encE 8 29 none 0 [] :: rsR br S cur) (fun w h => h.own_nil none) ?_
    generalize hxs : (get3 S i).xs = xs at hle hxi
    refine Go_loop (σ := Nat × Option Addr × Nat) (fun s => [(0, .v (.pointer (some ⟨br, 0, none⟩))), (1, .v (.int .i64 x)), (5, .v (.int .i64 ((len3 T : Int) - len3 S + ((s.1 : Int) - (ntx x (xs.take s.1)).length)))), (6, .v (.int .i64 i)), (7, .v (.slice s.2.1 (ntx x (xs.take s.1)).length s.2.2)), (8, .v (.int .i64 s.1))]) (fun s => own encE 8 29 s.2.1 s.2.2 (ntx x (xs.take s.1)) :: rsR br S cur) (fun s => s.1 ≤ xs.length) (fun s => xs.length - s.1) (0, none, 0) (Nat.zero_le _) ⟨rfl, rfl, congrArg (Value.int .i64) (by simp [ntx]), rfl, rfl, rfl, trivial⟩ (fun _ h => h) ?_
    rintro ⟨j, A1, c1⟩ hj
    dsimp only at hj ⊢
    have hn1 := ntx_len x (xs.take j)
    rw [List.length_take] at hn1
    refine VC_sound tabOk 100 ?_
    refine ⟨⟨by omega, by omega⟩, ?_⟩
    refine Or.inr ?_
    refine Go_ops rfl (OpTo_loadBlk tabOk (cs := [S.1.v, S.2.1.v, S.2.2.v, .int .i64 cur]) (get3 S i).v rfl rfl rfl (fun w hm _ => hm.blk_at (i := 1) rfl) (cellT S cur i hlt _ rfl) ?_)
    by_cases hjl : j < xs.length
    · obtain ⟨e, hge⟩ : ∃ e, xs[j]? = some e := ⟨_, List.getElem?_eq_getElem hjl⟩
      have hstep : ntx x (xs.take (j + 1)) = ntx x (xs.take j) ++ if e.tx = x then [] else [e] := by
        rw [List.take_add_one, hge, ntx, List.filter_append, ntx]
        congr 1
        by_cases h : e.tx = x <;> simp [h]
      refine Go_with _ (fun w hm _ => RdW.some encE_is (rs_rd hm i hlt) (by rw [hxs]; exact ne_nil_of_lt hjl)) ?_
      rintro ⟨bb, ob, hA⟩
      have hv : (get3 S i).v = .slice (some ⟨bb, ob, none⟩) xs.length (get3 S i).c := by rw [Tb.v, hA, hxs]
      have hrd : ∀ {hfs : List PH} {R : Res} {w : World}, Mod hfs (R :: rsR br S cur) w → RdW w (some ⟨bb, ob, none⟩) (xs.flatMap encE) := fun hm => by
        have := rs_rd hm i hlt
        rwa [hA, hxs] at this
      rw [hv]
      refine VC_sound tabOk 100 ?_
      refine ⟨fun _ => ?_, fun h => by simp at h; omega⟩
      refine ⟨⟨by omega, by omega⟩, ?_⟩
      refine Or.inr ?_
      refine Go_ops rfl (OpTo_loadBlk tabOk (cs := [S.1.v, S.2.1.v, S.2.2.v, .int .i64 cur]) (.slice (some ⟨bb, ob, none⟩) xs.length (get3 S i).c) rfl rfl rfl (fun w hm _ => hm.blk_at (i := 1) rfl) (by rw [← hv]; exact cellT S cur i hlt _ rfl) ?_)
      refine VC_sound tabOk 100 ?_
      refine ⟨⟨by omega, by omega⟩, ?_⟩
      refine Or.inr ?_
      refine Go_ops rfl (OpTo_loadPart tabOk encE_is (n := j) (j := 1) (.int .i64 e.tx) rfl rfl rfl (fun w hm _ => hrd hm) hge rfl (by simp only [addA]; rfl) ?_)
      refine VC_sound tabOk 100 ?_
      refine ⟨fun h => ?_, fun h => ?_⟩
      · have h' := of_decide_eq_true h
        refine ⟨_, wrap_i64 (n := (len3 T : Int) - len3 S + ((j : Int) - (ntx x (xs.take j)).length) + 1) (by omega) (by omega), ?_⟩
        refine ⟨_, wrap_i64 (n := (j : Int) + 1) (by omega) (by omega), ?_⟩
        have e2 : ntx x (xs.take (j + 1)) = ntx x (xs.take j) := by rw [hstep, if_pos h', List.append_nil]
        exact Go_fin (j + 1, A1, c1) (by dsimp only; omega) (by dsimp only; omega) ⟨rfl, rfl, congrArg (Value.int .i64) (by dsimp only; rw [e2]; omega), rfl, (by dsimp only; rw [e2]), rfl, trivial⟩ (fun _ h => by dsimp only; rw [e2]; exact h)
      · have h' := of_decide_eq_false h
        have e2 : ntx x (xs.take (j + 1)) = ntx x (xs.take j) ++ [e] := by rw [hstep, if_neg h']
        refine ⟨⟨by omega, by omega⟩, ?_⟩
        refine Or.inr ?_
        refine Go_ops rfl (OpTo_loadBlk tabOk (cs := [S.1.v, S.2.1.v, S.2.2.v, .int .i64 cur]) (.slice (some ⟨bb, ob, none⟩) xs.length (get3 S i).c) rfl rfl rfl (fun w hm _ => hm.blk_at (i := 1) rfl) (by rw [← hv]; exact cellT S cur i hlt _ rfl) ?_)
        refine VC_sound tabOk 100 ?_
        refine ⟨⟨by omega, by omega⟩, ?_⟩
        refine Or.inr ?_
        refine Go_ops rfl (OpTo_loadRow tabOk encE_is (mkE e) rfl rfl rfl rfl rfl (fun h => by first | rfl | cases h) (fun w hm _ => hrd hm) hge (by simp only [addA]; rfl) ?_)
        refine VC_sound tabOk 100 ?_
        intro b48 _
        show Go _ _ _ _
        refine Go_ops rfl (OpTo_append tabOk encE_is (ys := [e]) (i := 1) rfl rfl rfl rfl rfl rfl rfl rfl rfl rfl rfl (fun w hm _ => hm.blk_rd (i := 0) rfl) (by simp; omega) (by simp; omega) (fun A2 c2 => ?_))
        refine VC_sound tabOk 100 ?_
        refine ⟨_, wrap_i64 (n := (j : Int) + 1) (by omega) (by omega), ?_⟩
        exact Go_fin (j + 1, A2, c2) (by dsimp only; omega) (by dsimp only; omega) ⟨rfl, rfl, congrArg (Value.int .i64) (by dsimp only; rw [e2]; simp; omega), rfl, (by dsimp only; rw [e2]; simp [SV.val]), rfl, trivial⟩ (fun _ h => by dsimp only; rw [e2]; exact Mod.drop (a := [_]) h)
    have hje : j = xs.length := by omega
    subst hje
    rw [List.take_length] at hn1 ⊢
    have hv : (get3 S i).v = .slice (get3 S i).A xs.length (get3 S i).c := by rw [Tb.v, hxs]
    rw [hv]
    refine VC_sound tabOk 100 ?_
    refine ⟨fun h => by simp at h, fun _ => ?_⟩
    have hlen : len3 (set3 S i ⟨A1, c1, ntx x xs⟩) + xs.length = len3 S + (ntx x xs).length := by
      have : i = 0 ∨ i = 1 ∨ i = 2 := by omega
      rcases this with rfl | rfl | rfl <;> simp only [get3, pick3] at hxs <;> simp only [sum3, set3, hxs] <;> omega
    have hn2 := ntx_len x xs
    have inv : i + 1 ≤ 3 ∧ len3 (set3 S i ⟨A1, c1, ntx x xs⟩) ≤ len3 T ∧ ∀ k, k < 3 → (get3 (set3 S i ⟨A1, c1, ntx x xs⟩) k).xs = if k < i + 1 then ntx x (get3 T k).xs else (get3 T k).xs := by
      refine ⟨hlt, by omega, fun k hk => ?_⟩
      rw [get_set3 S i k _ hlt hk]
      by_cases hki : k = i
      · subst hki; rw [if_pos rfl, if_pos (by omega), hxi]
      · rw [if_neg hki, hX k hk]
        by_cases h : k < i
        · rw [if_pos h, if_pos (by omega)]
        · rw [if_neg h, if_neg (by omega)]
    refine ⟨⟨by omega, by omega⟩, ?_⟩
    have : i = 0 ∨ i = 1 ∨ i = 2 := by omega
    rcases this with rfl | rfl | rfl
    · (repeat (first | refine Or.inl ⟨rfl, rfl, ?_⟩ | refine Or.inl ⟨rfl, ?_⟩ | refine Or.inr ?_))
      refine ⟨_, wrap_i64 (n := ((0 : Nat) : Int) + 1) (by omega) (by omega), ?_⟩
      exact Go_fin (0 + 1, set3 S 0 ⟨A1, c1, ntx x xs⟩) inv (by dsimp only; omega) ⟨rfl, rfl, congrArg (Value.int .i64) (by dsimp only; omega), rfl, trivial⟩ (fun _ h => h.sel [1, 0, 3, 4] rfl)
    · (repeat (first | refine Or.inl ⟨rfl, rfl, ?_⟩ | refine Or.inl ⟨rfl, ?_⟩ | refine Or.inr ?_))
      refine ⟨_, wrap_i64 (n := ((1 : Nat) : Int) + 1) (by omega) (by omega), ?_⟩
      exact Go_fin (1 + 1, set3 S 1 ⟨A1, c1, ntx x xs⟩) inv (by dsimp only; omega) ⟨rfl, rfl, congrArg (Value.int .i64) (by dsimp only; omega), rfl, trivial⟩ (fun _ h => h.sel [1, 2, 0, 4] rfl)
    · (repeat (first | refine Or.inl ⟨rfl, rfl, ?_⟩ | refine Or.inl ⟨rfl, ?_⟩ | refine Or.inr ?_))
      refine ⟨_, wrap_i64 (n := ((2 : Nat) : Int) + 1) (by omega) (by omega), ?_⟩
      exact Go_fin (2 + 1, set3 S 2 ⟨A1, c1, ntx x xs⟩) inv (by dsimp only; omega) ⟨rfl, rfl, congrArg (Value.int .i64) (by dsimp only; omega), rfl, trivial⟩ (fun _ h => h.sel [1, 2, 3, 0] rfl)
  have he : i = 3 := by have := of_decide_eq_false hc; omega
  subst he
  exact ⟨_, ⟨S, rfl, fun k hk => by rw [hX k hk, if_pos hk], rfl⟩, fun _ _ h => h⟩
end Go.Proofs.Ytdkalgnjfbbokaa
