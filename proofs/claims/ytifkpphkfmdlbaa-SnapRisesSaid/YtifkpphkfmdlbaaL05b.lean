/- The laws of layer 5, more: what each run comes to. -/
import Derived.Test.YtifkpphkfmdlbaaL05
set_option autoImplicit false
set_option linter.unusedVariables false
namespace Go.Proofs.Ytifkpphkfmdlbaa
open Go.RX Go Go.RowKit


theorem snap_same_refl (mx : Int) (A : Option Addr) (c : Nat) (op : List Int) (w0 : World) (hA : RdI w0 A op) (hn : op.length ≤ 4611686018427387904) :
    Calls Try.prog 17 #[snV mx A op.length c, snV mx A op.length c] w0 fun e w' => e = .returned (.bool true) ∧ Below w0.heap.size w0 w' := by
  have := snap_same mx mx A A c c op op w0 hA hA hn
  simpa using this

theorem snap_same_max (mx : Int) (A : Option Addr) (c : Nat) (op : List Int) (w0 : World) (hA : RdI w0 A op) (hn : op.length ≤ 4611686018427387904) :
    Calls Try.prog 17 #[snV mx A op.length c, snV (mx + 1) A op.length c] w0 fun e w' => e = .returned (.bool false) ∧ Below w0.heap.size w0 w' := by
  have := snap_same mx (mx + 1) A A c c op op w0 hA hA hn
  rwa [decide_eq_false (by omega), Bool.false_and] at this

set_option maxHeartbeats 1000000 in
theorem l05_SnapSees (mx : Int) (A : Option Addr) (c : Nat) (op : List Int) (x : Int) (w0 : World) (hA : RdI w0 A op) :
    Calls Try.prog 4 #[.int .i64 mx, .slice A op.length c, .int .i64 x] w0 fun e w' => e = .returned (.bool true) ∧ Below w0.heap.size w0 w' := by
  refine enterP (tab := tab) Try.func4 rfl Try.ntmps4 rfl (args := [_, _, _]) rfl ?_
  refine VC_sound tabOk 100 ?_
  refine ⟨fun h1 => ?_, fun h1 => ?_⟩
  · refine Go_ops rfl (OpTo_pcall (v := .bool true) rfl rfl rfl rfl rfl (by kernel_rfl) (fun w hm _ => l05_five w) ?_)
    refine VC_sound tabOk 100 ?_
    rfl
  · have hn : op.length ≤ 40 := by simp at h1; omega
    intro b7 _
    (repeat (first | refine Or.inl ⟨rfl, rfl, ?_⟩ | refine Or.inl ⟨rfl, ?_⟩ | refine Or.inr ?_))
    refine Go_res [.blk b7 26 [.int .i64 mx, .slice A op.length c]] (fun _ h => h) ?_
    show Go _ _ _ _
    refine Go_any mixed [] [(0, true), (1, false), (3, false), (6, false), (2, false), (5, false), (4, true), (7, true), (8, false), (9, false), (10, false), (12, false), (13, false), (16, false), (17, false), (11, false), (15, false), (14, true), (18, true), (19, false), (20, false), (21, false), (22, false), (24, false), (23, true), (25, true), (26, false), (27, false), (28, false), (29, false), (30, false), (31, true), (32, false), (33, false)] rfl (by kernel_rfl) (by kernel_rfl) [.blk b7 26 [.int .i64 mx, .slice A op.length c]] (FrmX [heapOf w0]) (FrmX.stable _) (fun w hm _ => ⟨Holds.of_mod hm (by simp), FrmX.of_mod hm⟩) ?_
    refine VC_sound tabOk 100 ?_
    refine Go_aloneS rfl rfl (fun w hm _ => ⟨Holds.of_mod hm (by simp), FrmX.of_mod hm⟩) (OpTo_pcall (v := .bool true) rfl rfl rfl rfl rfl (by kernel_rfl) (fun w hm _ => l05_five w) ?_)
    refine And.intro rfl ?_
    refine VC_sound tabOk 100 ?_
    refine ⟨fun _ => ?_, fun h => by simp at h⟩
    (repeat (first | refine Or.inl ⟨rfl, rfl, ?_⟩ | refine Or.inl ⟨rfl, ?_⟩ | refine Or.inr ?_))
    refine Go_aloneS rfl rfl (fun w hm _ => ⟨Holds.of_mod hm (by simp), FrmX.of_mod hm⟩) (OpTo_pcall (v := .bool (snSees mx op x)) rfl rfl rfl rfl rfl (by kernel_rfl) (fun w hm _ => snap_sees mx A c op x w (hA.mod hm) (by omega)) ?_)
    refine And.intro rfl ?_
    refine VC_sound tabOk 100 ?_
    (repeat (first | refine Or.inl ⟨rfl, rfl, ?_⟩ | refine Or.inl ⟨rfl, ?_⟩ | refine Or.inr ?_))
    refine Go_aloneS rfl rfl (fun w hm _ => ⟨Holds.of_mod hm (by simp), FrmX.of_mod hm⟩) (OpTo_pcall (v := .bool (snSees mx op x)) rfl rfl rfl rfl rfl (by kernel_rfl) (fun w hm _ => r05_sees mx A c op x w (hA.mod hm) (by omega)) ?_)
    refine And.intro rfl ?_
    refine VC_sound tabOk 100 ?_
    refine ⟨fun _ => ?_, fun h => by simp at h⟩
    (repeat (first | refine Or.inl ⟨rfl, rfl, ?_⟩ | refine Or.inl ⟨rfl, ?_⟩ | refine Or.inr ?_))
    refine ⟨by decide, _, rfl, ?_⟩
    refine ⟨by decide, _, rfl, ?_⟩
    (repeat (first | refine Or.inl ⟨rfl, rfl, ?_⟩ | refine Or.inl ⟨rfl, ?_⟩ | refine Or.inr ?_))
    refine Go_aloneS rfl rfl (fun w hm _ => ⟨Holds.of_mod hm (by simp), FrmX.of_mod hm⟩) (OpTo_pcall (v := .bool (snSees mx op (x.tmod 10))) rfl rfl rfl rfl rfl (by kernel_rfl) (fun w hm _ => snap_sees mx A c op (x.tmod 10) w (hA.mod hm) (by omega)) ?_)
    refine And.intro rfl ?_
    refine VC_sound tabOk 100 ?_
    refine Go_aloneS rfl rfl (fun w hm _ => ⟨Holds.of_mod hm (by simp), FrmX.of_mod hm⟩) (OpTo_pcall (v := .bool (snSees mx op (x.tmod 10))) rfl rfl rfl rfl rfl (by kernel_rfl) (fun w hm _ => r05_sees mx A c op (x.tmod 10) w (hA.mod hm) (by omega)) ?_)
    refine And.intro rfl ?_
    refine VC_sound tabOk 100 ?_
    refine ⟨fun _ => ?_, fun h => by simp at h⟩
    (repeat (first | refine Or.inl ⟨rfl, rfl, ?_⟩ | refine Or.inl ⟨rfl, ?_⟩ | refine Or.inr ?_))
    refine Go_aloneS rfl rfl (fun w hm _ => ⟨Holds.of_mod hm (by simp), FrmX.of_mod hm⟩) (OpTo_pcall (v := .bool (snRight mx op)) rfl rfl rfl rfl rfl (by kernel_rfl) (fun w hm _ => snap_right mx A c op w (hA.mod hm) (by omega)) ?_)
    refine And.intro rfl ?_
    refine VC_sound tabOk 100 ?_
    refine Go_aloneS rfl rfl (fun w hm _ => ⟨Holds.of_mod hm (by simp), FrmX.of_mod hm⟩) (OpTo_pcall (v := .bool (snRight mx op)) rfl rfl rfl rfl rfl (by kernel_rfl) (fun w hm _ => r05_right mx A c op w (hA.mod hm) (by omega)) ?_)
    refine And.intro rfl ?_
    refine VC_sound tabOk 100 ?_
    refine ⟨fun _ => ?_, fun h => by simp at h⟩
    (repeat (first | refine Or.inl ⟨rfl, rfl, ?_⟩ | refine Or.inl ⟨rfl, ?_⟩ | refine Or.inr ?_))
    refine Go_aloneS rfl rfl (fun w hm _ => ⟨Holds.of_mod hm (by simp), FrmX.of_mod hm⟩) (OpTo_pcall (v := .bool true) rfl rfl rfl rfl rfl (by kernel_rfl) (fun w hm _ => snap_same_refl mx A c op w (hA.mod hm) (by omega)) ?_)
    refine And.intro rfl ?_
    refine VC_sound tabOk 100 ?_
    rfl

set_option maxHeartbeats 1000000 in
theorem l05_SnapSame (m n : Int) (A B : Option Addr) (c d : Nat) (op oq : List Int) (w0 : World) (hA : RdW w0 A (op.flatMap (encI .u8))) (hB : RdW w0 B (oq.flatMap (encI .u8))) (hm0 : 0 ≤ m ∧ m ≤ 255) (hn0 : 0 ≤ n ∧ n ≤ 255) (hr : ∀ z ∈ op, 0 ≤ z ∧ z ≤ 255) (hs : ∀ z ∈ oq, 0 ≤ z ∧ z ≤ 255) :
    Calls Try.prog 5 #[.int .u8 m, .int .u8 n, .slice A op.length c, .slice B oq.length d] w0 fun e w' => e = .returned (.bool true) ∧ Below w0.heap.size w0 w' := by
  refine enterP (tab := tab) Try.func5 rfl Try.ntmps5 rfl (args := [_, _, _, _]) rfl ?_
  refine VC_sound tabOk 100 ?_
  refine ⟨fun h1 => ?_, fun h1 => ?_⟩
  · refine Go_ops rfl (OpTo_pcall (v := .bool true) rfl rfl rfl rfl rfl (by kernel_rfl) (fun w hm _ => l05_five w) ?_)
    refine VC_sound tabOk 100 ?_
    rfl
  · refine ⟨fun h2 => ?_, fun h2 => ?_⟩
    · refine Go_ops rfl (OpTo_pcall (v := .bool true) rfl rfl rfl rfl rfl (by kernel_rfl) (fun w hm _ => l05_five w) ?_)
      refine VC_sound tabOk 100 ?_
      rfl
    · have hn : op.length ≤ 20 := by simp at h1; omega
      have hn2 : oq.length ≤ 20 := by simp at h2; omega
      obtain ⟨K, hK, hK40⟩ := kOf m hm0
      obtain ⟨J, hJ, hJ40⟩ := kOf n hn0
      have hlen := ofUpto_len op K
      have hlen2 := ofUpto_len oq J
      refine Go_ops rfl (OpTo_ncall rfl rfl rfl rfl rfl (by kernel_rfl) (fun w hm _ => r05_of m A c op w (hA.mod hm) (by omega) K hm0 hK hr) ?_)
      rintro _ _ ⟨A1, c1, rfl, rfl⟩
      refine VC_sound tabOk 100 ?_
      refine Go_ops rfl (OpTo_ncall rfl rfl rfl rfl rfl (by kernel_rfl) (fun w hm _ => r05_of n B d oq w (hB.mod hm) (by omega) J hn0 hJ hs) ?_)
      rintro _ _ ⟨A2, c2, rfl, rfl⟩
      refine VC_sound tabOk 100 ?_
      intro b1 _ b2 _
      (repeat (first | refine Or.inl ⟨rfl, rfl, ?_⟩ | refine Or.inl ⟨rfl, ?_⟩ | refine Or.inr ?_))
      intro b3 _
      (repeat (first | refine Or.inl ⟨rfl, rfl, ?_⟩ | refine Or.inl ⟨rfl, ?_⟩ | refine Or.inr ?_))
      refine ⟨_, wrap_i64 (n := 1 + (K : Int) + 1) (by omega) (by omega), ?_⟩
      (repeat (first | refine Or.inl ⟨rfl, rfl, ?_⟩ | refine Or.inl ⟨rfl, ?_⟩ | refine Or.inr ?_))
      refine Go_res [.blk b3 26 [.int .i64 (1 + (K : Int) + 1), .slice A1 (ofUpto op K).length c1], .blk b2 26 [.int .i64 (1 + (J : Int)), .slice A2 (ofUpto oq J).length c2], .blk b1 26 [.int .i64 (1 + (K : Int)), .slice A1 (ofUpto op K).length c1], own (encI .i64) 1 2 A2 c2 (ofUpto oq J), own (encI .i64) 1 2 A1 c1 (ofUpto op K)] (fun _ h => h) ?_
      show Go _ _ _ _
      refine Go_any mixed [] [(0, true), (1, false), (5, false), (7, false), (2, false), (3, false), (6, false), (8, false), (9, false), (4, true), (10, false), (11, false), (13, false), (12, false), (14, false), (15, true), (16, false), (17, false), (18, false), (19, false), (20, false), (21, false), (22, true), (23, false), (24, false), (25, false)] rfl (by kernel_rfl) (by kernel_rfl) [.blk b3 26 [.int .i64 (1 + (K : Int) + 1), .slice A1 (ofUpto op K).length c1], .blk b2 26 [.int .i64 (1 + (J : Int)), .slice A2 (ofUpto oq J).length c2], .blk b1 26 [.int .i64 (1 + (K : Int)), .slice A1 (ofUpto op K).length c1]] (FrmX [heapOf w0]) (FrmX.stable _) (fun w hm _ => ⟨Holds.of_mod hm (by simp), FrmX.of_mod hm⟩) ?_
      refine VC_sound tabOk 100 ?_
      refine Go_aloneS rfl rfl (fun w hm _ => ⟨Holds.of_mod hm (by simp), FrmX.of_mod hm⟩) (OpTo_pcall (v := .bool true) rfl rfl rfl rfl rfl (by kernel_rfl) (fun w hm _ => l05_five w) ?_)
      refine And.intro rfl ?_
      refine VC_sound tabOk 100 ?_
      refine ⟨fun _ => ?_, fun h => by simp at h⟩
      (repeat (first | refine Or.inl ⟨rfl, rfl, ?_⟩ | refine Or.inl ⟨rfl, ?_⟩ | refine Or.inr ?_))
      refine Go_aloneS rfl rfl (fun w hm _ => ⟨Holds.of_mod hm (by simp), FrmX.of_mod hm⟩) (OpTo_pcall (v := .bool (decide (1 + (K : Int) = 1 + (J : Int)) && decide (ofUpto op K = ofUpto oq J))) rfl rfl rfl rfl rfl (by kernel_rfl) (fun w hm _ => snap_same (1 + (K : Int)) (1 + (J : Int)) A1 A2 c1 c2 (ofUpto op K) (ofUpto oq J) w (hm.own_rd (i := 4) rfl) (hm.own_rd (i := 3) rfl) (by omega)) ?_)
      refine And.intro rfl ?_
      refine VC_sound tabOk 100 ?_
      (repeat (first | refine Or.inl ⟨rfl, rfl, ?_⟩ | refine Or.inl ⟨rfl, ?_⟩ | refine Or.inr ?_))
      refine ⟨fun h3 => ?_, fun h3 => ?_⟩
      · (repeat (first | refine Or.inl ⟨rfl, rfl, ?_⟩ | refine Or.inl ⟨rfl, ?_⟩ | refine Or.inr ?_))
        refine Go_aloneS rfl rfl (fun w hm _ => ⟨Holds.of_mod hm (by simp), FrmX.of_mod hm⟩) (OpTo_pcall (v := .bool (decide (ofUpto op K = ofUpto oq J))) rfl rfl rfl rfl rfl (by kernel_rfl) (fun w hm _ => r01_ints A1 A2 c1 c2 (ofUpto op K) (ofUpto oq J) w (hm.own_rd (i := 4) rfl) (hm.own_rd (i := 3) rfl) (by omega)) ?_)
        refine And.intro rfl ?_
        refine VC_sound tabOk 100 ?_
        refine ⟨fun _ => ?_, fun h => by first | (have e := of_decide_eq_true h3; simp [e] at h) | (have e := of_decide_eq_false h3; simp [e] at h) | (simp only [h3] at h; simp at h)⟩
        (repeat (first | refine Or.inl ⟨rfl, rfl, ?_⟩ | refine Or.inl ⟨rfl, ?_⟩ | refine Or.inr ?_))
        refine Go_aloneS rfl rfl (fun w hm _ => ⟨Holds.of_mod hm (by simp), FrmX.of_mod hm⟩) (OpTo_pcall (v := .bool false) rfl rfl rfl rfl rfl (by kernel_rfl) (fun w hm _ => snap_same_max (1 + (K : Int)) A1 c1 (ofUpto op K) w (hm.own_rd (i := 4) rfl) (by omega)) ?_)
        refine And.intro rfl ?_
        refine VC_sound tabOk 100 ?_
        rfl
      · refine ⟨fun _ => ?_, fun h => by first | (have e := of_decide_eq_true h3; simp [e] at h) | (have e := of_decide_eq_false h3; simp [e] at h) | (simp only [h3] at h; simp at h)⟩
        (repeat (first | refine Or.inl ⟨rfl, rfl, ?_⟩ | refine Or.inl ⟨rfl, ?_⟩ | refine Or.inr ?_))
        refine Go_aloneS rfl rfl (fun w hm _ => ⟨Holds.of_mod hm (by simp), FrmX.of_mod hm⟩) (OpTo_pcall (v := .bool false) rfl rfl rfl rfl rfl (by kernel_rfl) (fun w hm _ => snap_same_max (1 + (K : Int)) A1 c1 (ofUpto op K) w (hm.own_rd (i := 4) rfl) (by omega)) ?_)
        refine And.intro rfl ?_
        refine VC_sound tabOk 100 ?_
        rfl

set_option maxHeartbeats 1000000 in
theorem l05_SnapCovers (m n : Int) (A B : Option Addr) (c d : Nat) (op oq : List Int) (w0 : World) (hA : RdW w0 A (op.flatMap (encI .u8))) (hB : RdW w0 B (oq.flatMap (encI .u8))) (hm0 : 0 ≤ m ∧ m ≤ 255) (hn0 : 0 ≤ n ∧ n ≤ 255) (hr : ∀ z ∈ op, 0 ≤ z ∧ z ≤ 255) (hs : ∀ z ∈ oq, 0 ≤ z ∧ z ≤ 255) :
    Calls Try.prog 6 #[.int .u8 m, .int .u8 n, .slice A op.length c, .slice B oq.length d] w0 fun e w' => e = .returned (.bool true) ∧ Below w0.heap.size w0 w' := by
  refine enterP (tab := tab) Try.func6 rfl Try.ntmps6 rfl (args := [_, _, _, _]) rfl ?_
  refine VC_sound tabOk 100 ?_
  refine ⟨fun h1 => ?_, fun h1 => ?_⟩
  · refine Go_ops rfl (OpTo_pcall (v := .bool true) rfl rfl rfl rfl rfl (by kernel_rfl) (fun w hm _ => l05_five w) ?_)
    refine VC_sound tabOk 100 ?_
    rfl
  · refine ⟨fun h2 => ?_, fun h2 => ?_⟩
    · refine Go_ops rfl (OpTo_pcall (v := .bool true) rfl rfl rfl rfl rfl (by kernel_rfl) (fun w hm _ => l05_five w) ?_)
      refine VC_sound tabOk 100 ?_
      rfl
    · have hn : op.length ≤ 20 := by simp at h1; omega
      have hn2 : oq.length ≤ 20 := by simp at h2; omega
      obtain ⟨K, hK, hK40⟩ := kOf m hm0
      obtain ⟨J, hJ, hJ40⟩ := kOf n hn0
      have hlen := ofUpto_len op K
      have hlen2 := ofUpto_len oq J
      have ha := snOk_of op K
      have hb := snOk_of oq J
      have hcov := snCovers_iff ha hb
      refine Go_ops rfl (OpTo_ncall rfl rfl rfl rfl rfl (by kernel_rfl) (fun w hm _ => r05_of m A c op w (hA.mod hm) (by omega) K hm0 hK hr) ?_)
      rintro _ _ ⟨A1, c1, rfl, rfl⟩
      refine VC_sound tabOk 100 ?_
      refine Go_ops rfl (OpTo_ncall rfl rfl rfl rfl rfl (by kernel_rfl) (fun w hm _ => r05_of n B d oq w (hB.mod hm) (by omega) J hn0 hJ hs) ?_)
      rintro _ _ ⟨A2, c2, rfl, rfl⟩
      refine VC_sound tabOk 100 ?_
      intro b1 _ b2 _
      (repeat (first | refine Or.inl ⟨rfl, rfl, ?_⟩ | refine Or.inl ⟨rfl, ?_⟩ | refine Or.inr ?_))
      refine Go_loop (σ := Int × Bool) (fun s => [(9, .v (.pointer (some ⟨b1, 0, none⟩))), (10, .v (.pointer (some ⟨b2, 0, none⟩))), (11, .v (.bool s.2)), (12, .v (.int .i64 s.1))])
        (fun _ => [.blk b2 26 [.int .i64 (1 + (J : Int)), .slice A2 (ofUpto oq J).length c2], .blk b1 26 [.int .i64 (1 + (K : Int)), .slice A1 (ofUpto op K).length c1], own (encI .i64) 1 2 A2 c2 (ofUpto oq J), own (encI .i64) 1 2 A1 c1 (ofUpto op K)])
        (fun s => 1 ≤ s.1 ∧ s.1 ≤ 50 ∧ (s.2 = true ↔ ∀ x, 1 ≤ x → x < s.1 → snSees (1 + (J : Int)) (ofUpto oq J) x = true → snSees (1 + (K : Int)) (ofUpto op K) x = true)) (fun s => (50 - s.1).toNat) (1, true) ⟨by simp, by simp, by simp; intro x h1 h2; omega⟩ ⟨rfl, rfl, rfl, rfl, trivial⟩ (fun _ h => h) ?_
      rintro ⟨x, all⟩ ⟨hx1, hx2, hall⟩
      simp only at hx1 hx2 hall
      have hstep : ∀ v : Bool, (v = true ↔ (all = true ∧ (snSees (1 + (J : Int)) (ofUpto oq J) x = true → snSees (1 + (K : Int)) (ofUpto op K) x = true))) → (v = true ↔ ∀ y, 1 ≤ y → y < x + 1 → snSees (1 + (J : Int)) (ofUpto oq J) y = true → snSees (1 + (K : Int)) (ofUpto op K) y = true) := by
        intro v hv
        rw [hv, hall]
        constructor
        · rintro ⟨h1, h2⟩ y h3 h4 h5
          by_cases e : y = x
          · subst e; exact h2 h5
          · exact h1 y h3 (by omega) h5
        · intro h
          exact ⟨fun y h1 h2 => h y h1 (by omega), h x (by omega) (by omega)⟩
      refine VC_sound tabOk 100 ?_
      refine ⟨fun h3 => ?_, fun h3 => ?_⟩
      · have h3 : x < 50 := by simpa using h3
        refine ⟨fun h4 => ?_, fun h4 => ?_⟩
        · (repeat (first | refine Or.inl ⟨rfl, rfl, ?_⟩ | refine Or.inl ⟨rfl, ?_⟩ | refine Or.inr ?_))
          refine Go_ops rfl (OpTo_pcall (v := .bool (snSees (1 + (J : Int)) (ofUpto oq J) x)) rfl rfl rfl rfl rfl (by kernel_rfl) (fun w hm _ => snap_sees (1 + (J : Int)) A2 c2 (ofUpto oq J) x w (hm.own_rd (i := 2) rfl) (by omega)) ?_)
          refine VC_sound tabOk 100 ?_
          refine ⟨fun h5 => ?_, fun h5 => ?_⟩
          · refine ⟨_, wrap_i64 (n := x + 1) (by omega) (by omega), ?_⟩
            refine Go_fin (x + 1, true) ⟨by omega, by omega, hstep true (by have h4 : all = true := h4; simp at h5; simp [h4, h5])⟩ (by simp; omega) ⟨rfl, rfl, rfl, rfl, trivial⟩ (fun _ h => h)
          · (repeat (first | refine Or.inl ⟨rfl, rfl, ?_⟩ | refine Or.inl ⟨rfl, ?_⟩ | refine Or.inr ?_))
            refine Go_ops rfl (OpTo_pcall (v := .bool (snSees (1 + (K : Int)) (ofUpto op K) x)) rfl rfl rfl rfl rfl (by kernel_rfl) (fun w hm _ => snap_sees (1 + (K : Int)) A1 c1 (ofUpto op K) x w (hm.own_rd (i := 3) rfl) (by omega)) ?_)
            refine VC_sound tabOk 100 ?_
            refine ⟨_, wrap_i64 (n := x + 1) (by omega) (by omega), ?_⟩
            refine Go_fin (x + 1, snSees (1 + (K : Int)) (ofUpto op K) x) ⟨by omega, by omega, hstep _ (by have h4 : all = true := h4; simp at h5; simp [h4, h5])⟩ (by simp; omega) ⟨rfl, rfl, rfl, rfl, trivial⟩ (fun _ h => h)
        · refine ⟨_, wrap_i64 (n := x + 1) (by omega) (by omega), ?_⟩
          refine Go_fin (x + 1, false) ⟨by omega, by omega, hstep false (by have h4 : all = false := h4; simp [h4])⟩ (by simp; omega) ⟨rfl, rfl, rfl, rfl, trivial⟩ (fun _ h => h)
      · have h3 : ¬ x < 50 := by simpa using h3
        have e : all = snCovers (1 + (K : Int)) (ofUpto op K) (1 + (J : Int)) (ofUpto oq J) := by
          rw [Bool.eq_iff_iff, hall, hcov]
          constructor
          · intro h y hy
            have := snSees_iff.1 hy
            exact h y this.1 (by omega) hy
          · intro h y _ _ hy
            exact h y hy
        subst e
        refine Go_ops rfl (OpTo_pcall (v := .bool true) rfl rfl rfl rfl rfl (by kernel_rfl) (fun w hm _ => l05_five w) ?_)
        refine VC_sound tabOk 100 ?_
        refine ⟨fun _ => ?_, fun h => by simp at h⟩
        (repeat (first | refine Or.inl ⟨rfl, rfl, ?_⟩ | refine Or.inl ⟨rfl, ?_⟩ | refine Or.inr ?_))
        refine Go_ops rfl (OpTo_pcall (v := .bool (snCovers (1 + (K : Int)) (ofUpto op K) (1 + (J : Int)) (ofUpto oq J))) rfl rfl rfl rfl rfl (by kernel_rfl) (fun w hm _ => snap_covers (1 + (K : Int)) (1 + (J : Int)) A1 A2 c1 c2 (ofUpto op K) (ofUpto oq J) w (hm.own_rd (i := 3) rfl) (hm.own_rd (i := 2) rfl) (by omega) (by omega) (by omega) (by omega)) ?_)
        refine VC_sound tabOk 100 ?_
        refine ⟨fun _ => ?_, fun h => by simp at h⟩
        (repeat (first | refine Or.inl ⟨rfl, rfl, ?_⟩ | refine Or.inl ⟨rfl, ?_⟩ | refine Or.inr ?_))
        refine Go_ops rfl (OpTo_pcall (v := .bool (snCovers (1 + (K : Int)) (ofUpto op K) (1 + (J : Int)) (ofUpto oq J))) rfl rfl rfl rfl rfl (by kernel_rfl) (fun w hm _ => r05_covers (1 + (K : Int)) (1 + (J : Int)) A1 A2 c1 c2 (ofUpto op K) (ofUpto oq J) w (hm.own_rd (i := 3) rfl) (hm.own_rd (i := 2) rfl) (by omega) (by omega) (by omega) (by omega)) ?_)
        refine VC_sound tabOk 100 ?_
        refine ⟨fun _ => ?_, fun h => by simp at h⟩
        (repeat (first | refine Or.inl ⟨rfl, rfl, ?_⟩ | refine Or.inl ⟨rfl, ?_⟩ | refine Or.inr ?_))
        refine Go_ops rfl (OpTo_pcall (v := .bool true) rfl rfl rfl rfl rfl (by kernel_rfl) (fun w hm _ => snCovers_refl ha ▸ snap_covers (1 + (K : Int)) (1 + (K : Int)) A1 A1 c1 c1 (ofUpto op K) (ofUpto op K) w (hm.own_rd (i := 3) rfl) (hm.own_rd (i := 3) rfl) (by omega) (by omega) (by omega) (by omega)) ?_)
        refine VC_sound tabOk 100 ?_
        rfl
end Go.Proofs.Ytifkpphkfmdlbaa
