/- The laws of layer 5: what each runs comes to. -/
import Derived.Test.YtifkpphkfmdlbaaSnapLaw
set_option autoImplicit false
set_option linter.unusedVariables false
namespace Go.Proofs.Ytifkpphkfmdlbaa
open Go.RX Go Go.RowKit


theorem le_i64 {n m : Nat} (h : n ≤ m) (hm : m ≤ 4611686018427387904) : n ≤ 4611686018427387904 := Nat.le_trans h hm

set_option maxHeartbeats 1000000 in
theorem l05_five (w0 : World) : Calls Try.prog 9 #[] w0 fun e w' => e = .returned (.bool true) ∧ Below w0.heap.size w0 w' := by
  refine enterP (tab := tab) Try.func9 rfl Try.ntmps9 rfl (args := []) rfl ?_
  refine VC_sound tabOk 100 ?_
  intro b1 _ b2 _
  (repeat (first | refine Or.inl ⟨rfl, rfl, ?_⟩ | refine Or.inl ⟨rfl, ?_⟩ | refine Or.inr ?_))
  refine Go_ops rfl (OpTo_pcall (v := .bool true) rfl rfl rfl rfl rfl (by kernel_rfl) (fun w hm _ => snap_sees 5 (some ⟨b1, 0, none⟩) 1 [2] 1 w (hm.blk_rd (i := 1) rfl) (by decide)) ?_)
  refine VC_sound tabOk 100 ?_
  refine ⟨fun _ => ?_, fun h => nomatch h⟩
  (repeat (first | refine Or.inl ⟨rfl, rfl, ?_⟩ | refine Or.inl ⟨rfl, ?_⟩ | refine Or.inr ?_))
  refine Go_ops rfl (OpTo_pcall (v := .bool false) rfl rfl rfl rfl rfl (by kernel_rfl) (fun w hm _ => snap_sees 5 (some ⟨b1, 0, none⟩) 1 [2] 2 w (hm.blk_rd (i := 1) rfl) (by decide)) ?_)
  refine VC_sound tabOk 100 ?_
  refine ⟨fun _ => ?_, fun h => nomatch h⟩
  (repeat (first | refine Or.inl ⟨rfl, rfl, ?_⟩ | refine Or.inl ⟨rfl, ?_⟩ | refine Or.inr ?_))
  refine Go_ops rfl (OpTo_pcall (v := .bool true) rfl rfl rfl rfl rfl (by kernel_rfl) (fun w hm _ => snap_sees 5 (some ⟨b1, 0, none⟩) 1 [2] 4 w (hm.blk_rd (i := 1) rfl) (by decide)) ?_)
  refine VC_sound tabOk 100 ?_
  refine ⟨fun _ => ?_, fun h => nomatch h⟩
  (repeat (first | refine Or.inl ⟨rfl, rfl, ?_⟩ | refine Or.inl ⟨rfl, ?_⟩ | refine Or.inr ?_))
  refine Go_ops rfl (OpTo_pcall (v := .bool false) rfl rfl rfl rfl rfl (by kernel_rfl) (fun w hm _ => snap_sees 5 (some ⟨b1, 0, none⟩) 1 [2] 5 w (hm.blk_rd (i := 1) rfl) (by decide)) ?_)
  refine VC_sound tabOk 100 ?_
  refine ⟨fun _ => ?_, fun h => nomatch h⟩
  (repeat (first | refine Or.inl ⟨rfl, rfl, ?_⟩ | refine Or.inl ⟨rfl, ?_⟩ | refine Or.inr ?_))
  refine Go_ops rfl (OpTo_pcall (v := .int .i64 2) rfl rfl rfl rfl rfl (by kernel_rfl) (fun w hm _ => snap_least 5 (some ⟨b1, 0, none⟩) 1 [2] w (hm.blk_rd (i := 1) rfl)) ?_)
  refine VC_sound tabOk 100 ?_
  refine ⟨fun _ => ?_, fun h => nomatch h⟩
  (repeat (first | refine Or.inl ⟨rfl, rfl, ?_⟩ | refine Or.inl ⟨rfl, ?_⟩ | refine Or.inr ?_))
  refine Go_ops rfl (OpTo_pcall (v := .bool true) rfl rfl rfl rfl rfl (by kernel_rfl) (fun w hm _ => snap_right 5 (some ⟨b1, 0, none⟩) 1 [2] w (hm.blk_rd (i := 1) rfl) (by decide)) ?_)
  refine VC_sound tabOk 100 ?_
  rfl



theorem kOf (m : Int) (h : 0 ≤ m ∧ m ≤ 255) : ∃ K : Nat, m.tmod 40 = K ∧ K < 40 := by
  have h1 := Int.tmod_nonneg 40 h.1
  have h2 := Int.tmod_lt_of_pos m (b := 40) (by decide)
  exact ⟨(m.tmod 40).toNat, by omega, by omega⟩

set_option maxHeartbeats 1000000 in
theorem l05_SnapLeast (m : Int) (A : Option Addr) (c : Nat) (op : List Int) (w0 : World) (hA : RdW w0 A (op.flatMap (encI .u8))) (hm0 : 0 ≤ m ∧ m ≤ 255) (hr : ∀ z ∈ op, 0 ≤ z ∧ z ≤ 255) :
    Calls Try.prog 3 #[.int .u8 m, .slice A op.length c] w0 fun e w' => e = .returned (.bool true) ∧ Below w0.heap.size w0 w' := by
  refine enterP (tab := tab) Try.func3 rfl Try.ntmps3 rfl (args := [_, _]) rfl ?_
  refine VC_sound tabOk 100 ?_
  refine ⟨fun h1 => ?_, fun h1 => ?_⟩
  · refine Go_ops rfl (OpTo_pcall (v := .bool true) rfl rfl rfl rfl rfl (by kernel_rfl) (fun w hm _ => l05_five w) ?_)
    refine VC_sound tabOk 100 ?_
    rfl
  · have hn : op.length ≤ 20 := by simp at h1; omega
    obtain ⟨K, hK, hK40⟩ := kOf m hm0
    have hok := snOk_of op K
    have hlen := ofUpto_len op K
    have hlo := hok.least_le
    refine Go_ops rfl (OpTo_ncall rfl rfl rfl rfl rfl (by kernel_rfl) (fun w hm _ => r05_of m A c op w (hA.mod hm) (by omega) K hm0 hK hr) ?_)
    rintro _ _ ⟨A1, c1, rfl, rfl⟩
    refine VC_sound tabOk 100 ?_
    intro b5 _
    (repeat (first | refine Or.inl ⟨rfl, rfl, ?_⟩ | refine Or.inl ⟨rfl, ?_⟩ | refine Or.inr ?_))
    refine Go_ops rfl (OpTo_pcall (v := .int .i64 (snLeast (1 + (K : Int)) (ofUpto op K))) rfl rfl rfl rfl rfl (by kernel_rfl) (fun w hm _ => snap_least (1 + (K : Int)) A1 c1 (ofUpto op K) w (hm.own_rd (i := 1) rfl)) ?_)
    refine VC_sound tabOk 100 ?_
    refine Go_loop (σ := Int) (fun x => [(5, .v (.pointer (some ⟨b5, 0, none⟩))), (6, .v (.int .i64 (snLeast (1 + (K : Int)) (ofUpto op K)))), (7, .v (.int .i64 x))])
      (fun _ => [.blk b5 26 [.int .i64 (1 + (K : Int)), .slice A1 (ofUpto op K).length c1], own (encI .i64) 1 2 A1 c1 (ofUpto op K)])
      (fun x => 1 ≤ x ∧ x ≤ snLeast (1 + (K : Int)) (ofUpto op K)) (fun x => (snLeast (1 + (K : Int)) (ofUpto op K) - x).toNat) 1 (by omega) ⟨rfl, rfl, rfl, trivial⟩ (fun _ h => h) ?_
    intro x hx
    refine VC_sound tabOk 100 ?_
    refine ⟨fun h2 => ?_, fun h2 => ?_⟩
    · have h2 : x < snLeast (1 + (K : Int)) (ofUpto op K) := by simpa using h2
      have hs := hok.least_sees hx.1 h2
      (repeat (first | refine Or.inl ⟨rfl, rfl, ?_⟩ | refine Or.inl ⟨rfl, ?_⟩ | refine Or.inr ?_))
      refine Go_ops rfl (OpTo_pcall (v := .bool (snSees (1 + (K : Int)) (ofUpto op K) x)) rfl rfl rfl rfl rfl (by kernel_rfl) (fun w hm _ => snap_sees (1 + (K : Int)) A1 c1 (ofUpto op K) x w (hm.own_rd (i := 1) rfl) (by omega)) ?_)
      refine VC_sound tabOk 100 ?_
      refine ⟨fun h3 => ?_, fun h3 => ?_⟩
      · exact absurd hs (by simpa using h3)
      · refine ⟨_, wrap_i64 (n := x + 1) (by omega) (by omega), ?_⟩
        exact Go_fin (x + 1) (by omega) (by omega) ⟨rfl, rfl, rfl, trivial⟩ (fun _ h => h)
    · refine Go_ops rfl (OpTo_pcall (v := .bool true) rfl rfl rfl rfl rfl (by kernel_rfl) (fun w hm _ => l05_five w) ?_)
      refine VC_sound tabOk 100 ?_
      refine ⟨fun _ => ?_, fun h => nomatch h⟩
      (repeat (first | refine Or.inl ⟨rfl, rfl, ?_⟩ | refine Or.inl ⟨rfl, ?_⟩ | refine Or.inr ?_))
      refine Go_ops rfl (OpTo_pcall (v := .bool true) rfl rfl rfl rfl rfl (by kernel_rfl) (fun w hm _ => hok.right ▸ snap_right (1 + (K : Int)) A1 c1 (ofUpto op K) w (hm.own_rd (i := 1) rfl) (by omega)) ?_)
      refine VC_sound tabOk 100 ?_
      refine ⟨fun _ => ?_, fun h => nomatch h⟩
      (repeat (first | refine Or.inl ⟨rfl, rfl, ?_⟩ | refine Or.inl ⟨rfl, ?_⟩ | refine Or.inr ?_))
      refine Go_ops rfl (OpTo_pcall (v := .int .i64 (snLeast (1 + (K : Int)) (ofUpto op K))) rfl rfl rfl rfl rfl (by kernel_rfl) (fun w hm _ => r05_least (1 + (K : Int)) A1 c1 (ofUpto op K) w (hm.own_rd (i := 1) rfl)) ?_)
      refine VC_sound tabOk 100 ?_
      refine ⟨fun _ => ?_, fun h => by simp at h⟩
      (repeat (first | refine Or.inl ⟨rfl, rfl, ?_⟩ | refine Or.inl ⟨rfl, ?_⟩ | refine Or.inr ?_))
      refine Go_ops rfl (OpTo_pcall (v := .bool false) rfl rfl rfl rfl rfl (by kernel_rfl) (fun w hm _ => hok.least_not ▸ snap_sees (1 + (K : Int)) A1 c1 (ofUpto op K) (snLeast (1 + (K : Int)) (ofUpto op K)) w (hm.own_rd (i := 1) rfl) (by omega)) ?_)
      refine VC_sound tabOk 100 ?_
      rfl
end Go.Proofs.Ytifkpphkfmdlbaa
