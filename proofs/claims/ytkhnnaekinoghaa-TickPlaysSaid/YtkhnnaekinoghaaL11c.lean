/- The laws of layer 11, more: what each run comes to. -/
import Derived.Test.YtkhnnaekinoghaaL11b
import Derived.Test.YtkhnnaekinoghaaOf
set_option autoImplicit false
set_option linter.unusedVariables false
namespace Go.Proofs.Ytkhnnaekinoghaa
open Go.RX Go Go.RowKit

theorem kOf (m : Int) (h : 0 ≤ m ∧ m ≤ 255) : ∃ K : Nat, m.tmod 40 = K ∧ K < 40 := by
  have h1 := Int.tmod_nonneg 40 h.1
  have h2 := Int.tmod_lt_of_pos m (b := 40) (by decide)
  exact ⟨(m.tmod 40).toNat, by omega, by omega⟩

set_option maxHeartbeats 2000000 in
theorem l11_TickRises (m n p q : Int) (A B : Option Addr) (c d : Nat) (op oq : List Int) (w0 : World) (hA : RdW w0 A (op.flatMap (encI .u8))) (hB : RdW w0 B (oq.flatMap (encI .u8))) (hm0 : 0 ≤ m ∧ m ≤ 255) (hn0 : 0 ≤ n ∧ n ≤ 255) (hr : ∀ z ∈ op, 0 ≤ z ∧ z ≤ 255) (hs : ∀ z ∈ oq, 0 ≤ z ∧ z ≤ 255) :
    Calls Try.prog 4 #[.int .u8 m, .int .u8 n, .slice A op.length c, .slice B oq.length d, .int .i64 p, .int .i64 q] w0 fun e w' => e = .returned (.bool true) ∧ BelowD w0.heap.size w0 w' := by
  refine enterP (tab := tab) Try.func4 rfl Try.ntmps4 rfl (args := [_, _, _, _, _, _]) rfl ?_
  refine VC_sound tabOk 100 ?_
  refine ⟨fun h1 => ?_, fun h1 => ?_⟩
  · refine Go_ops rfl (OpTo_pcall (v := .bool true) rfl rfl rfl rfl rfl (by kernel_rfl) (fun w hm _ => l11_trims w) ?_)
    refine VC_sound tabOk 100 ?_
    rfl
  refine ⟨fun h2 => ?_, fun h2 => ?_⟩
  · refine Go_ops rfl (OpTo_pcall (v := .bool true) rfl rfl rfl rfl rfl (by kernel_rfl) (fun w hm _ => l11_trims w) ?_)
    refine VC_sound tabOk 100 ?_
    rfl
  have hn : op.length ≤ 10 := by simp at h1; omega
  have hn2 : oq.length ≤ 10 := by simp at h2; omega
  obtain ⟨K, hK, hK40⟩ := kOf m hm0
  obtain ⟨J, hJ, hJ40⟩ := kOf n hn0
  have hlen := ofUpto_len op K
  have hlen2 := ofUpto_len oq J
  have ha := snOk_of op K
  have hb := snOk_of oq J
  show Go _ _ _ _
  refine Go_ops rfl (OpTo_ncall rfl rfl rfl rfl rfl (by kernel_rfl) (fun w hm _ => r05_of m A c op w (hA.mod hm) (by omega) K hm0 hK hr) ?_)
  rintro _ _ ⟨A1, c1, rfl, rfl⟩
  refine VC_sound tabOk 100 ?_
  show Go _ _ _ _
  refine Go_ops rfl (OpTo_ncall rfl rfl rfl rfl rfl (by kernel_rfl) (fun w hm _ => r05_of n B d oq w (hB.mod hm) (by omega) J hn0 hJ hs) ?_)
  rintro _ _ ⟨A2, c2, rfl, rfl⟩
  refine VC_sound tabOk 100 ?_
  intro b1 _ b2 _
  (repeat (first | refine Or.inl ⟨rfl, rfl, ?_⟩ | refine Or.inl ⟨rfl, ?_⟩ | refine Or.inr ?_))
  generalize ofUpto op K = xs at *
  generalize ofUpto oq J = ys at *
  have hadd1 : tkAdd [] (1 + (K : Int)) xs p = 0 := by simp [tkAdd, tkFollows, ha.right]
  refine Go_res [.blk b2 27 [.int .i64 (1 + (J : Int)), .slice A2 ys.length c2], .blk b1 27 [.int .i64 (1 + (K : Int)), .slice A1 xs.length c1], own (encI .i64) 1 2 A2 c2 ys, own (encI .i64) 1 2 A1 c1 xs] (fun _ h => h) ?_
  show Go _ _ _ _
  refine Go_ops rfl (OpTo_ncall rfl rfl rfl rfl rfl (by kernel_rfl) (fun w hm _ => tick_new2 w) ?_)
  rintro _ _ ⟨bt, rfl, rfl⟩
  refine VC_sound tabOk 100 ?_
  (repeat (first | refine Or.inl ⟨rfl, rfl, ?_⟩ | refine Or.inl ⟨rfl, ?_⟩ | refine Or.inr ?_))
  show Go _ _ _ _
  refine Go_ops rfl (OpTo_mcall (tkR bt none 0 [] 0) [.blk b2 27 [.int .i64 (1 + (J : Int)), .slice A2 ys.length c2], .blk b1 27 [.int .i64 (1 + (K : Int)), .slice A1 xs.length c1], own (encI .i64) 1 2 A2 c2 ys, own (encI .i64) 1 2 A1 c1 xs] (List.Perm.refl _) rfl rfl rfl rfl rfl (by kernel_rfl)
    (fun w hb hm hio hsp k => tick_add bt none 0 [] 0 (1 + (K : Int)) A1 c1 xs p w _ k (RdF.of_split hsp fun Rs w h => h.own_behind (i := 3) rfl) (by omega) (fun t ht => by simp at ht) (by omega) (by omega) (by simp)) ?_)
  rintro _ _ (⟨g, _⟩ | ⟨_, A3, c3, A4, c4, A5, c5, rfl, rfl⟩)
  · exact absurd hadd1 g
  have hadd2 : tkAdd [⟨0 + 1, 1 + (K : Int), A3, c3, xs, p⟩] (1 + (J : Int)) ys q = if (snCovers (1 + (J : Int)) ys (1 + (K : Int)) xs && decide (p ≤ q)) = true then 0 else 1 := by
    simp [tkAdd, tkFollows, hb.right]
  refine VC_sound tabOk 100 ?_
  intro b16 _
  (repeat (first | refine Or.inl ⟨rfl, rfl, ?_⟩ | refine Or.inl ⟨rfl, ?_⟩ | refine Or.inr ?_))
  refine Go_sel [1, 2, 3, 0, 4, 5, 6, 7, 8] rfl ?_
  show Go _ _ _ _
  refine Go_ops rfl (OpTo_mcall (tkR bt A4 c4 [⟨0 + 1, 1 + (K : Int), A3, c3, xs, p⟩] (0 + 1)) [.blk b16 29 [.int .i64 (0 + 1), .int .i64 (1 + (K : Int)), .slice A5 xs.length c5, .int .i64 p], own (encI .i64) 1 2 A5 c5 xs, .blk b2 27 [.int .i64 (1 + (J : Int)), .slice A2 ys.length c2], .blk b1 27 [.int .i64 (1 + (K : Int)), .slice A1 xs.length c1], own (encI .i64) 1 2 A2 c2 ys, own (encI .i64) 1 2 A1 c1 xs] (List.Perm.refl _) rfl rfl rfl rfl rfl (by kernel_rfl)
    (fun w hb hm hio hsp k => tick_add bt A4 c4 [⟨0 + 1, 1 + (K : Int), A3, c3, xs, p⟩] (0 + 1) (1 + (J : Int)) A2 c2 ys q w _ k (RdF.of_split hsp fun Rs w h => h.own_behind (i := 4) rfl) (by omega) (fun t ht => by simp at ht; subst ht; simp; omega) (by omega) (by omega) (by simp)) ?_)
  rintro _ _ (⟨g, rfl, rfl⟩ | ⟨g, A6, c6, A7, c7, A8, c8, rfl, rfl⟩)
  · have hG : (snCovers (1 + (J : Int)) ys (1 + (K : Int)) xs && decide (p ≤ q)) = false := by
      cases h : (snCovers (1 + (J : Int)) ys (1 + (K : Int)) xs && decide (p ≤ q)) with
      | false => rfl
      | true => rw [hadd2, h] at g; exact absurd rfl g
    have e : tkAdd [⟨0 + 1, 1 + (K : Int), A3, c3, xs, p⟩] (1 + (J : Int)) ys q = 1 := by rw [hadd2, hG]; rfl
    rw [e]
    refine VC_sound tabOk 100 ?_
    intro b18 _
    (repeat (first | refine Or.inl ⟨rfl, rfl, ?_⟩ | refine Or.inl ⟨rfl, ?_⟩ | refine Or.inr ?_))
    refine Go_ops rfl (OpTo_pcall (v := .bool (snCovers (1 + (J : Int)) ys (1 + (K : Int)) xs)) rfl rfl rfl rfl rfl (by kernel_rfl) (fun w hm _ => r05_covers (1 + (J : Int)) (1 + (K : Int)) A2 A1 c2 c1 ys xs w (hm.own_rd (i := 8) rfl) (hm.own_rd (i := 9) rfl) (by omega) (by omega) (by omega) (by omega)) ?_)
    refine VC_sound tabOk 100 ?_
    refine ⟨fun h3 => ?_, fun h3 => ?_⟩
    · have hpq : decide (p ≤ q) = false := by rw [h3] at hG; simpa using hG
      refine Go_ops rfl (OpTo_pcall (v := .bool true) rfl rfl rfl rfl rfl (by kernel_rfl) (fun w hm _ => l11_trims w) ?_)
      refine VC_sound tabOk 100 ?_
      refine ⟨fun _ => ?_, fun h => by simp at h⟩
      refine ⟨fun _ => ?_, fun h => by simp at h⟩
      (repeat (first | refine Or.inl ⟨rfl, rfl, ?_⟩ | refine Or.inl ⟨rfl, ?_⟩ | refine Or.inr ?_))
      refine ⟨fun _ => ?_, fun h => by simp at h⟩
      refine ⟨fun _ => ?_, fun h => by simp [hpq] at h⟩
      refine ⟨fun h => (by rw [hpq] at h; cases h), fun _ => ?_⟩
      refine ⟨fun _ => ?_, fun h => by simp at h⟩
      (repeat (first | refine Or.inl ⟨rfl, rfl, ?_⟩ | refine Or.inl ⟨rfl, ?_⟩ | refine Or.inr ?_))
      refine ⟨fun _ => ?_, fun h => by simp [zeroT] at h⟩
      refine Go_ops rfl (OpTo_pcall (v := .int .i64 1) rfl rfl rfl rfl rfl (by kernel_rfl) (fun w hm _ => tick_last bt A4 _ c4 (0 + 1) w (hm.blk_at (i := 1) rfl)) ?_)
      refine VC_sound tabOk 100 ?_
      rfl
    · refine Go_ops rfl (OpTo_pcall (v := .bool true) rfl rfl rfl rfl rfl (by kernel_rfl) (fun w hm _ => l11_trims w) ?_)
      refine VC_sound tabOk 100 ?_
      refine ⟨fun _ => ?_, fun h => by simp at h⟩
      refine ⟨fun _ => ?_, fun h => by simp at h⟩
      (repeat (first | refine Or.inl ⟨rfl, rfl, ?_⟩ | refine Or.inl ⟨rfl, ?_⟩ | refine Or.inr ?_))
      refine ⟨fun _ => ?_, fun h => by simp at h⟩
      refine ⟨fun _ => ?_, fun h => by simp at h⟩
      refine ⟨fun _ => ?_, fun h => by simp at h⟩
      (repeat (first | refine Or.inl ⟨rfl, rfl, ?_⟩ | refine Or.inl ⟨rfl, ?_⟩ | refine Or.inr ?_))
      refine ⟨fun _ => ?_, fun h => by simp [zeroT] at h⟩
      refine Go_ops rfl (OpTo_pcall (v := .int .i64 1) rfl rfl rfl rfl rfl (by kernel_rfl) (fun w hm _ => tick_last bt A4 _ c4 (0 + 1) w (hm.blk_at (i := 1) rfl)) ?_)
      refine VC_sound tabOk 100 ?_
      rfl
  · have hG : (snCovers (1 + (J : Int)) ys (1 + (K : Int)) xs && decide (p ≤ q)) = true := by
      cases h : (snCovers (1 + (J : Int)) ys (1 + (K : Int)) xs && decide (p ≤ q)) with
      | true => rfl
      | false => rw [hadd2, h] at g; exact absurd g (by decide)
    rw [Bool.and_eq_true] at hG
    refine VC_sound tabOk 100 ?_
    intro b18 _
    (repeat (first | refine Or.inl ⟨rfl, rfl, ?_⟩ | refine Or.inl ⟨rfl, ?_⟩ | refine Or.inr ?_))
    refine Go_ops rfl (OpTo_pcall (v := .bool true) rfl rfl rfl rfl rfl (by kernel_rfl) (fun w hm _ => hG.1 ▸ r05_covers (1 + (J : Int)) (1 + (K : Int)) A2 A1 c2 c1 ys xs w (hm.own_rd (i := 9) rfl) (hm.own_rd (i := 10) rfl) (by omega) (by omega) (by omega) (by omega)) ?_)
    refine VC_sound tabOk 100 ?_
    refine ⟨fun _ => ?_, fun h => nomatch h⟩
    refine Go_ops rfl (OpTo_pcall (v := .bool true) rfl rfl rfl rfl rfl (by kernel_rfl) (fun w hm _ => l11_trims w) ?_)
    refine VC_sound tabOk 100 ?_
    refine ⟨fun _ => ?_, fun h => by simp at h⟩
    refine ⟨fun _ => ?_, fun h => by simp at h⟩
    (repeat (first | refine Or.inl ⟨rfl, rfl, ?_⟩ | refine Or.inl ⟨rfl, ?_⟩ | refine Or.inr ?_))
    refine ⟨fun _ => ?_, fun h => by simp at h⟩
    refine ⟨fun _ => ?_, fun h => by simp [hG.2] at h⟩
    refine ⟨fun _ => ?_, fun h => by rw [hG.2] at h; cases h⟩
    rfl
end Go.Proofs.Ytkhnnaekinoghaa
