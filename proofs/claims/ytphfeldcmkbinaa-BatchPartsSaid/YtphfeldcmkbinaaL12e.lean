/- The law BatchOf: what its run comes to. -/
import Derived.Test.YtphfeldcmkbinaaL12d
import Derived.Test.YtphfeldcmkbinaaR12b
set_option autoImplicit false
set_option linter.unusedVariables false
set_option linter.unusedSimpArgs false
namespace Go.Proofs.Ytphfeldcmkbinaa
open Go.RX Go Go.RowKit Go.ChangeShapes Go.WideShapes Go.ChangeAt


set_option maxHeartbeats 8000000 in
theorem l12_BatchOf (A : Option Addr) (c : Nat) (l : List BActM) (As : Option Addr) (cs : Nat) (xs : List Int) (a b' : Int) (Ao : Option Addr) (co : Nat) (os : List Int) (Ap : Option Addr) (cp : Nat) (ps : List Int) (ow : ByteArray) (w0 : World) (hr : RdW w0 A (l.flatMap encA)) (hok : ∀ z ∈ l, okA w0 z) (hs : RdW w0 As (xs.flatMap encU)) (hx : ∀ z ∈ xs, 0 ≤ z ∧ z ≤ 255) (ha : 0 ≤ a ∧ a ≤ 255) (hb : 0 ≤ b' ∧ b' ≤ 255)
    (ho : RdW w0 Ao (os.flatMap encU)) (hos : ∀ z ∈ os, 0 ≤ z ∧ z ≤ 255) (hp : RdW w0 Ap (ps.flatMap encU)) (hps : ∀ z ∈ ps, 0 ≤ z ∧ z ≤ 255) :
    Calls Try.prog 3 #[.slice A l.length c, .slice As xs.length cs, .int .u8 a, .int .u8 b', .slice Ao os.length co, .slice Ap ps.length cp, .string ow] w0 fun e w' => e = .returned (.bool true) ∧ BelowD w0.heap.size w0 w' := by
  obtain ⟨K, hK, hK40⟩ := tmod_nat 40 (by decide) ha.1
  obtain ⟨J, hJ, hJ40⟩ := tmod_nat 40 (by decide) hb.1
  refine enterP (tab := tab) Try.func3 rfl Try.ntmps3 rfl (args := [_, _, _, _, _, _, _]) rfl ?_
  refine VC_sound tabOk 100 ?_
  refine Go_ops rfl (OpTo_pcall (v := .bool true) rfl rfl rfl rfl rfl (by kernel_rfl) (fun w hm _ => l12_seen w) ?_)
  refine VC_sound tabOk 100 ?_
  refine ⟨fun h => by first | (simp at h; done) | (simp at h; omega) | (simp_all; done), fun _ => ?_⟩
  refine ⟨fun hc => ?_, fun hc => ?_⟩
  · refine Go_ops rfl (OpTo_pcall (v := .bool true) rfl rfl rfl rfl rfl (by kernel_rfl) (fun w hm _ => l12_seen w) ?_)
    refine VC_sound tabOk 100 ?_
    rfl
  refine ⟨fun hc2 => ?_, fun hc2 => ?_⟩
  · refine Go_ops rfl (OpTo_pcall (v := .bool true) rfl rfl rfl rfl rfl (by kernel_rfl) (fun w hm _ => l12_seen w) ?_)
    refine VC_sound tabOk 100 ?_
    rfl
  refine ⟨fun hc3 => ?_, fun hc3 => ?_⟩
  · refine Go_ops rfl (OpTo_pcall (v := .bool true) rfl rfl rfl rfl rfl (by kernel_rfl) (fun w hm _ => l12_seen w) ?_)
    refine VC_sound tabOk 100 ?_
    rfl
  refine ⟨fun hc4 => ?_, fun hc4 => ?_⟩
  · refine Go_ops rfl (OpTo_pcall (v := .bool true) rfl rfl rfl rfl rfl (by kernel_rfl) (fun w hm _ => l12_seen w) ?_)
    refine VC_sound tabOk 100 ?_
    rfl
  refine ⟨fun hc5 => ?_, fun hc5 => ?_⟩
  · refine Go_ops rfl (OpTo_pcall (v := .bool true) rfl rfl rfl rfl rfl (by kernel_rfl) (fun w hm _ => l12_seen w) ?_)
    refine VC_sound tabOk 100 ?_
    rfl
  have hl60 : l.length ≤ 60 := by simp at hc; omega
  have hx30 : xs.length ≤ 30 := by simp at hc2; omega
  have ho10 : os.length ≤ 10 := by simp at hc3; omega
  have hp10 : ps.length ≤ 10 := by simp at hc4; omega
  have hel : (evsB l).length = l.length := evsTo_len l l.length (Nat.le_refl _)
  show Go _ _ _ _
  refine Go_ops rfl (OpTo_ncall rfl rfl rfl rfl rfl (by kernel_rfl) (fun w hm _ => l12_managers As cs xs w (hs.mod hm) hx (by omega)) ?_)
  rintro _ _ ⟨m, b1, b2, br, Ar, cr, R, rfl, hR, hRl, rfl⟩
  refine VC_sound tabOk 100 ?_
  show Go _ _ _ _
  refine Go_ops rfl (OpTo_ncall rfl rfl rfl rfl rfl (by kernel_rfl) (fun w hm _ => r05_of a Ao co os w (ho.mod hm) (by omega) K ha hK hos) ?_)
  rintro _ _ ⟨Ax, cx, rfl, rfl⟩
  have hul := ofUpto_len os K
  refine VC_sound tabOk 100 ?_
  show Go _ _ _ _
  refine Go_ops rfl (OpTo_ncall rfl rfl rfl rfl rfl (by kernel_rfl) (fun w hm _ => r05_of b' Ap cp ps w (hp.mod hm) (by omega) J hb hJ hps) ?_)
  rintro _ _ ⟨Ay, cy, rfl, rfl⟩
  have hvl := ofUpto_len ps J
  generalize ofUpto os K = op at hul ⊢
  generalize ofUpto ps J = oq at hvl ⊢
  refine VC_sound tabOk 100 ?_
  intro b17 _
  intro b18 _
  (repeat (first | refine Or.inl ⟨rfl, rfl, ?_⟩ | refine Or.inl ⟨rfl, ?_⟩ | refine Or.inr ?_))
  show Go _ _ _ _
  refine Go_ops rfl (OpTo_ncall rfl rfl rfl rfl rfl (by kernel_rfl) (fun w hm _ => l12_events A c l w (hr.mod hm) hok (by omega)) ?_)
  rintro _ _ ⟨A1, c1, rfl, rfl⟩
  refine VC_sound tabOk 100 ?_
  show Go _ _ _ _
  refine Go_any mixed [] [(0, false), (1, false), (4, false), (6, false), (7, false), (10, false), (2, false), (3, false), (8, false), (9, false), (5, true), (11, true), (12, true), (13, false), (14, false), (15, false), (19, false), (20, false), (16, false), (17, false), (21, false), (22, false), (18, true), (23, true), (24, true), (25, false), (26, false), (27, false), (28, false), (29, true), (30, true), (31, false), (32, false)] rfl (by kernel_rfl) (by kernel_rfl) [.blk b18 31 [.int .i64 (1 + (J : Int)), .slice Ay oq.length cy], .blk b17 31 [.int .i64 (1 + (K : Int)), .slice Ax op.length cx]] (FrmX [heapOf w0]) (FrmX.stable _) (fun w hm _ => ⟨Holds.of_idx [1, 2] hm, FrmX.of_mod hm⟩) ?_
  refine VC_sound tabOk 100 ?_
  (repeat (first | refine Or.inl ⟨rfl, rfl, ?_⟩ | refine Or.inl ⟨rfl, ?_⟩ | refine Or.inr ?_))
  refine Go_aloneL rfl rfl (OpTo_ncall rfl rfl rfl rfl rfl (by kernel_rfl) (fun w hm _ => batch_of A1 c1 (evsB l) (.pointer (some ⟨m, 0, none⟩)) (stE (txOf R)) ⟨1 + (K : Int), Ax, cx, op⟩ ⟨1 + (J : Int), Ay, cy, oq⟩ ow w (hm.own_rd (i := 0) rfl) (by omega) (StOk.some (s := txOf R) (hm.blk_at (i := 5) rfl) (MpAt.of_mod (i := 6) hm rfl) (MpAt.of_mod (i := 7) hm rfl)) ⟨hm.own_rd (i := 4) rfl, by dsimp only; omega⟩ ⟨hm.own_rd (i := 3) rfl, by dsimp only; omega⟩) ?_)
  rintro _ _ ⟨ys, hy, A2, c2, rfl, rfl⟩
  refine And.intro (fun w hm _ => ⟨Holds.of_idx [2, 3] hm, FrmX.of_mod hm⟩) ?_
  refine VC_sound tabOk 100 ?_
  refine Go_aloneL rfl rfl (OpTo_ncall rfl rfl rfl rfl rfl (by kernel_rfl) (fun w hm _ => r12_of A1 c1 (evsB l) br Ar cr R ⟨1 + (K : Int), Ax, cx, op⟩ ⟨1 + (J : Int), Ay, cy, oq⟩ ow w (hm.own_rd (i := 1) rfl) (by omega) ⟨hm.blk_at (i := 9) rfl, hm.own_rd (i := 10) rfl, by omega⟩ ⟨hm.own_rd (i := 5) rfl, by dsimp only; omega⟩ ⟨hm.own_rd (i := 4) rfl, by dsimp only; omega⟩) ?_)
  rintro _ _ ⟨zs, hz, A3, c3, rfl, rfl⟩
  obtain rfl := of_same hR (evsB l) _ _ _ _ ow ⟨rfl, rfl⟩ ⟨rfl, rfl⟩ hy hz
  have hyl : zs.length ≤ 60 := by rw [hy.2.2]; exact Nat.le_trans (List.length_filter_le _ _) (by omega)
  refine And.intro (fun w hm _ => ⟨Holds.of_idx [3, 4] hm, FrmX.of_mod hm⟩) ?_
  refine VC_sound tabOk 100 ?_
  refine Go_aloneL rfl rfl (OpTo_pcall (v := .bool true) rfl rfl rfl rfl rfl (by kernel_rfl) (fun w hm _ => r09_same A2 A3 c2 c3 zs w (hm.own_rd (i := 1) rfl) (hm.own_rd (i := 0) rfl) (by omega)) ?_)
  refine And.intro (fun w hm _ => ⟨Holds.of_idx [3, 4] hm, FrmX.of_mod hm⟩) ?_
  refine VC_sound tabOk 100 ?_
  refine ⟨fun _ => ?_, fun h => by simp at h⟩
  (repeat (first | refine Or.inl ⟨rfl, rfl, ?_⟩ | refine Or.inl ⟨rfl, ?_⟩ | refine Or.inr ?_))
  refine Go_aloneL rfl rfl (OpTo_ncall rfl rfl rfl rfl rfl (by kernel_rfl) (fun w hm _ => batch_of A1 c1 (evsB l) (.pointer (some ⟨m, 0, none⟩)) (stE (txOf R)) ⟨1 + (K : Int), Ax, cx, op⟩ ⟨1 + (J : Int), Ay, cy, oq⟩ sA w (hm.own_rd (i := 2) rfl) (by omega) (StOk.some (s := txOf R) (hm.blk_at (i := 7) rfl) (MpAt.of_mod (i := 8) hm rfl) (MpAt.of_mod (i := 9) hm rfl)) ⟨hm.own_rd (i := 6) rfl, by dsimp only; omega⟩ ⟨hm.own_rd (i := 5) rfl, by dsimp only; omega⟩) ?_)
  rintro _ _ ⟨ys2, hy2, A4, c4, rfl, rfl⟩
  refine And.intro (fun w hm _ => ⟨Holds.of_idx [4, 5] hm, FrmX.of_mod hm⟩) ?_
  refine VC_sound tabOk 100 ?_
  refine Go_aloneL rfl rfl (OpTo_ncall rfl rfl rfl rfl rfl (by kernel_rfl) (fun w hm _ => r12_of A1 c1 (evsB l) br Ar cr R ⟨1 + (K : Int), Ax, cx, op⟩ ⟨1 + (J : Int), Ay, cy, oq⟩ sA w (hm.own_rd (i := 3) rfl) (by omega) ⟨hm.blk_at (i := 11) rfl, hm.own_rd (i := 12) rfl, by omega⟩ ⟨hm.own_rd (i := 7) rfl, by dsimp only; omega⟩ ⟨hm.own_rd (i := 6) rfl, by dsimp only; omega⟩) ?_)
  rintro _ _ ⟨zs2, hz2, A5, c5, rfl, rfl⟩
  obtain rfl := of_same hR (evsB l) _ _ _ _ sA ⟨rfl, rfl⟩ ⟨rfl, rfl⟩ hy2 hz2
  have hyl2 : zs2.length ≤ 60 := by rw [hy2.2.2]; exact Nat.le_trans (List.length_filter_le _ _) (by omega)
  refine And.intro (fun w hm _ => ⟨Holds.of_idx [5, 6] hm, FrmX.of_mod hm⟩) ?_
  refine VC_sound tabOk 100 ?_
  refine Go_aloneL rfl rfl (OpTo_pcall (v := .bool true) rfl rfl rfl rfl rfl (by kernel_rfl) (fun w hm _ => r09_same A4 A5 c4 c5 zs2 w (hm.own_rd (i := 1) rfl) (hm.own_rd (i := 0) rfl) (by omega)) ?_)
  refine And.intro (fun w hm _ => ⟨Holds.of_idx [5, 6] hm, FrmX.of_mod hm⟩) ?_
  refine VC_sound tabOk 100 ?_
  refine ⟨fun _ => ?_, fun h => by simp at h⟩
  refine Go_aloneL rfl rfl (OpTo_ncall rfl rfl rfl rfl rfl (by kernel_rfl) (fun w hm _ => l12_events A c l w (hr.mod hm) hok (by omega)) ?_)
  rintro _ _ ⟨A6, c6, rfl, rfl⟩
  refine And.intro (fun w hm _ => ⟨Holds.of_idx [6, 7] hm, FrmX.of_mod hm⟩) ?_
  refine VC_sound tabOk 100 ?_
  refine Go_aloneL rfl rfl (OpTo_pcall (v := .bool true) rfl rfl rfl rfl rfl (by kernel_rfl) (fun w hm _ => r09_same A1 A6 c1 c6 (evsB l) w (hm.own_rd (i := 5) rfl) (hm.own_rd (i := 0) rfl) (by omega)) ?_)
  refine And.intro (fun w hm _ => ⟨Holds.of_idx [6, 7] hm, FrmX.of_mod hm⟩) ?_
  refine VC_sound tabOk 100 ?_
  rfl
end Go.Proofs.Ytphfeldcmkbinaa
