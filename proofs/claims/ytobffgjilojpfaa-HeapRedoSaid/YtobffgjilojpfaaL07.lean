/- The laws of layer 7: the document's example, and of no heap. -/
import Derived.Test.YtobffgjilojpfaaHeapN
set_option maxRecDepth 100000
set_option autoImplicit false
set_option linter.unusedVariables false
set_option linter.unusedSimpArgs false
namespace Go.Proofs.Ytobffgjilojpfaa
open Go.RX Go Go.RowKit

theorem hp_new (m : Option Addr) (w0 : World) : Calls Try.prog 10 #[.pointer m] w0 fun e w' => ∃ u Rs', e = .returned u ∧ (∃ h, u = .pointer (some ⟨h, 0, none⟩) ∧ Rs' = [.blk h 67 [.pointer m, .slice none 0 0]]) ∧ Mod [heapOf w0] Rs' w' ∧ Oth w0 w' := by
  refine enterN (tab := tab) Try.func10 rfl Try.ntmps10 rfl (args := [_]) rfl (Mod.start w0) ?_
  refine VC_sound tabOk 100 ?_
  intro h _
  exact ⟨_, ⟨h, rfl, rfl⟩, fun _ _ h => h⟩

set_option maxHeartbeats 4000000 in
theorem l07_clash (w0 : World) : Calls Try.prog 8 #[] w0 fun e w' => e = .returned (.bool true) ∧ BelowD w0.heap.size w0 w' := by
  refine enterP (tab := tab) Try.func8 rfl Try.ntmps8 rfl (args := []) rfl ?_
  refine VC_sound tabOk 100 ?_
  show Go _ _ _ _
  refine Go_ops rfl (OpTo_ncall rfl rfl rfl rfl rfl (by kernel_rfl) (fun w hm _ => txn_new w) ?_)
  rintro _ _ ⟨m, b1, b2, rfl, rfl⟩
  refine VC_sound tabOk 100 ?_
  show Go _ _ _ _
  refine Go_ops rfl (OpTo_ncall rfl rfl rfl rfl rfl (by kernel_rfl) (fun w hm _ => hp_new _ w) ?_)
  rintro _ _ ⟨h, rfl, rfl⟩
  refine VC_sound tabOk 100 ?_
  refine Go_res (txB m b1 b2 ⟨1, [], []⟩ ++ hpR h m none 0 []) (fun _ h => (h.own_nil (enc := encV) (k := 4) (T := 76) none).sel [2, 3, 4, 1, 0] rfl) ?_
  show Go _ _ _ _
  refine Go_ops rfl (OpTo_mcall (txB m b1 b2 ⟨1, [], []⟩) (hpR h m none 0 []) (List.Perm.of_eq rfl) rfl rfl rfl rfl rfl (by kernel_rfl) (fun w hb hm hio hsp k => txn_begin_ok m b1 b2 ⟨1, [], []⟩ ⟨by decide, by decide⟩ (by decide) (by simp) w _ k) ?_)
  rintro _ _ ⟨rfl, rfl⟩
  refine VC_sound tabOk 100 ?_
  show Go _ _ _ _
  refine Go_ops rfl (OpTo_mcall (txB m b1 b2 ⟨2, [1], []⟩) (hpR h m none 0 []) (List.Perm.of_eq rfl) rfl rfl rfl rfl rfl (by kernel_rfl) (fun w hb hm hio hsp k => txn_now m b1 b2 ⟨2, [1], []⟩ (by decide) w _ k) ?_)
  rintro _ _ ⟨S1, d1, ks, rfl, hp, hr, rfl⟩
  obtain rfl := List.Perm.eq_singleton hp
  refine VC_sound tabOk 100 ?_
  intro b5 _
  (repeat (first | refine Or.inl ⟨rfl, rfl, ?_⟩ | refine Or.inl ⟨rfl, ?_⟩ | refine Or.inr ?_))
  refine Go_sel [2, 3, 4, 5, 6, 0, 1] rfl ?_
  show Go _ _ _ _
  refine Go_ops rfl (OpTo_mcall (txB m b1 b2 ⟨2, [1], []⟩) (hpR h m none 0 [] ++ [.blk b5 35 (VwM.cs ⟨2, S1, d1, [1], 1⟩), own (encI .i64) 1 2 S1 d1 [1]]) (List.Perm.of_eq rfl) rfl rfl rfl rfl rfl (by kernel_rfl) (fun w hb hm hio hsp k => txn_begin_ok m b1 b2 ⟨2, [1], []⟩ ⟨by decide, by decide⟩ (by decide) (by simp) w _ k) ?_)
  rintro _ _ ⟨rfl, rfl⟩
  refine VC_sound tabOk 100 ?_
  show Go _ _ _ _
  refine Go_ops rfl (OpTo_mcall (txB m b1 b2 ⟨3, [1, 2], []⟩) (hpR h m none 0 [] ++ [.blk b5 35 (VwM.cs ⟨2, S1, d1, [1], 1⟩), own (encI .i64) 1 2 S1 d1 [1]]) (List.Perm.of_eq rfl) rfl rfl rfl rfl rfl (by kernel_rfl) (fun w hb hm hio hsp k => txn_now m b1 b2 ⟨3, [1, 2], []⟩ (by decide) w _ k) ?_)
  rintro _ _ ⟨S2, d2, ks, rfl, hp2, hr2, rfl⟩
  refine VC_sound tabOk 100 ?_
  intro b8 _
  (repeat (first | refine Or.inl ⟨rfl, rfl, ?_⟩ | refine Or.inl ⟨rfl, ?_⟩ | refine Or.inr ?_))
  have hk2 : ks.length = 2 := hp2.length_eq
  refine Go_sel [5, 6, 2, 3, 4, 0, 1, 7, 8] rfl ?_
  show Go _ _ _ _
  show Go _ _ _ _
  refine Go_ops rfl (OpTo_mcall (hpX h m b1 b2 ⟨3, [1, 2], []⟩ none 0 []) [.blk b8 35 (VwM.cs ⟨3, S2, d2, ks, 2⟩), own (encI .i64) 1 2 S2 d2 ks, .blk b5 35 (VwM.cs ⟨2, S1, d1, [1], 1⟩), own (encI .i64) 1 2 S1 d1 [1]] (List.Perm.of_eq rfl) rfl rfl rfl rfl rfl (by kernel_rfl) (fun w hb hm hio hsp k => hp_insert h m b1 b2 ⟨3, [1, 2], []⟩ none 0 [] ⟨2, S1, d1, [1], 1⟩ ⟨5, ⟨#[]⟩⟩ (by simp) (by simp) w _ k (RdF.of_split hsp fun Rs w h => h.own_behind (i := 3) rfl)) ?_)
  rintro _ _ ⟨rfl, A1, c1, rfl⟩
  have st1 : stE ⟨3, [1, 2], []⟩ 1 = 1 := by decide
  have st2 : stE ⟨3, [1, 2], []⟩ 2 = 1 := by decide
  have e1 : insE (stE ⟨3, [1, 2], []⟩) ⟨2, S1, d1, [1], 1⟩ [] 5 = 0 := by simp [insE, st1]
  simp only [insVs, e1]
  refine VC_sound tabOk 100 ?_
  refine ⟨fun _ => ?_, fun h => by first | (simp at h; done) | (simp at h; omega) | (simp_all; done)⟩
  (repeat (first | refine Or.inl ⟨rfl, rfl, ?_⟩ | refine Or.inl ⟨rfl, ?_⟩ | refine Or.inr ?_))
  show Go _ _ _ _
  show Go _ _ _ _
  refine Go_ops rfl (OpTo_mcall (hpX h m b1 b2 ⟨3, [1, 2], []⟩ A1 c1 [⟨5, ⟨#[]⟩, 1, 0⟩]) [.blk b8 35 (VwM.cs ⟨3, S2, d2, ks, 2⟩), own (encI .i64) 1 2 S2 d2 ks, .blk b5 35 (VwM.cs ⟨2, S1, d1, [1], 1⟩), own (encI .i64) 1 2 S1 d1 [1]] (List.Perm.of_eq rfl) rfl rfl rfl rfl rfl (by kernel_rfl) (fun w hb hm hio hsp k => hp_insert h m b1 b2 ⟨3, [1, 2], []⟩ A1 c1 [⟨5, ⟨#[]⟩, 1, 0⟩] ⟨3, S2, d2, ks, 2⟩ ⟨5, ⟨#[]⟩⟩ (by simp) (by dsimp only; omega) w _ k (RdF.of_split hsp fun Rs w h => h.own_behind (i := 1) rfl)) ?_)
  rintro _ _ ⟨rfl, A2, c2, rfl⟩
  have e2 : insE (stE ⟨3, [1, 2], []⟩) ⟨3, S2, d2, ks, 2⟩ [⟨5, ⟨#[]⟩, 1, 0⟩] 5 = 6 := by simp [insE, st1, st2, findP, seesP, didP, insP, blkP, othP, deadP]
  simp only [insVs, e2]
  refine VC_sound tabOk 100 ?_
  refine ⟨fun _ => ?_, fun h => by first | (simp at h; done) | (simp at h; omega) | (simp_all; done)⟩
  (repeat (first | refine Or.inl ⟨rfl, rfl, ?_⟩ | refine Or.inl ⟨rfl, ?_⟩ | refine Or.inr ?_))
  have s1 : seenL (stE ⟨3, [1, 2], []⟩) ⟨2, S1, d1, [1], 1⟩ [⟨5, ⟨#[]⟩, 1, 0⟩] = [⟨5, ⟨#[]⟩⟩] := by simp [seenL, seesP, didP, rowOf]
  have s2 : seenL (stE ⟨3, [1, 2], []⟩) ⟨3, S2, d2, ks, 2⟩ [⟨5, ⟨#[]⟩, 1, 0⟩] = [] := by simp [seenL, seesP, didP, st1]
  show Go _ _ _ _
  refine Go_ops rfl (OpTo_ncall rfl rfl rfl rfl rfl (by kernel_rfl) (fun w hm _ => hp_scan h m b1 b2 ⟨3, [1, 2], []⟩ A2 c2 [⟨5, ⟨#[]⟩, 1, 0⟩] ⟨2, S1, d1, [1], 1⟩ w (HpAt.of hm 0 rfl rfl rfl rfl rfl) (hm.own_rd (i := 8) rfl) (by simp) (by simp)) ?_)
  rintro _ _ ⟨ys, hy, A3, c3, rfl, rfl⟩
  have hyl : ys.length = 1 := by rw [hy.2.2, s1]; rfl
  refine VC_sound tabOk 100 ?_
  refine ⟨fun _ => ?_, fun h => by simp [hyl] at h⟩
  (repeat (first | refine Or.inl ⟨rfl, rfl, ?_⟩ | refine Or.inl ⟨rfl, ?_⟩ | refine Or.inr ?_))
  show Go _ _ _ _
  refine Go_ops rfl (OpTo_ncall rfl rfl rfl rfl rfl (by kernel_rfl) (fun w hm _ => hp_scan h m b1 b2 ⟨3, [1, 2], []⟩ A2 c2 [⟨5, ⟨#[]⟩, 1, 0⟩] ⟨3, S2, d2, ks, 2⟩ w (HpAt.of hm 1 rfl rfl rfl rfl rfl) (hm.own_rd (i := 7) rfl) (by dsimp only; omega) (by simp)) ?_)
  rintro _ _ ⟨zs, hz, A4, c4, rfl, rfl⟩
  have hzl : zs.length = 0 := by rw [hz.2.2, s2]; rfl
  refine VC_sound tabOk 100 ?_
  exact congrArg Value.bool (by simp [hzl])
end Go.Proofs.Ytobffgjilojpfaa
