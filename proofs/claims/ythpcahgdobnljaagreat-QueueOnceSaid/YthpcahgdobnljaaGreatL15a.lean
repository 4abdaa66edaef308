/- The law QueueRetries: what its run comes to. -/
import Derived.Test.YthpcahgdobnljaaGreatQd
import Derived.Test.YthpcahgdobnljaaGreatRxB
set_option maxRecDepth 100000
set_option autoImplicit false
set_option linter.unusedVariables false
set_option linter.unusedSimpArgs false
namespace Go.Proofs.YthpcahgdobnljaaGreat
open Go.RX Go Go.RowKit


abbrev QS0 (s : TxS) : QS := ⟨(Sp.noTb, Sp.noTb, Sp.noTb), 0, none, 0, [], 0, [], none, 0, [], 1, s⟩
theorem qs_new (m b1 b2 : Nat) (s : TxS) (w0 : World) (hfs : List PH) (hm : Mod hfs (txB m b1 b2 s) w0) :
    Calls Tryz.prog 20 #[pv m] w0 fun e w' => ∃ v Rs', e = .returned v ∧ (∃ q bs bt bc bm br, v = pv q ∧ Rs' = qR ⟨q, m, b1, b2, bs, bt, bc, bm, br⟩ (QS0 s)) ∧ Mod hfs Rs' w' ∧ Oth w0 w' := by
  refine (qn_new (some ⟨m, 0, none⟩) w0).mono ?_
  rintro e w' ⟨v, Rs', h1, ⟨q, bs, bt, bc, bm, br, h2, rfl⟩, h3, h4⟩
  refine ⟨v, _, h1, ⟨q, bs, bt, bc, bm, br, h2, rfl⟩, ?_, h4⟩
  have h5 := h3.beside hm
  have h6 := (((((h5.own_nil (enc := encE) (k := 8) (T := 65) none).own_nil (enc := encE) (k := 8) (T := 65) none).own_nil (enc := encE) (k := 8) (T := 65) none).own_nil (enc := Tk.encT) (k := 4) (T := 44) none).own_nil (enc := Rt.encT) (k := 9) (T := 182) none).ro_nil
  exact h6.sel [6, 12, 13, 14, 7, 3, 4, 5, 8, 2, 0, 11, 1, 9, 10] rfl

abbrev nB : ByteArray := ⟨#[98]⟩
theorem srt_is {xs zs : List EventM} (h : SameBy EventM.id xs zs ∧ Rise ltI EventM.id zs ∧ zs.length = xs.length) (hx : Rise ltI EventM.id xs) : zs = xs := Rise.unique ordI h.2.1 hx h.1.symm
abbrev ev1 : EventM := ⟨1, 1, ⟨#[]⟩, 0, 1, 2, 5, ⟨#[120]⟩⟩
abbrev ev2 : EventM := ⟨1, 2, ⟨#[97]⟩, 1, 1, 2, 5, ⟨#[120]⟩⟩
abbrev tk1 (A : Option Addr) (c : Nat) : Tk.TickM := ⟨1, 1, A, c, [], 0⟩
abbrev tk2 (A : Option Addr) (c : Nat) : Tk.TickM := ⟨2, 2, A, c, [], 0⟩
abbrev tk3 (A : Option Addr) (c : Nat) (at_ : Int) : Tk.TickM := ⟨3, 3, A, c, [], at_⟩
abbrev cA (l o : Int) (q : Nat) : Cu.CurV × Nat := (⟨Cu.nA, l, o⟩, q)
abbrev cB (l o : Int) (q : Nat) : Cu.CurV × Nat := (⟨nB, l, o⟩, q)
abbrev T1 (A : Option Addr) (c : Nat) (l : List EventM) : Sp.Tbs := (⟨A, c, l⟩, Sp.noTb, Sp.noTb)
abbrev it1 (at_ : Int) : Rt.ItemM := ⟨at_, { ev2 with tx := 1 }⟩
theorem eqS (a b : ByteArray) : (a.toList == b.toList) = decide (a = b) := by
  rw [Bool.eq_iff_iff, beq_iff_eq, decide_eq_true_eq]
  exact ⟨toList_inj, fun h => by rw [h]⟩
theorem bsEq_eq (a b : ByteArray) : Bt.bsEq a b = decide (a = b) := eqS a b
theorem rw_eql (x y : Operand) (w : World) : (binRun .eql 63 x y (.agg #[.int .i64 5, .string ⟨#[120]⟩]) (.agg #[.int .i64 5, .string ⟨#[120]⟩])).run Tryz.prog w = .ok (.bool true) w :=
  (run_eq_struct (r := (5 : Int) == 5 && ((⟨#[120]⟩ : ByteArray).toList == (⟨#[120]⟩ : ByteArray).toList && true)) tabOk (ts := [63]) (fun t ht => by simp at ht; subst ht; kernel_rfl) (by kernel_rfl) rfl x y w).1.trans (by simp)
theorem nA_ne : ¬ (Cu.nA.toList == ByteArray.toList ⟨#[]⟩) = true := by rw [eqS]; decide
theorem addE_first (e : EventM) : Rt.addE [] e Cu.nA = 0 := by
  rw [Rt.addE, if_neg nA_ne, if_neg (by simp), if_neg (by simp)]
theorem addE_dup (at_ : Int) : Rt.addE [it1 at_] ev1 Cu.nA = 5 := by
  rw [Rt.addE, if_neg nA_ne, if_pos (by simp [Rt.hasP, it1, eqS])]
theorem retAdd {at_ : Int} {us : List Rt.ItemM} (h : Rt.AddT [] ev1 Cu.nA at_ us) : us = [it1 at_] := by
  rcases h with ⟨_, h1, _⟩ | ⟨h0, _⟩
  · have := List.perm_singleton.1 h1.symm
    rw [this]; rfl
  · exact absurd (addE_first ev1) h0
set_option maxHeartbeats 16000000 in
theorem l15_QueueRetries (delay : Int) (other : Bool) (w0 : World) (hd : 0 ≤ delay ∧ delay ≤ 255) :
    Calls Tryz.prog 6 #[.int .u8 delay, .bool other] w0 fun e w' => e = .returned (.bool true) ∧ BelowD w0.heap.size w0 w' := by
  obtain ⟨at_, hat⟩ : ∃ at_, at_ = delay := ⟨_, rfl⟩
  subst hat
  refine enterP (tab := tab) Tryz.func6 rfl Tryz.ntmps6 rfl (args := [_, _]) rfl ?_
  refine VC_sound tabOk 100 ?_
  refine Go_ops rfl (OpTo_pcall (v := .bool true) rfl rfl rfl rfl rfl (by kernel_rfl) (fun w hm _ => l15_early w) ?_)
  refine VC_sound tabOk 100 ?_
  refine ⟨fun h => by first | (simp at h; done) | (simp at h; omega) | (simp_all; done), fun _ => ?_⟩
  show Go _ _ _ _
  refine Go_ops rfl (OpTo_ncall rfl rfl rfl rfl rfl (by kernel_rfl) (fun w hm _ => txn_new w) ?_)
  rintro _ _ ⟨m, b1, b2, rfl, rfl⟩
  refine VC_sound tabOk 100 ?_
  refine Go_ops rfl (OpTo_tcall [] (txB m b1 b2 ⟨1, [], []⟩) rfl rfl rfl rfl rfl rfl (by kernel_rfl) (fun w hb hm hio hsp k => qs_new m b1 b2 ⟨1, [], []⟩ w _ k) ?_)
  rintro _ _ ⟨q, bs, bt, bc, bm, br, rfl, rfl⟩
  obtain ⟨I, hI⟩ : ∃ I : QI, I = ⟨q, m, b1, b2, bs, bt, bc, bm, br⟩ := ⟨_, rfl⟩
  obtain rfl : q = I.q := by rw [hI]
  obtain rfl : m = I.m := by rw [hI]
  rw [← hI]
  refine Go_res (qR I ⟨(Sp.noTb, Sp.noTb, Sp.noTb), 0, none, 0, [], 0, [], none, 0, [], 1, ⟨1, [], []⟩⟩) (fun _ h => h) ?_
  refine VC_sound tabOk 100 ?_
  have hadd1 : Tk.tkAdd [] 1 (pos 1 []) (0) = 0 := by simp [Tk.tkAdd, Tk.tkFollows, snRight, rightFrom, snCovers, posF]
  refine Go_ops rfl (OpTo_tcall [] (qR I ⟨(Sp.noTb, Sp.noTb, Sp.noTb), 0, none, 0, [], 0, [], none, 0, [], 1, ⟨1, [], []⟩⟩) rfl rfl rfl rfl rfl rfl (by kernel_rfl) (fun w hb hm hio hsp k => q_tick I ⟨(Sp.noTb, Sp.noTb, Sp.noTb), 0, none, 0, [], 0, [], none, 0, [], 1, ⟨1, [], []⟩⟩ [] (0) Alike.start (by decide) (by intro t ht; simp at ht) (by decide) ⟨(by first | decide | (simp [Sp.sum3, Sp.noTb]; done)), (by first | decide | (simp [Sp.sum3, Sp.noTb]; done))⟩ (by first | decide | (simp [Sp.sum3, Sp.noTb]; done)) w _ k) ?_)
  rintro _ _ (⟨h0, _, _⟩ | ⟨_, A1, c1, A1', c1', A1'', c1'', rfl, rfl⟩)
  · exact absurd hadd1 h0
  refine Go_res (qR I ⟨(Sp.noTb, Sp.noTb, Sp.noTb), 0, A1', c1', [tk1 A1 c1], 1, [], none, 0, [], 1, ⟨1, [], []⟩⟩) (fun _ h => (h.dropAt 0)) ?_
  refine VC_sound tabOk 100 ?_
  refine Go_ops rfl (OpTo_tcall [] (qR I ⟨(Sp.noTb, Sp.noTb, Sp.noTb), 0, A1', c1', [tk1 A1 c1], 1, [], none, 0, [], 1, ⟨1, [], []⟩⟩) rfl rfl rfl rfl rfl rfl (by kernel_rfl) (fun w hb hm hio hsp k => q_register I ⟨(Sp.noTb, Sp.noTb, Sp.noTb), 0, A1', c1', [tk1 A1 c1], 1, [], none, 0, [], 1, ⟨1, [], []⟩⟩ Cu.nA w _ k) ?_)
  rintro _ _ ⟨rfl, qa, rfl⟩
  refine Go_res (qR I ⟨(Sp.noTb, Sp.noTb, Sp.noTb), 0, A1', c1', [tk1 A1 c1], 1, [cA 1 0 qa], none, 0, [], 1, ⟨1, [], []⟩⟩) (fun _ h => h) ?_
  refine VC_sound tabOk 100 ?_
  refine Go_ops rfl (OpTo_tcall [] (qR I ⟨(Sp.noTb, Sp.noTb, Sp.noTb), 0, A1', c1', [tk1 A1 c1], 1, [cA 1 0 qa], none, 0, [], 1, ⟨1, [], []⟩⟩) rfl rfl rfl rfl rfl rfl (by kernel_rfl) (fun w hb hm hio hsp k => q_register I ⟨(Sp.noTb, Sp.noTb, Sp.noTb), 0, A1', c1', [tk1 A1 c1], 1, [cA 1 0 qa], none, 0, [], 1, ⟨1, [], []⟩⟩ nB w _ k) ?_)
  rintro _ _ ⟨rfl, qb, rfl⟩
  refine Go_res (qR I ⟨(Sp.noTb, Sp.noTb, Sp.noTb), 0, A1', c1', [tk1 A1 c1], 1, [cA 1 0 qa, cB 1 0 qb], none, 0, [], 1, ⟨1, [], []⟩⟩) (fun _ h => h) ?_
  refine VC_sound tabOk 100 ?_
  have al1 : Alike ⟨2, [1], []⟩ [1] := Alike.begin Alike.start
  refine Go_ops rfl (OpTo_tcall [] (qR I ⟨(Sp.noTb, Sp.noTb, Sp.noTb), 0, A1', c1', [tk1 A1 c1], 1, [cA 1 0 qa, cB 1 0 qb], none, 0, [], 1, ⟨1, [], []⟩⟩) rfl rfl rfl rfl rfl rfl (by kernel_rfl) (fun w hb hm hio hsp k => qs_begin_ok I ⟨(Sp.noTb, Sp.noTb, Sp.noTb), 0, A1', c1', [tk1 A1 c1], 1, [cA 1 0 qa, cB 1 0 qb], none, 0, [], 1, ⟨1, [], []⟩⟩ [] Alike.start (by decide) (by decide) w _ k) ?_)
  rintro _ _ ⟨rfl, rfl⟩
  refine Go_res (qR I ⟨(Sp.noTb, Sp.noTb, Sp.noTb), 0, A1', c1', [tk1 A1 c1], 1, [cA 1 0 qa, cB 1 0 qb], none, 0, [], 1, ⟨2, [1], []⟩⟩) (fun _ h => h) ?_
  refine VC_sound tabOk 100 ?_
  refine Go_ops rfl (OpTo_tcall [] (qR I ⟨(Sp.noTb, Sp.noTb, Sp.noTb), 0, A1', c1', [tk1 A1 c1], 1, [cA 1 0 qa, cB 1 0 qb], none, 0, [], 1, ⟨2, [1], []⟩⟩) rfl rfl rfl rfl rfl rfl (by kernel_rfl) (fun w hb hm hio hsp k => q_write I ⟨(Sp.noTb, Sp.noTb, Sp.noTb), 0, A1', c1', [tk1 A1 c1], 1, [cA 1 0 qa, cB 1 0 qb], none, 0, [], 1, ⟨2, [1], []⟩⟩ 1 1 2 5 ⟨#[120]⟩ (by first | decide | (simp [Sp.sum3, Sp.noTb]; done)) (by first | decide | (simp [Sp.sum3, Sp.noTb]; done)) ⟨(by first | decide | (simp [Sp.sum3, Sp.noTb]; done)), (by first | decide | (simp [Sp.sum3, Sp.noTb]; done))⟩ w _ k) ?_)
  rintro _ _ ⟨rfl, A0, c0, rfl⟩
  refine Go_res (qR I ⟨T1 A0 c0 [ev1], 0, A1', c1', [tk1 A1 c1], 1, [cA 1 0 qa, cB 1 0 qb], none, 0, [], 2, ⟨2, [1], []⟩⟩) (fun _ h => h) ?_
  refine VC_sound tabOk 100 ?_
  intro b7 _
  (repeat (first | refine Or.inl ⟨rfl, rfl, ?_⟩ | refine Or.inl ⟨rfl, ?_⟩ | refine Or.inr ?_))
  refine Go_res (.blk b7 65 (encE ev1) :: qR I ⟨T1 A0 c0 [ev1], 0, A1', c1', [tk1 A1 c1], 1, [cA 1 0 qa, cB 1 0 qb], none, 0, [], 2, ⟨2, [1], []⟩⟩) (fun _ h => h) ?_
  have al2 : Alike ⟨2, [], [1]⟩ [2] := Alike.commit al1 (x := 1) (by decide)
  refine Go_ops rfl (OpTo_tcall [.blk b7 65 (encE ev1)] (qR I ⟨T1 A0 c0 [ev1], 0, A1', c1', [tk1 A1 c1], 1, [cA 1 0 qa, cB 1 0 qb], none, 0, [], 2, ⟨2, [1], []⟩⟩) rfl rfl rfl rfl rfl rfl (by kernel_rfl) (fun w hb hm hio hsp k => qs_commit_ok I ⟨T1 A0 c0 [ev1], 0, A1', c1', [tk1 A1 c1], 1, [cA 1 0 qa, cB 1 0 qb], none, 0, [], 2, ⟨2, [1], []⟩⟩ 1 (by simp) w _ k) ?_)
  rintro _ _ ⟨rfl, rfl⟩
  refine Go_res (.blk b7 65 (encE ev1) :: qR I ⟨T1 A0 c0 [ev1], 0, A1', c1', [tk1 A1 c1], 1, [cA 1 0 qa, cB 1 0 qb], none, 0, [], 2, ⟨2, [], [1]⟩⟩) (fun _ h => h) ?_
  refine VC_sound tabOk 100 ?_
  have hadd2 : Tk.tkAdd [tk1 A1 c1] 2 (pos 1 [2]) (0) = 0 := by simp [Tk.tkAdd, Tk.tkFollows, snRight, rightFrom, snCovers, posF]
  refine Go_ops rfl (OpTo_tcall [.blk b7 65 (encE ev1)] (qR I ⟨T1 A0 c0 [ev1], 0, A1', c1', [tk1 A1 c1], 1, [cA 1 0 qa, cB 1 0 qb], none, 0, [], 2, ⟨2, [], [1]⟩⟩) rfl rfl rfl rfl rfl rfl (by kernel_rfl) (fun w hb hm hio hsp k => q_tick I ⟨T1 A0 c0 [ev1], 0, A1', c1', [tk1 A1 c1], 1, [cA 1 0 qa, cB 1 0 qb], none, 0, [], 2, ⟨2, [], [1]⟩⟩ [2] (0) al2 (by decide) (by intro t ht; simp at ht; subst ht; exact ⟨⟨by simp [tk1, tk2, tk3], by simp [tk1, tk2, tk3]⟩, by simp [tk1, tk2, tk3]⟩) (by decide) ⟨(by first | decide | (simp [Sp.sum3, Sp.noTb]; done)), (by first | decide | (simp [Sp.sum3, Sp.noTb]; done))⟩ (by first | decide | (simp [Sp.sum3, Sp.noTb]; done)) w _ k) ?_)
  rintro _ _ (⟨h0, _, _⟩ | ⟨_, A2, c2, A2', c2', A2'', c2'', rfl, rfl⟩)
  · exact absurd hadd2 h0
  refine Go_res (.blk b7 65 (encE ev1) :: qR I ⟨T1 A0 c0 [ev1], 0, A2', c2', [tk1 A1 c1, tk2 A2 c2], 2, [cA 1 0 qa, cB 1 0 qb], none, 0, [], 2, ⟨2, [], [1]⟩⟩) (fun _ h => (h.dropAt 1)) ?_
  refine VC_sound tabOk 100 ?_
  refine Go_ops rfl (OpTo_tcall [.blk b7 65 (encE ev1)] (qR I ⟨T1 A0 c0 [ev1], 0, A2', c2', [tk1 A1 c1, tk2 A2 c2], 2, [cA 1 0 qa, cB 1 0 qb], none, 0, [], 2, ⟨2, [], [1]⟩⟩) rfl rfl rfl rfl rfl rfl (by kernel_rfl) (fun w hb hm hio hsp k => q_next I ⟨T1 A0 c0 [ev1], 0, A2', c2', [tk1 A1 c1, tk2 A2 c2], 2, [cA 1 0 qa, cB 1 0 qb], none, 0, [], 2, ⟨2, [], [1]⟩⟩ [] [cB 1 0 qb] ⟨Cu.nA, 1, 0⟩ qa rfl rfl (by intro t ht; simp at ht; rcases ht with rfl | rfl <;> exact ⟨⟨by simp [tk1, tk2, tk3], by simp [tk1, tk2, tk3]⟩, by simp [tk1, tk2, tk3]⟩) (by simp) w _ k) ?_)
  rintro _ _ (⟨h0, _, _⟩ | ⟨_, h0, _, _⟩ | ⟨_, t3, B3, d3, h0, rfl, rfl⟩)
  · exact absurd h0 (by decide)
  · exact absurd h0 (by simp [Tk.tkAft])
  obtain rfl : tk2 A2 c2 = t3 := by simpa [Tk.tkAft] using h0
  refine Go_res (.blk b7 65 (encE ev1) :: qR I ⟨T1 A0 c0 [ev1], 0, A2', c2', [tk1 A1 c1, tk2 A2 c2], 2, [cA 1 2 qa, cB 1 0 qb], none, 0, [], 2, ⟨2, [], [1]⟩⟩) (fun _ h => (h.dropAt 1)) ?_
  refine VC_sound tabOk 100 ?_
  refine ⟨_, wrap_i64 (n := at_) (by omega) (by omega), ?_⟩
  (repeat (first | refine Or.inl ⟨rfl, rfl, ?_⟩ | refine Or.inl ⟨rfl, ?_⟩ | refine Or.inr ?_))
  have hb1 : ∀ ys, BatE ⟨T1 A0 c0 [ev1], 0, A2', c2', [tk1 A1 c1, tk2 A2 c2], 2, [cA 1 2 qa, cB 1 0 qb], none, 0, [], 2, ⟨2, [], [1]⟩⟩ ⟨Cu.nA, 1, 2⟩ ys → ys = [ev1] := fun ys hB => by
    obtain ⟨zs, B1, d1, B2, d2, hz, hy⟩ := hB
    have e1 : zs = [ev1] := srt_is (xs := [ev1]) hz (by unfold Rise; decide)
    subst e1
    simp [Bt.bofP, Bt.dueB, bsEq_eq, Bt.SnM.sees, snSees, Tk.fdT, Tk.tkIs, stE, Bt.emptyS] at hy
    exact srt_is (xs := [ev1]) hy (by unfold Rise; decide)
  refine Go_ops rfl (OpTo_tcall [.blk b7 65 (encE ev1)] (qR I ⟨T1 A0 c0 [ev1], 0, A2', c2', [tk1 A1 c1, tk2 A2 c2], 2, [cA 1 2 qa, cB 1 0 qb], none, 0, [], 2, ⟨2, [], [1]⟩⟩) rfl rfl rfl rfl rfl rfl (by kernel_rfl) (fun w hb hm hio hsp k => q_retry I ⟨T1 A0 c0 [ev1], 0, A2', c2', [tk1 A1 c1, tk2 A2 c2], 2, [cA 1 2 qa, cB 1 0 qb], none, 0, [], 2, ⟨2, [], [1]⟩⟩ (1) at_ [] [cB 1 0 qb] ⟨Cu.nA, 1, 2⟩ qa rfl rfl (by intro t ht; simp at ht; rcases ht with rfl | rfl <;> exact ⟨⟨by simp [tk1, tk2, tk3], by simp [tk1, tk2, tk3]⟩, by simp [tk1, tk2, tk3]⟩) (by simp) (by first | decide | (simp [Sp.sum3, Sp.noTb]; done)) (by simp) (by intro e he; simp [Sp.pre3, Sp.noTb] at he; subst he; decide) w _ k) ?_)
  rintro _ _ (⟨h0, _, _⟩ | ⟨_, ys, hB, (⟨hn, _, _⟩ | ⟨j, e, A4, c4, us, hj, he, hne, rfl, hA, rfl⟩)⟩)
  · exact absurd h0 (by decide)
  · rw [hb1 ys hB] at hn; exact absurd rfl (hn ev1 (by simp))
  rw [hb1 ys hB] at hj
  obtain ⟨rfl, rfl⟩ : j = 0 ∧ ev1 = e := by cases j with | zero => exact ⟨rfl, by simpa using hj⟩ | succ j => simp at hj
  obtain rfl : us = [it1 at_] := retAdd hA
  rw [addE_first ev1]
  refine Go_res (.blk b7 65 (encE ev1) :: qR I ⟨T1 A0 c0 [ev1], 0, A2', c2', [tk1 A1 c1, tk2 A2 c2], 2, [cA 1 2 qa, cB 1 0 qb], A4, c4, [it1 at_], 2, ⟨2, [], [1]⟩⟩) (fun _ h => h) ?_
  refine VC_sound tabOk 100 ?_
  refine ⟨fun h => by first | (simp at h; done) | (simp at h; omega) | (simp_all; done), fun _ => ?_⟩
  (repeat (first | refine Or.inl ⟨rfl, rfl, ?_⟩ | refine Or.inl ⟨rfl, ?_⟩ | refine Or.inr ?_))
  have hb2 : ∀ ys, BatE ⟨T1 A0 c0 [ev1], 0, A2', c2', [tk1 A1 c1, tk2 A2 c2], 2, [cA 1 2 qa, cB 1 0 qb], A4, c4, [it1 at_], 2, ⟨2, [], [1]⟩⟩ ⟨Cu.nA, 1, 2⟩ ys → ys = [ev1] := fun ys hB => by
    obtain ⟨zs, B1, d1, B2, d2, hz, hy⟩ := hB
    have e1 : zs = [ev1] := srt_is (xs := [ev1]) hz (by unfold Rise; decide)
    subst e1
    simp [Bt.bofP, Bt.dueB, bsEq_eq, Bt.SnM.sees, snSees, Tk.fdT, Tk.tkIs, stE, Bt.emptyS] at hy
    exact srt_is (xs := [ev1]) hy (by unfold Rise; decide)
  refine Go_ops rfl (OpTo_tcall [.blk b7 65 (encE ev1)] (qR I ⟨T1 A0 c0 [ev1], 0, A2', c2', [tk1 A1 c1, tk2 A2 c2], 2, [cA 1 2 qa, cB 1 0 qb], A4, c4, [it1 at_], 2, ⟨2, [], [1]⟩⟩) rfl rfl rfl rfl rfl rfl (by kernel_rfl) (fun w hb hm hio hsp k => q_retry I ⟨T1 A0 c0 [ev1], 0, A2', c2', [tk1 A1 c1, tk2 A2 c2], 2, [cA 1 2 qa, cB 1 0 qb], A4, c4, [it1 at_], 2, ⟨2, [], [1]⟩⟩ (1) at_ [] [cB 1 0 qb] ⟨Cu.nA, 1, 2⟩ qa rfl rfl (by intro t ht; simp at ht; rcases ht with rfl | rfl <;> exact ⟨⟨by simp [tk1, tk2, tk3], by simp [tk1, tk2, tk3]⟩, by simp [tk1, tk2, tk3]⟩) (by simp) (by first | decide | (simp [Sp.sum3, Sp.noTb]; done)) (by simp) (by intro e he; simp [Sp.pre3, Sp.noTb] at he; subst he; decide) w _ k) ?_)
  rintro _ _ (⟨h0, _, _⟩ | ⟨_, ys, hB, (⟨hn, _, _⟩ | ⟨j, e, A6, c6, us, hj, he, hne, rfl, hA, rfl⟩)⟩)
  · exact absurd h0 (by decide)
  · rw [hb2 ys hB] at hn; exact absurd rfl (hn ev1 (by simp))
  rw [hb2 ys hB] at hj
  obtain ⟨rfl, rfl⟩ : j = 0 ∧ ev1 = e := by cases j with | zero => exact ⟨rfl, by simpa using hj⟩ | succ j => simp at hj
  have h5 : Rt.addE [it1 at_] ev1 Cu.nA = 5 := addE_dup at_
  obtain rfl : us = [it1 at_] := by rcases hA with ⟨h0, _⟩ | ⟨_, h0⟩; exact absurd (h5.symm.trans h0) (by decide); exact h0
  rw [h5]
  refine Go_res (.blk b7 65 (encE ev1) :: qR I ⟨T1 A0 c0 [ev1], 0, A2', c2', [tk1 A1 c1, tk2 A2 c2], 2, [cA 1 2 qa, cB 1 0 qb], A6, c6, [it1 at_], 2, ⟨2, [], [1]⟩⟩) (fun _ h => h) ?_
  refine VC_sound tabOk 100 ?_
  refine ⟨fun h => by first | (simp at h; done) | (simp at h; omega) | (simp_all; done), fun _ => ?_⟩
  (repeat (first | refine Or.inl ⟨rfl, rfl, ?_⟩ | refine Or.inl ⟨rfl, ?_⟩ | refine Or.inr ?_))
  refine ⟨_, wrap_i64 (n := 2) (by decide) (by decide), ?_⟩
  have hb3 : ∀ ys, BatE ⟨T1 A0 c0 [ev1], 0, A2', c2', [tk1 A1 c1, tk2 A2 c2], 2, [cA 1 2 qa, cB 1 0 qb], A6, c6, [it1 at_], 2, ⟨2, [], [1]⟩⟩ ⟨Cu.nA, 1, 2⟩ ys → ys = [ev1] := fun ys hB => by
    obtain ⟨zs, B1, d1, B2, d2, hz, hy⟩ := hB
    have e1 : zs = [ev1] := srt_is (xs := [ev1]) hz (by unfold Rise; decide)
    subst e1
    simp [Bt.bofP, Bt.dueB, bsEq_eq, Bt.SnM.sees, snSees, Tk.fdT, Tk.tkIs, stE, Bt.emptyS] at hy
    exact srt_is (xs := [ev1]) hy (by unfold Rise; decide)
  refine Go_ops rfl (OpTo_tcall [.blk b7 65 (encE ev1)] (qR I ⟨T1 A0 c0 [ev1], 0, A2', c2', [tk1 A1 c1, tk2 A2 c2], 2, [cA 1 2 qa, cB 1 0 qb], A6, c6, [it1 at_], 2, ⟨2, [], [1]⟩⟩) rfl rfl rfl rfl rfl rfl (by kernel_rfl) (fun w hb hm hio hsp k => q_retry I ⟨T1 A0 c0 [ev1], 0, A2', c2', [tk1 A1 c1, tk2 A2 c2], 2, [cA 1 2 qa, cB 1 0 qb], A6, c6, [it1 at_], 2, ⟨2, [], [1]⟩⟩ (2) at_ [] [cB 1 0 qb] ⟨Cu.nA, 1, 2⟩ qa rfl rfl (by intro t ht; simp at ht; rcases ht with rfl | rfl <;> exact ⟨⟨by simp [tk1, tk2, tk3], by simp [tk1, tk2, tk3]⟩, by simp [tk1, tk2, tk3]⟩) (by simp) (by first | decide | (simp [Sp.sum3, Sp.noTb]; done)) (by simp) (by intro e he; simp [Sp.pre3, Sp.noTb] at he; subst he; decide) w _ k) ?_)
  rintro _ _ (⟨h0, _, _⟩ | ⟨_, ys, hB, (⟨_, rfl, rfl⟩ | ⟨j, e, A8, c8, us, hj, he, _⟩)⟩)
  · exact absurd h0 (by decide)
  rotate_left
  · rw [hb3 ys hB] at hj
    obtain ⟨rfl, rfl⟩ : j = 0 ∧ ev1 = e := by cases j with | zero => exact ⟨rfl, by simpa using hj⟩ | succ j => simp at hj
    exact absurd he (by decide)
  refine Go_res (.blk b7 65 (encE ev1) :: qR I ⟨T1 A0 c0 [ev1], 0, A2', c2', [tk1 A1 c1, tk2 A2 c2], 2, [cA 1 2 qa, cB 1 0 qb], A6, c6, [it1 at_], 2, ⟨2, [], [1]⟩⟩) (fun _ h => h) ?_
  refine VC_sound tabOk 100 ?_
  refine ⟨fun h => by first | (simp at h; done) | (simp at h; omega) | (simp_all; done), fun _ => ?_⟩
  (repeat (first | refine Or.inl ⟨rfl, rfl, ?_⟩ | refine Or.inl ⟨rfl, ?_⟩ | refine Or.inr ?_))
  refine Go_ops rfl (OpTo_tcall [.blk b7 65 (encE ev1)] (qR I ⟨T1 A0 c0 [ev1], 0, A2', c2', [tk1 A1 c1, tk2 A2 c2], 2, [cA 1 2 qa, cB 1 0 qb], A6, c6, [it1 at_], 2, ⟨2, [], [1]⟩⟩) rfl rfl rfl rfl rfl rfl (by kernel_rfl) (fun w hb hm hio hsp k => q_retry I ⟨T1 A0 c0 [ev1], 0, A2', c2', [tk1 A1 c1, tk2 A2 c2], 2, [cA 1 2 qa, cB 1 0 qb], A6, c6, [it1 at_], 2, ⟨2, [], [1]⟩⟩ 1 at_ [cA 1 2 qa] [] ⟨nB, 1, 0⟩ qb rfl rfl (by intro t ht; simp at ht; rcases ht with rfl | rfl <;> exact ⟨⟨by simp [tk1, tk2, tk3], by simp [tk1, tk2, tk3]⟩, by simp [tk1, tk2, tk3]⟩) (by simp) (by first | decide | (simp [Sp.sum3, Sp.noTb]; done)) (by simp) (by intro e he; simp [Sp.pre3, Sp.noTb] at he; subst he; decide) w _ k) ?_)
  rintro _ _ (⟨_, rfl, rfl⟩ | ⟨h0, _⟩)
  rotate_left
  · exact absurd rfl h0
  refine Go_res (.blk b7 65 (encE ev1) :: qR I ⟨T1 A0 c0 [ev1], 0, A2', c2', [tk1 A1 c1, tk2 A2 c2], 2, [cA 1 2 qa, cB 1 0 qb], A6, c6, [it1 at_], 2, ⟨2, [], [1]⟩⟩) (fun _ h => h) ?_
  refine VC_sound tabOk 100 ?_
  refine ⟨fun h => by first | (simp at h; done) | (simp at h; omega) | (simp_all; done), fun _ => ?_⟩
  refine Go_ops rfl (OpTo_tcall [.blk b7 65 (encE ev1)] (qR I ⟨T1 A0 c0 [ev1], 0, A2', c2', [tk1 A1 c1, tk2 A2 c2], 2, [cA 1 2 qa, cB 1 0 qb], A6, c6, [it1 at_], 2, ⟨2, [], [1]⟩⟩) rfl rfl rfl rfl rfl rfl (by kernel_rfl) (fun w hb hm hio hsp k => q_finish I ⟨T1 A0 c0 [ev1], 0, A2', c2', [tk1 A1 c1, tk2 A2 c2], 2, [cA 1 2 qa, cB 1 0 qb], A6, c6, [it1 at_], 2, ⟨2, [], [1]⟩⟩ [] [cB 1 0 qb] ⟨Cu.nA, 1, 2⟩ qa rfl rfl w _ k) ?_)
  rintro _ _ ⟨rfl, rfl⟩
  refine Go_res (.blk b7 65 (encE ev1) :: qR I ⟨T1 A0 c0 [ev1], 0, A2', c2', [tk1 A1 c1, tk2 A2 c2], 2, [cA 2 0 qa, cB 1 0 qb], A6, c6, [it1 at_], 2, ⟨2, [], [1]⟩⟩) (fun _ h => h) ?_
  refine VC_sound tabOk 100 ?_
  have al3 : Alike ⟨3, [2], [1]⟩ [2, 1] := Alike.begin al2
  refine Go_ops rfl (OpTo_tcall [.blk b7 65 (encE ev1)] (qR I ⟨T1 A0 c0 [ev1], 0, A2', c2', [tk1 A1 c1, tk2 A2 c2], 2, [cA 2 0 qa, cB 1 0 qb], A6, c6, [it1 at_], 2, ⟨2, [], [1]⟩⟩) rfl rfl rfl rfl rfl rfl (by kernel_rfl) (fun w hb hm hio hsp k => qs_begin_ok I ⟨T1 A0 c0 [ev1], 0, A2', c2', [tk1 A1 c1, tk2 A2 c2], 2, [cA 2 0 qa, cB 1 0 qb], A6, c6, [it1 at_], 2, ⟨2, [], [1]⟩⟩ [2] al2 (by decide) (by decide) w _ k) ?_)
  rintro _ _ ⟨rfl, rfl⟩
  refine Go_res (.blk b7 65 (encE ev1) :: qR I ⟨T1 A0 c0 [ev1], 0, A2', c2', [tk1 A1 c1, tk2 A2 c2], 2, [cA 2 0 qa, cB 1 0 qb], A6, c6, [it1 at_], 2, ⟨3, [2], [1]⟩⟩) (fun _ h => h) ?_
  refine VC_sound tabOk 100 ?_
  refine ⟨_, wrap_i64 (n := at_ - 1) (by omega) (by omega), ?_⟩
  have hd1 : Rt.dueL (at_ - 1) [it1 at_] = [] := by simp [Rt.dueL]; omega
  refine Go_ops rfl (OpTo_tcall [.blk b7 65 (encE ev1)] (qR I ⟨T1 A0 c0 [ev1], 0, A2', c2', [tk1 A1 c1, tk2 A2 c2], 2, [cA 2 0 qa, cB 1 0 qb], A6, c6, [it1 at_], 2, ⟨3, [2], [1]⟩⟩) rfl rfl rfl rfl rfl rfl (by kernel_rfl) (fun w hb hm hio hsp k => q_maint I ⟨T1 A0 c0 [ev1], 0, A2', c2', [tk1 A1 c1, tk2 A2 c2], 2, [cA 2 0 qa, cB 1 0 qb], A6, c6, [it1 at_], 2, ⟨3, [2], [1]⟩⟩ 2 (at_ - 1) (by first | decide | (simp [Sp.sum3, Sp.noTb]; done)) (by first | decide | (simp [Sp.sum3, Sp.noTb]; done)) (by simp) w _ k) ?_)
  rintro _ _ ⟨A10, c10, A10', c10', A10'', c10'', rfl, rfl⟩
  simp only [QS.mt, hd1, mtL, List.map_nil, List.length_nil, List.drop_zero, List.append_nil]
  refine Go_res (.blk b7 65 (encE ev1) :: qR I ⟨T1 A10'' c10'' [ev1], 0, A2', c2', [tk1 A1 c1, tk2 A2 c2], 2, [cA 2 0 qa, cB 1 0 qb], A10', c10', [it1 at_], 2, ⟨3, [2], [1]⟩⟩) (fun _ h => (h.dropAt 1)) ?_
  refine VC_sound tabOk 100 ?_
  refine ⟨fun h => by first | (simp at h; done) | (simp at h; omega) | (simp_all; done), fun _ => ?_⟩
  have hd2 : Rt.dueL at_ [it1 at_] = [{ ev2 with tx := 1 }] := by simp [Rt.dueL]
  refine Go_ops rfl (OpTo_tcall [.blk b7 65 (encE ev1)] (qR I ⟨T1 A10'' c10'' [ev1], 0, A2', c2', [tk1 A1 c1, tk2 A2 c2], 2, [cA 2 0 qa, cB 1 0 qb], A10', c10', [it1 at_], 2, ⟨3, [2], [1]⟩⟩) rfl rfl rfl rfl rfl rfl (by kernel_rfl) (fun w hb hm hio hsp k => q_maint I ⟨T1 A10'' c10'' [ev1], 0, A2', c2', [tk1 A1 c1, tk2 A2 c2], 2, [cA 2 0 qa, cB 1 0 qb], A10', c10', [it1 at_], 2, ⟨3, [2], [1]⟩⟩ 2 at_ (by first | decide | (simp [Sp.sum3, Sp.noTb]; done)) (by first | decide | (simp [Sp.sum3, Sp.noTb]; done)) (by simp) w _ k) ?_)
  rintro _ _ ⟨A11, c11, A11', c11', A11'', c11'', rfl, rfl⟩
  simp only [QS.mt, hd2, mtL, List.map_cons, List.map_nil, List.length_cons, List.length_nil]
  refine Go_res (.blk b7 65 (encE ev1) :: qR I ⟨T1 A11'' c11'' [ev1, ev2], 0, A2', c2', [tk1 A1 c1, tk2 A2 c2], 2, [cA 2 0 qa, cB 1 0 qb], A11', c11', [], 2, ⟨3, [2], [1]⟩⟩) (fun _ h => (h.dropAt 1)) ?_
  refine VC_sound tabOk 100 ?_
  refine ⟨fun h => by first | (simp at h; done) | (simp at h; omega) | (simp_all; done), fun _ => ?_⟩
  have al4 : Alike ⟨3, [], [1, 2]⟩ [2, 2] := Alike.commit al3 (x := 2) (by decide)
  refine Go_ops rfl (OpTo_tcall [.blk b7 65 (encE ev1)] (qR I ⟨T1 A11'' c11'' [ev1, ev2], 0, A2', c2', [tk1 A1 c1, tk2 A2 c2], 2, [cA 2 0 qa, cB 1 0 qb], A11', c11', [], 2, ⟨3, [2], [1]⟩⟩) rfl rfl rfl rfl rfl rfl (by kernel_rfl) (fun w hb hm hio hsp k => qs_commit_ok I ⟨T1 A11'' c11'' [ev1, ev2], 0, A2', c2', [tk1 A1 c1, tk2 A2 c2], 2, [cA 2 0 qa, cB 1 0 qb], A11', c11', [], 2, ⟨3, [2], [1]⟩⟩ 2 (by simp) w _ k) ?_)
  rintro _ _ ⟨rfl, rfl⟩
  refine Go_res (.blk b7 65 (encE ev1) :: qR I ⟨T1 A11'' c11'' [ev1, ev2], 0, A2', c2', [tk1 A1 c1, tk2 A2 c2], 2, [cA 2 0 qa, cB 1 0 qb], A11', c11', [], 2, ⟨3, [], [1, 2]⟩⟩) (fun _ h => h) ?_
  refine VC_sound tabOk 100 ?_
  have hadd12 : Tk.tkAdd [tk1 A1 c1, tk2 A2 c2] 3 (pos 1 [2, 2]) (at_) = 0 := by simp [Tk.tkAdd, Tk.tkFollows, snRight, rightFrom, snCovers, posF]; omega
  refine Go_ops rfl (OpTo_tcall [.blk b7 65 (encE ev1)] (qR I ⟨T1 A11'' c11'' [ev1, ev2], 0, A2', c2', [tk1 A1 c1, tk2 A2 c2], 2, [cA 2 0 qa, cB 1 0 qb], A11', c11', [], 2, ⟨3, [], [1, 2]⟩⟩) rfl rfl rfl rfl rfl rfl (by kernel_rfl) (fun w hb hm hio hsp k => q_tick I ⟨T1 A11'' c11'' [ev1, ev2], 0, A2', c2', [tk1 A1 c1, tk2 A2 c2], 2, [cA 2 0 qa, cB 1 0 qb], A11', c11', [], 2, ⟨3, [], [1, 2]⟩⟩ [2, 2] (at_) al4 (by decide) (by intro t ht; simp at ht; rcases ht with rfl | rfl <;> exact ⟨⟨by simp [tk1, tk2, tk3], by simp [tk1, tk2, tk3]⟩, by simp [tk1, tk2, tk3]⟩) (by decide) ⟨(by first | decide | (simp [Sp.sum3, Sp.noTb]; done)), (by first | decide | (simp [Sp.sum3, Sp.noTb]; done))⟩ (by first | decide | (simp [Sp.sum3, Sp.noTb]; done)) w _ k) ?_)
  rintro _ _ (⟨h0, _, _⟩ | ⟨_, A12, c12, A12', c12', A12'', c12'', rfl, rfl⟩)
  · exact absurd hadd12 h0
  refine Go_res (.blk b7 65 (encE ev1) :: qR I ⟨T1 A11'' c11'' [ev1, ev2], 0, A12', c12', [tk1 A1 c1, tk2 A2 c2, tk3 A12 c12 at_], 3, [cA 2 0 qa, cB 1 0 qb], A11', c11', [], 2, ⟨3, [], [1, 2]⟩⟩) (fun _ h => (h.dropAt 1)) ?_
  cases other with
  | true =>
    refine VC_sound tabOk 100 ?_
    refine ⟨fun _ => ?_, fun h => by first | (simp at h; done) | (simp at h; omega) | (simp_all; done)⟩
    refine Go_ops rfl (OpTo_tcall [.blk b7 65 (encE ev1)] (qR I ⟨T1 A11'' c11'' [ev1, ev2], 0, A12', c12', [tk1 A1 c1, tk2 A2 c2, tk3 A12 c12 at_], 3, [cA 2 0 qa, cB 1 0 qb], A11', c11', [], 2, ⟨3, [], [1, 2]⟩⟩) rfl rfl rfl rfl rfl rfl (by kernel_rfl) (fun w hb hm hio hsp k => q_next I ⟨T1 A11'' c11'' [ev1, ev2], 0, A12', c12', [tk1 A1 c1, tk2 A2 c2, tk3 A12 c12 at_], 3, [cA 2 0 qa, cB 1 0 qb], A11', c11', [], 2, ⟨3, [], [1, 2]⟩⟩ [cA 2 0 qa] [] ⟨nB, 1, 0⟩ qb rfl rfl (by intro t ht; simp at ht; rcases ht with rfl | rfl | rfl <;> exact ⟨⟨by simp [tk1, tk2, tk3], by simp [tk1, tk2, tk3]⟩, by simp [tk1, tk2, tk3]⟩) (by simp) w _ k) ?_)
    rintro _ _ (⟨h0, _, _⟩ | ⟨_, h0, _, _⟩ | ⟨_, t13, B13, d13, h0, rfl, rfl⟩)
    · exact absurd h0 (by decide)
    · exact absurd h0 (by simp [Tk.tkAft])
    obtain rfl : tk2 A2 c2 = t13 := by simpa [Tk.tkAft] using h0
    refine Go_res (.blk b7 65 (encE ev1) :: qR I ⟨T1 A11'' c11'' [ev1, ev2], 0, A12', c12', [tk1 A1 c1, tk2 A2 c2, tk3 A12 c12 at_], 3, [cA 2 0 qa, cB 1 2 qb], A11', c11', [], 2, ⟨3, [], [1, 2]⟩⟩) (fun _ h => (h.dropAt 1)) ?_
    refine VC_sound tabOk 100 ?_
    refine Go_ops rfl (OpTo_tcall [.blk b7 65 (encE ev1)] (qR I ⟨T1 A11'' c11'' [ev1, ev2], 0, A12', c12', [tk1 A1 c1, tk2 A2 c2, tk3 A12 c12 at_], 3, [cA 2 0 qa, cB 1 2 qb], A11', c11', [], 2, ⟨3, [], [1, 2]⟩⟩) rfl rfl rfl rfl rfl rfl (by kernel_rfl) (fun w hb hm hio hsp k => q_finish I ⟨T1 A11'' c11'' [ev1, ev2], 0, A12', c12', [tk1 A1 c1, tk2 A2 c2, tk3 A12 c12 at_], 3, [cA 2 0 qa, cB 1 2 qb], A11', c11', [], 2, ⟨3, [], [1, 2]⟩⟩ [cA 2 0 qa] [] ⟨nB, 1, 2⟩ qb rfl rfl w _ k) ?_)
    rintro _ _ ⟨rfl, rfl⟩
    refine Go_res (.blk b7 65 (encE ev1) :: qR I ⟨T1 A11'' c11'' [ev1, ev2], 0, A12', c12', [tk1 A1 c1, tk2 A2 c2, tk3 A12 c12 at_], 3, [cA 2 0 qa, cB 2 0 qb], A11', c11', [], 2, ⟨3, [], [1, 2]⟩⟩) (fun _ h => h) ?_
    refine VC_sound tabOk 100 ?_
    refine Go_ops rfl (OpTo_tcall [.blk b7 65 (encE ev1)] (qR I ⟨T1 A11'' c11'' [ev1, ev2], 0, A12', c12', [tk1 A1 c1, tk2 A2 c2, tk3 A12 c12 at_], 3, [cA 2 0 qa, cB 2 0 qb], A11', c11', [], 2, ⟨3, [], [1, 2]⟩⟩) rfl rfl rfl rfl rfl rfl (by kernel_rfl) (fun w hb hm hio hsp k => q_next I ⟨T1 A11'' c11'' [ev1, ev2], 0, A12', c12', [tk1 A1 c1, tk2 A2 c2, tk3 A12 c12 at_], 3, [cA 2 0 qa, cB 2 0 qb], A11', c11', [], 2, ⟨3, [], [1, 2]⟩⟩ [cA 2 0 qa] [] ⟨nB, 2, 0⟩ qb rfl rfl (by intro t ht; simp at ht; rcases ht with rfl | rfl | rfl <;> exact ⟨⟨by simp [tk1, tk2, tk3], by simp [tk1, tk2, tk3]⟩, by simp [tk1, tk2, tk3]⟩) (by simp) w _ k) ?_)
    rintro _ _ (⟨h0, _, _⟩ | ⟨_, h0, _, _⟩ | ⟨_, t14, B14, d14, h0, rfl, rfl⟩)
    · exact absurd h0 (by decide)
    · exact absurd h0 (by simp [Tk.tkAft])
    obtain rfl : tk3 A12 c12 at_ = t14 := by simpa [Tk.tkAft] using h0
    refine Go_res (.blk b7 65 (encE ev1) :: qR I ⟨T1 A11'' c11'' [ev1, ev2], 0, A12', c12', [tk1 A1 c1, tk2 A2 c2, tk3 A12 c12 at_], 3, [cA 2 0 qa, cB 2 3 qb], A11', c11', [], 2, ⟨3, [], [1, 2]⟩⟩) (fun _ h => (h.dropAt 1)) ?_
    refine VC_sound tabOk 100 ?_
    have hb4 : ∀ ys, BatE ⟨T1 A11'' c11'' [ev1, ev2], 0, A12', c12', [tk1 A1 c1, tk2 A2 c2, tk3 A12 c12 at_], 3, [cA 2 0 qa, cB 2 3 qb], A11', c11', [], 2, ⟨3, [], [1, 2]⟩⟩ ⟨nB, 2, 3⟩ ys → ys = [] := fun ys hB => by
      obtain ⟨zs, B1, d1, B2, d2, hz, hy⟩ := hB
      have e1 : zs = [ev1, ev2] := srt_is (xs := [ev1, ev2]) hz (by unfold Rise; decide)
      subst e1
      simp [Bt.bofP, Bt.dueB, bsEq_eq, Bt.SnM.sees, snSees, Tk.fdT, Tk.tkIs, stE, Bt.emptyS] at hy
      exact srt_is (xs := []) hy (by unfold Rise; decide)
    refine Go_ops rfl (OpTo_tcall [.blk b7 65 (encE ev1)] (qR I ⟨T1 A11'' c11'' [ev1, ev2], 0, A12', c12', [tk1 A1 c1, tk2 A2 c2, tk3 A12 c12 at_], 3, [cA 2 0 qa, cB 2 3 qb], A11', c11', [], 2, ⟨3, [], [1, 2]⟩⟩) rfl rfl rfl rfl rfl rfl (by kernel_rfl) (fun w hb hm hio hsp k => q_batch I ⟨T1 A11'' c11'' [ev1, ev2], 0, A12', c12', [tk1 A1 c1, tk2 A2 c2, tk3 A12 c12 at_], 3, [cA 2 0 qa, cB 2 3 qb], A11', c11', [], 2, ⟨3, [], [1, 2]⟩⟩ [cA 2 0 qa] [] ⟨nB, 2, 3⟩ qb rfl rfl (by intro t ht; simp at ht; rcases ht with rfl | rfl | rfl <;> exact ⟨⟨by simp [tk1, tk2, tk3], by simp [tk1, tk2, tk3]⟩, by simp [tk1, tk2, tk3]⟩) (by simp) (by first | decide | (simp [Sp.sum3, Sp.noTb]; done)) w _ k) ?_)
    rintro _ _ (⟨h0, _, _⟩ | ⟨_, ys, A15, c15, hB, rfl, rfl⟩)
    · exact absurd h0 (by decide)
    obtain rfl := hb4 ys hB
    refine VC_sound tabOk 100 ?_
    refine ⟨fun _ => ?_, fun h => by first | (simp at h; done) | (simp at h; omega) | (simp_all; done)⟩
    refine ⟨fun _ => ?_, fun h => by first | (simp at h; done) | (simp at h; omega) | (simp_all; done)⟩
    rfl
  | false =>
    refine VC_sound tabOk 100 ?_
    refine ⟨fun h => by first | (simp at h; done) | (simp at h; omega) | (simp_all; done), fun _ => ?_⟩
    refine Go_ops rfl (OpTo_tcall [.blk b7 65 (encE ev1)] (qR I ⟨T1 A11'' c11'' [ev1, ev2], 0, A12', c12', [tk1 A1 c1, tk2 A2 c2, tk3 A12 c12 at_], 3, [cA 2 0 qa, cB 1 0 qb], A11', c11', [], 2, ⟨3, [], [1, 2]⟩⟩) rfl rfl rfl rfl rfl rfl (by kernel_rfl) (fun w hb hm hio hsp k => q_next I ⟨T1 A11'' c11'' [ev1, ev2], 0, A12', c12', [tk1 A1 c1, tk2 A2 c2, tk3 A12 c12 at_], 3, [cA 2 0 qa, cB 1 0 qb], A11', c11', [], 2, ⟨3, [], [1, 2]⟩⟩ [] [cB 1 0 qb] ⟨Cu.nA, 2, 0⟩ qa rfl rfl (by intro t ht; simp at ht; rcases ht with rfl | rfl | rfl <;> exact ⟨⟨by simp [tk1, tk2, tk3], by simp [tk1, tk2, tk3]⟩, by simp [tk1, tk2, tk3]⟩) (by simp) w _ k) ?_)
    rintro _ _ (⟨h0, _, _⟩ | ⟨_, h0, _, _⟩ | ⟨_, t16, B16, d16, h0, rfl, rfl⟩)
    · exact absurd h0 (by decide)
    · exact absurd h0 (by simp [Tk.tkAft])
    obtain rfl : tk3 A12 c12 at_ = t16 := by simpa [Tk.tkAft] using h0
    refine Go_res (.blk b7 65 (encE ev1) :: qR I ⟨T1 A11'' c11'' [ev1, ev2], 0, A12', c12', [tk1 A1 c1, tk2 A2 c2, tk3 A12 c12 at_], 3, [cA 2 3 qa, cB 1 0 qb], A11', c11', [], 2, ⟨3, [], [1, 2]⟩⟩) (fun _ h => (h.dropAt 1)) ?_
    refine VC_sound tabOk 100 ?_
    have hb5 : ∀ ys, BatE ⟨T1 A11'' c11'' [ev1, ev2], 0, A12', c12', [tk1 A1 c1, tk2 A2 c2, tk3 A12 c12 at_], 3, [cA 2 3 qa, cB 1 0 qb], A11', c11', [], 2, ⟨3, [], [1, 2]⟩⟩ ⟨Cu.nA, 2, 3⟩ ys → ys = [ev2] := fun ys hB => by
      obtain ⟨zs, B1, d1, B2, d2, hz, hy⟩ := hB
      have e1 : zs = [ev1, ev2] := srt_is (xs := [ev1, ev2]) hz (by unfold Rise; decide)
      subst e1
      simp [Bt.bofP, Bt.dueB, bsEq_eq, Bt.SnM.sees, snSees, Tk.fdT, Tk.tkIs, stE, Bt.emptyS] at hy
      exact srt_is (xs := [ev2]) hy (by unfold Rise; decide)
    refine Go_ops rfl (OpTo_tcall [.blk b7 65 (encE ev1)] (qR I ⟨T1 A11'' c11'' [ev1, ev2], 0, A12', c12', [tk1 A1 c1, tk2 A2 c2, tk3 A12 c12 at_], 3, [cA 2 3 qa, cB 1 0 qb], A11', c11', [], 2, ⟨3, [], [1, 2]⟩⟩) rfl rfl rfl rfl rfl rfl (by kernel_rfl) (fun w hb hm hio hsp k => q_batch I ⟨T1 A11'' c11'' [ev1, ev2], 0, A12', c12', [tk1 A1 c1, tk2 A2 c2, tk3 A12 c12 at_], 3, [cA 2 3 qa, cB 1 0 qb], A11', c11', [], 2, ⟨3, [], [1, 2]⟩⟩ [] [cB 1 0 qb] ⟨Cu.nA, 2, 3⟩ qa rfl rfl (by intro t ht; simp at ht; rcases ht with rfl | rfl | rfl <;> exact ⟨⟨by simp [tk1, tk2, tk3], by simp [tk1, tk2, tk3]⟩, by simp [tk1, tk2, tk3]⟩) (by simp) (by first | decide | (simp [Sp.sum3, Sp.noTb]; done)) w _ k) ?_)
    rintro _ _ (⟨h0, _, _⟩ | ⟨_, ys, A17, c17, hB, rfl, rfl⟩)
    · exact absurd h0 (by decide)
    obtain rfl := hb5 ys hB
    refine Go_with _ (fun w hm _ => hm.own_some (i := 1) rfl (by simp)) ?_
    rintro ⟨bv, ov, rfl⟩
    refine VC_sound tabOk 100 ?_
    refine ⟨fun h => by first | (simp at h; done) | (simp at h; omega) | (simp_all; done), fun _ => ?_⟩
    show Go _ _ _ _
    refine Go_any mixed [] [(0, false), (1, false), (2, false), (3, false), (4, false), (5, false), (6, false), (7, false), (8, false), (9, false), (10, false), (12, false), (11, false), (13, false), (14, false), (15, false), (16, false), (17, false), (18, false), (19, false), (20, false), (21, false), (22, false), (23, false), (24, false), (25, false), (26, false), (27, false), (28, false), (29, false), (30, false), (31, false), (32, false), (33, false), (35, false), (34, false), (36, false), (37, false), (38, false), (39, false)] rfl (by kernel_rfl) (by kernel_rfl) [.blk b7 65 (encE ev1)] (fun w => RdW w (some ⟨bv, ov, none⟩) ([ev2].flatMap encE)) (fun w w' hk h => h.old hk) (fun w hm _ => ⟨Holds.of_idx [0] hm, by exact Mod.own_rd (k := 8) (T := 65) (c := c17) (i := 1) hm rfl⟩) ?_
    refine VC_sound tabOk 100 ?_
    refine ⟨fun _ => ?_, fun h => by first | (simp at h; done) | (simp at h; omega) | (simp_all; done)⟩
    refine ⟨fun _ => ?_, fun h => by first | (simp at h; done) | (simp at h; omega) | (simp_all; done)⟩
    refine ⟨⟨by decide, by decide⟩, ?_⟩
    (repeat (first | refine Or.inl ⟨rfl, rfl, ?_⟩ | refine Or.inl ⟨rfl, ?_⟩ | refine Or.inr ?_))
    refine Go_first (v := .int .i64 1) rfl rfl rfl rfl (fun w _ hw => rxLoadPart tabOk rfl encE_is hw (show [ev2][0]? = some ev2 from rfl) (off := 0) rfl (by simp only [addA]; rfl)) ?_
    refine VC_sound tabOk 100 ?_
    (repeat (first | refine Or.inl ⟨rfl, rfl, ?_⟩ | refine Or.inl ⟨rfl, ?_⟩ | refine Or.inr ?_))
    refine ⟨fun _ => ?_, fun h => by first | (simp at h; done) | (simp at h; omega) | (simp_all; done)⟩
    refine ⟨⟨by decide, by decide⟩, ?_⟩
    (repeat (first | refine Or.inl ⟨rfl, rfl, ?_⟩ | refine Or.inl ⟨rfl, ?_⟩ | refine Or.inr ?_))
    refine Go_first (v := .int .i64 1) rfl rfl rfl rfl (fun w _ hw => rxLoadPart tabOk rfl encE_is hw (show [ev2][0]? = some ev2 from rfl) (off := 3) rfl (by simp only [addA]; rfl)) ?_
    refine VC_sound tabOk 100 ?_
    (repeat (first | refine Or.inl ⟨rfl, rfl, ?_⟩ | refine Or.inl ⟨rfl, ?_⟩ | refine Or.inr ?_))
    refine ⟨fun _ => ?_, fun h => by first | (simp at h; done) | (simp at h; omega) | (simp_all; done)⟩
    refine ⟨⟨by decide, by decide⟩, ?_⟩
    (repeat (first | refine Or.inl ⟨rfl, rfl, ?_⟩ | refine Or.inl ⟨rfl, ?_⟩ | refine Or.inr ?_))
    refine Go_first (v := .int .i64 2) rfl rfl rfl rfl (fun w _ hw => rxLoadPart tabOk rfl encE_is hw (show [ev2][0]? = some ev2 from rfl) (off := 1) rfl (by simp only [addA]; rfl)) ?_
    refine VC_sound tabOk 100 ?_
    (repeat (first | refine Or.inl ⟨rfl, rfl, ?_⟩ | refine Or.inl ⟨rfl, ?_⟩ | refine Or.inr ?_))
    refine ⟨fun _ => ?_, fun h => by first | (simp at h; done) | (simp at h; omega) | (simp_all; done)⟩
    refine ⟨⟨by decide, by decide⟩, ?_⟩
    (repeat (first | refine Or.inl ⟨rfl, rfl, ?_⟩ | refine Or.inl ⟨rfl, ?_⟩ | refine Or.inr ?_))
    refine Go_first (v := .agg #[.int .i64 5, .string ⟨#[120]⟩]) rfl rfl rfl rfl (fun w _ hw => rxLoadPart tabOk rfl encE_is hw (show [ev2][0]? = some ev2 from rfl) (off := 6) rfl (by simp only [addA]; rfl)) ?_
    refine VC_sound tabOk 100 ?_
    (repeat (first | refine Or.inl ⟨rfl, rfl, ?_⟩ | refine Or.inl ⟨rfl, ?_⟩ | refine Or.inr ?_))
    refine Go_firstB (.bool true) rfl rfl rfl rfl rfl (fun w => rw_eql _ _ w) ?_
    refine VC_sound tabOk 100 ?_
    rfl
end Go.Proofs.YthpcahgdobnljaaGreat
