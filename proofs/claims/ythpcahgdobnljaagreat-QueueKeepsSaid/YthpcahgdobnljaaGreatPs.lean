/- A queue and the document's: the start. -/
import Derived.Test.YthpcahgdobnljaaGreatPo
set_option maxRecDepth 100000
set_option autoImplicit false
set_option linter.unusedVariables false
set_option linter.unusedSimpArgs false
namespace Go.Proofs.YthpcahgdobnljaaGreat
open Go.RX Go Go.RowKit Go.ChangeShapes Go.WideShapes Go.ChangeAt

abbrev PS0 : RS := ⟨(Sp.noTb, Sp.noTb, Sp.noTb), 0, none, 0, [], 0, none, 0, [], none, 0, [], 1, none, 0, []⟩
theorem PInv.start : PInv 0 (QS0 ⟨1, [], []⟩) PS0 := by
  refine ⟨Alike.start, by simp, by simp [posF], rfl, ⟨by show (0 : Nat) < 3; decide, by simp [Sp.sum3, Sp.noTb], fun k hk => rfl⟩, rfl, TkN.nil, (fun t ht => by cases ht), ⟨rfl, by simp, by simp⟩, by simp, Cu.LikeY.nil, (fun y hy => by cases hy), rfl, List.nodup_nil, List.Pairwise.nil, by simp, fun e he => ?_, (fun y hy => by cases hy), ⟨rfl, by simp, by simp⟩⟩
  simp [P3, Sp.pre3, Sp.noTb] at he
set_option maxHeartbeats 2000000 in
theorem start15 (w0 : World) :
    Calls Tryz.prog 10 #[] w0 fun e w' => ∃ v Rs', e = .returned v ∧ (∃ bx I J, v = pv bx ∧ Rs' = allR bx I J (QS0 ⟨1, [], []⟩) PS0) ∧ Mod [heapOf w0] Rs' w' ∧ Oth w0 w' := by
  refine enterN (tab := tab) Tryz.func10 rfl Tryz.ntmps10 rfl (args := []) rfl (Mod.start w0) ?_
  refine VC_sound tabOk 100 ?_
  show Go _ _ _ _
  refine Go_ops rfl (OpTo_ncall rfl rfl rfl rfl rfl (by kernel_rfl) (fun w hm _ => txn_new w) ?_)
  rintro _ _ ⟨m, b1, b2, rfl, rfl⟩
  refine VC_sound tabOk 100 ?_
  intro br _
  intro bx _
  refine Go_res (.blk bx 34 [pv m, pv br, .pointer none, .pointer none] :: .blk br 106 [.slice none 0 0] :: txB m b1 b2 ⟨1, [], []⟩) (fun _ h => h) ?_
  show Go _ _ _ _
  refine Go_any mixed [14, 17] [(0, false), (1, false), (2, false), (3, false), (4, false), (7, false), (8, false), (9, false), (5, false), (10, false), (6, true), (11, true), (12, false), (13, false), (14, true), (15, false), (16, false), (17, true)] rfl (by kernel_rfl) (by kernel_rfl) [.blk bx 34 [pv m, pv br, .pointer none, .pointer none]] (fun _ => True) (fun _ _ _ h => h) (fun w hm _ => ⟨Holds.of_idx [0] hm, trivial⟩) ?_
  refine VC_sound tabOk 100 ?_
  (repeat (first | refine Or.inl ⟨rfl, rfl, ?_⟩ | refine Or.inl ⟨rfl, ?_⟩ | refine Or.inr ?_))
  refine Go_aloneL rfl rfl (OpTo_tcall [.blk bx 34 [pv m, pv br, .pointer none, .pointer none], .blk br 106 [.slice none 0 0]] (txB m b1 b2 ⟨1, [], []⟩) rfl rfl rfl rfl rfl rfl (by kernel_rfl) (fun w hb hm hio hsp k => qs_new m b1 b2 ⟨1, [], []⟩ w _ k) ?_)
  rintro _ _ ⟨q, bs, bt, bc, bm, bre, rfl, rfl⟩
  refine And.intro (fun w hm _ => ⟨Holds.of_idx [0] hm, trivial⟩) ?_
  refine VC_sound tabOk 100 ?_
  refine Go_aloneL rfl rfl (OpTo_ncall rfl rfl rfl rfl rfl (by kernel_rfl) (fun w hm _ => pr_new br w) ?_)
  rintro _ _ ⟨b, rfl, rfl⟩
  refine And.intro (fun w hm _ => ⟨Holds.of_idx [1] hm, trivial⟩) ?_
  refine VC_sound tabOk 100 ?_
  (repeat (first | refine Or.inl ⟨rfl, rfl, ?_⟩ | refine Or.inl ⟨rfl, ?_⟩ | refine Or.inr ?_))
  refine ⟨_, ⟨bx, ⟨q, m, b1, b2, bs, bt, bc, bm, bre⟩, ⟨b, br⟩, rfl, rfl⟩, fun hq w h => ?_⟩
  have h5 := (((((((h.own_nil (enc := encE) (k := 8) (T := 65) none).own_nil (enc := encE) (k := 8) (T := 65) none).own_nil (enc := encE) (k := 8) (T := 65) none).own_nil (enc := Tk.encT) (k := 4) (T := 44) none).own_nil (enc := Cu.encC) (k := 3) (T := 101) none).own_nil (enc := Rt.encT) (k := 9) (T := 205) none).own_nil (enc := encU) (k := 1) (T := 5) none).ro_nil
  -- ro · own R · xs · ys · ticks · tables · b · bx · br · the queue
  have h6 : Mod hq (ro [] :: own encU 1 5 none 0 [] :: own Rt.encT 9 205 none 0 [] :: own Cu.encC 3 101 none 0 [] :: own Tk.encT 4 44 none 0 [] :: own encE 8 65 none 0 [] :: own encE 8 65 none 0 [] :: own encE 8 65 none 0 [] :: .blk b 100 [pv br, .slice none 0 0, .slice none 0 0, .slice none 0 0, .int .i64 ((0 : Nat) : Int), .slice none 0 0, .int .i64 0, .slice none 0 0, .slice none 0 0, .int .i64 1] :: .blk bx 34 [pv m, pv br, pv q, pv b] :: .blk br 106 [.slice none 0 0] :: qR ⟨q, m, b1, b2, bs, bt, bc, bm, bre⟩ (QS0 ⟨1, [], []⟩)) w := h5
  refine h6.permRs ?_
  exact (by classical exact List.perm_iff_count.2 fun a => by simp only [allR, runB, rqR, rqB, PS0, refB, Tk.tkBag, Sp.noTb, Sp.Tb.r, Sp.Tb.v, List.map_nil, List.length_nil, List.cons_append, List.nil_append, List.append_nil, List.count_cons, List.count_append, List.count_nil] <;> omega)
theorem dropR {hfs : List PH} {bx : Nat} {I : QI} {J : RI} {S : QS} {P : RS} {w : World} (h : Mod hfs (allR bx I J S P) w) : Mod hfs (runB bx I J :: qR I S) w :=
  (h.permRs (List.perm_middle (l₁ := rqR J P)).symm).drop (a := rqR J P)
end Go.Proofs.YthpcahgdobnljaaGreat
