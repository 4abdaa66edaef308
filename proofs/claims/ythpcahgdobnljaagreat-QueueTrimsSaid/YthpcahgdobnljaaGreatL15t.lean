/- The law QueueTrims: what its run comes to. -/
import Derived.Test.YthpcahgdobnljaaGreatPs
set_option maxRecDepth 100000
set_option autoImplicit false
set_option linter.unusedVariables false
set_option linter.unusedSimpArgs false
namespace Go.Proofs.YthpcahgdobnljaaGreat
open Go.RX Go Go.RowKit Go.ChangeShapes Go.WideShapes Go.ChangeAt

theorem TkN.isSome {ts : List Tk.TickM} {last : Int} (h : TkN ts last) {m : Int} (hm : ∃ t ∈ ts, t.n = m) : (ts.find? (Tk.tkIs m)).isSome = true := by
  obtain ⟨t, ht, rfl⟩ := hm
  rw [h.find ht]; rfl
theorem TkN.last_is {ts : List Tk.TickM} {last : Int} (h : TkN ts last) (h0 : 0 ≤ last) : (ts.find? (Tk.tkIs last)).isSome = decide (0 < last) := by
  by_cases hl : 0 < last
  · obtain ⟨t, h1, h2⟩ := h.lst hl
    rw [h.isSome ⟨t, List.mem_of_getLast? h1, h2⟩, decide_eq_true hl]
  · rw [decide_eq_false hl]
    cases hf : ts.find? (Tk.tkIs last) with
    | none => rfl
    | some t =>
      have h1 := h.bd t (List.mem_of_find?_eq_some hf)
      have h2 : t.n = last := by simpa [Tk.tkIs] using List.find?_some hf
      omega
theorem trim_again (S : QS) (low : Int) : trimTs { S with ts := trimTs S low } low = trimTs S low := by
  unfold trimTs
  rw [List.filter_filter]
  refine List.filter_congr fun t _ => ?_
  simp
set_option maxHeartbeats 16000000 in
theorem l15_QueueTrims (A0 : Option Addr) (c0 : Nat) (l : List Act15) (w0 : World) (hr : RdW w0 A0 (l.flatMap encA)) (hok : ∀ z ∈ l, okA w0 z) :
    Calls Tryz.prog 3 #[.slice A0 l.length c0] w0 fun e w' => e = .returned (.bool true) ∧ BelowD w0.heap.size w0 w' := by
  refine enterP (tab := tab) Tryz.func3 rfl Tryz.ntmps3 rfl (args := [_]) rfl ?_
  refine VC_sound tabOk 100 ?_
  refine Go_ops rfl (OpTo_pcall (v := .bool true) rfl rfl rfl rfl rfl (by kernel_rfl) (fun w hm _ => l15_early w) ?_)
  refine VC_sound tabOk 100 ?_
  refine ⟨fun h => by first | (simp at h; done) | (simp at h; omega) | (simp_all; done), fun _ => ?_⟩
  refine ⟨fun hc => ?_, fun hc => ?_⟩
  · refine Go_ops rfl (OpTo_pcall (v := .bool true) rfl rfl rfl rfl rfl (by kernel_rfl) (fun w hm _ => l15_early w) ?_)
    refine VC_sound tabOk 100 ?_
    rfl
  have hl80 : l.length ≤ 80 := by have := of_decide_eq_false hc; omega
  show Go _ _ _ _
  refine Go_ops rfl (OpTo_ncall rfl rfl rfl rfl rfl (by kernel_rfl) (fun w hm _ => start15 w) ?_)
  rintro _ _ ⟨bx, I, J, rfl, rfl⟩
  refine VC_sound tabOk 100 ?_
  refine Go_loop (σ := Nat × QS × RS) (fun s => [(0, .v (.slice A0 l.length c0)), (3, .v (pv bx)), (4, .v (.int .i64 s.1))]) (fun s => allR bx I J s.2.1 s.2.2) (fun s => s.1 ≤ l.length ∧ PInv s.1 s.2.1 s.2.2) (fun s => l.length - s.1) (0, QS0 ⟨1, [], []⟩, PS0) ⟨Nat.zero_le _, PInv.start⟩ ⟨rfl, rfl, rfl, trivial⟩ (fun _ h => h) ?_
  rintro ⟨i, S, P⟩ ⟨hi, hv⟩
  dsimp only at hi hv ⊢
  by_cases hlt : i < l.length
  · obtain ⟨ba, oa, rfl⟩ := RdW.some encA_is hr (ne_nil_of_lt hlt)
    obtain ⟨a, hga⟩ : ∃ a, l[i]? = some a := ⟨_, List.getElem?_eq_getElem hlt⟩
    have ho := hok a (List.mem_of_getElem? hga)
    refine VC_sound tabOk 100 ?_
    refine ⟨fun _ => ?_, fun h => by first | (simp at h; done) | (simp at h; omega) | (simp_all; done)⟩
    refine ⟨⟨by omega, by omega⟩, ?_⟩
    (repeat (first | refine Or.inl ⟨rfl, rfl, ?_⟩ | refine Or.inl ⟨rfl, ?_⟩ | refine Or.inr ?_))
    refine findR_E ?_
    refine Go_ops rfl (OpTo_loadRow tabOk encA_is (mkA a) rfl rfl rfl rfl rfl (fun h => by first | rfl | cases h) (fun w hm _ => hr.mod hm) hga (by simp only [addA]; rfl) ?_)
    refine VC_sound tabOk 100 ?_
    refine Go_ops rfl (OpTo_tcall [] (allR bx I J S P) rfl rfl rfl rfl rfl rfl (by kernel_rfl) (fun w hb hm hio hsp k => do_step bx I J i (by omega) S P hv a ⟨bounds_u8 ho.1, bounds_u8 ho.2.1, bounds_u8 ho.2.2.1⟩ w _ k) ?_)
    rintro _ _ ⟨S', P', hv', rfl, rfl⟩
    refine VC_sound tabOk 100 ?_
    refine ⟨fun h => by first | (simp at h; done) | (simp at h; omega) | (simp_all; done), fun _ => ?_⟩
    refine ⟨_, wrap_i64 (n := (i : Int) + 1) (by omega) (by omega), ?_⟩
    exact Go_fin (i + 1, S', P') ⟨by dsimp only; omega, hv'⟩ (by dsimp only; omega) ⟨rfl, rfl, rfl, trivial⟩ (fun _ h => h)
  have hil : i = l.length := by omega
  have hcl := hv.cu.clen
  have hyl := hv.cu.len
  have htl := hv.tl
  have hlst := hv.lst
  refine Go_res (runB bx I J :: qR I S) (fun _ h => dropR h) ?_
  refine VC_sound tabOk 100 ?_
  refine ⟨fun h => by first | (simp at h; done) | (simp at h; omega) | (simp_all; done), fun _ => ?_⟩
  (repeat (first | refine Or.inl ⟨rfl, rfl, ?_⟩ | refine Or.inl ⟨rfl, ?_⟩ | refine Or.inr ?_))
  refine Go_ops rfl (OpTo_tcall [runB bx I J] (qR I S) rfl rfl rfl rfl rfl rfl (by kernel_rfl) (fun w hb hm hio hsp k => q_trim I S (by omega) (by omega) w _ k) ?_)
  rintro _ _ ⟨ys, hp, hr, rfl, rfl⟩
  obtain rfl := LikeY.uniq hv.cu hp hr
  have hv1 := (hv.trim none 0).2
  obtain ⟨S1, hS1⟩ : ∃ S1, S1 = { S with ts := trimTs S (lowL P.ys) } := ⟨_, rfl⟩
  rw [← hS1] at hv1
  refine Go_res (runB bx I J :: qR I S1) (fun _ h => by rw [hS1]; exact h) ?_
  have hfit := hv1.fit
  have htl1 := hv1.tl
  have hcs1 : S1.cs = S.cs := by rw [hS1]
  refine VC_sound tabOk 100 ?_
  (repeat (first | refine Or.inl ⟨rfl, rfl, ?_⟩ | refine Or.inl ⟨rfl, ?_⟩ | refine Or.inr ?_))
  refine Go_ops rfl (OpTo_pcall (v := pv I.bc) rfl rfl rfl rfl rfl (by kernel_rfl) (fun w hm _ => q_cursors I S1.nx w (hm.blk_at (i := 1) rfl)) ?_)
  refine VC_sound tabOk 100 ?_
  refine Go_ops rfl (OpTo_tcall [runB bx I J] (qR I S1) rfl rfl rfl rfl rfl rfl (by kernel_rfl) (fun w hb hm hio hsp k => qs_cuAll I S1 (by rw [hcs1]; omega) w _ k) ?_)
  rintro _ _ ⟨Ac, cc, ys, rfl, hp2, hr2, rfl⟩
  obtain rfl : ys = P.ys := LikeY.uniq hv1.cu hp2 hr2
  refine Go_res (runB bx I J :: own Cu.encC 3 50 Ac cc P.ys :: qR I S1) (fun _ h => h) ?_
  refine VC_sound tabOk 100 ?_
  refine Go_loop (σ := Nat) (fun k => [(3, .v (pv bx)), (5, .v (.slice Ac P.ys.length cc)), (6, .v (.int .i64 k))]) (fun _ => runB bx I J :: own Cu.encC 3 50 Ac cc P.ys :: qR I S1) (fun k => k ≤ P.ys.length) (fun k => P.ys.length - k) 0 (Nat.zero_le _) ⟨rfl, rfl, rfl, trivial⟩ (fun _ h => h) ?_
  intro k hk
  by_cases hlt2 : k < P.ys.length
  · obtain ⟨y, hgy⟩ : ∃ y, P.ys[k]? = some y := ⟨_, List.getElem?_eq_getElem hlt2⟩
    obtain ⟨hc1, hc2, hc3⟩ := hv1.cn y (List.mem_of_getElem? hgy)
    have hs1 := hv1.tn.isSome hc1
    refine Go_with _ (fun w hm _ => hm.own_some (i := 1) rfl (ne_nil_of_lt hlt2)) ?_
    rintro ⟨bY, oY, rfl⟩
    refine VC_sound tabOk 100 ?_
    refine ⟨fun _ => ?_, fun h => by first | (simp at h; done) | (simp at h; omega) | (simp_all; done)⟩
    refine Go_cut (σ := Nat × Option Addr × Nat) (fun u => [(3, .v (pv bx)), (5, .v (.slice (some ⟨bY, oY, none⟩) P.ys.length cc)), (6, .v (.int .i64 k)), (7, .v (pv u.1)), (8, .v (.bool (S1.ts.find? (Tk.tkIs y.last)).isSome))]) (fun u => .blk u.1 44 (Tk.encT (Tk.reT (Tk.fdT (Tk.tkIs y.last) S1.ts) u.2.1 u.2.2)) :: own (RX.encI .i64) 1 2 u.2.1 u.2.2 (Tk.fdT (Tk.tkIs y.last) S1.ts).op :: runB bx I J :: own Cu.encC 3 50 (some ⟨bY, oY, none⟩) cc P.ys :: qR I S1) (fun _ => True) ?_ ?_
    · refine Go_any mixed [10, 15] [(0, false), (1, false), (2, false), (5, false), (6, false), (3, false), (7, false), (8, false), (9, false), (99, false), (99, false), (99, false), (99, false), (99, false), (99, false), (99, false), (99, false)] rfl (by kernel_rfl) (by kernel_rfl) [runB bx I J] (fun w => RdW w (some ⟨bY, oY, none⟩) (P.ys.flatMap Cu.encC)) (fun w w' hk h => h.old hk) (fun w hm _ => ⟨Holds.of_idx [0] hm, by exact Mod.own_rd (k := 3) (T := 50) (c := cc) (i := 1) hm rfl⟩) ?_
      refine VC_sound tabOk 100 ?_
      (repeat (first | refine Or.inl ⟨rfl, rfl, ?_⟩ | refine Or.inl ⟨rfl, ?_⟩ | refine Or.inr ?_))
      refine ⟨⟨by omega, by omega⟩, ?_⟩
      (repeat (first | refine Or.inl ⟨rfl, rfl, ?_⟩ | refine Or.inl ⟨rfl, ?_⟩ | refine Or.inr ?_))
      refine findR_E ?_
      refine Go_first (v := .int .i64 y.last) rfl rfl rfl rfl (fun w _ hw => rxLoadPart tabOk rfl Cu.encC_is hw hgy (off := 1) rfl (by simp only [addA]; rfl)) ?_
      refine Go_forkL 4 14 [(99, false), (99, false), (99, false), (99, false), (99, false), (99, false), (99, false)] [(4, true), (10, true), (11, false), (12, false), (13, false), (15, true), (16, false)] (by kernel_rfl) rfl rfl (by kernel_rfl) (by kernel_rfl) rfl rfl rfl rfl (fun R w hm _ => ⟨Holds.of_idx [1] hm, by exact Mod.own_rd (k := 3) (T := 50) (c := cc) (i := 2) hm rfl⟩) ?_ ?_ tabOk
      · refine OpTo_pcall (v := pv I.bt) rfl rfl rfl rfl rfl (by kernel_rfl) (fun w hm _ => q_ticks I S1.nx w (hm.blk_at (i := 2) rfl)) ?_
        refine And.intro (fun w hm _ => ⟨Holds.of_idx [0] hm, by exact Mod.own_rd (k := 3) (T := 50) (c := cc) (i := 1) hm rfl⟩) ?_
        refine Go_forkA 10 14 [(11, false), (12, false), (13, false), (14, true), (15, true), (16, false)] [(10, true), (11, false), (12, false), (13, false), (15, true), (16, false)] (by kernel_rfl) rfl rfl (by kernel_rfl) (by kernel_rfl) rfl rfl rfl rfl rfl (fun R w hm _ => ⟨Holds.of_idx [1] hm, by exact Mod.own_rd (k := 3) (T := 50) (c := cc) (i := 2) hm rfl⟩) ?_ ?_ tabOk
        · refine OpTo_ncall rfl rfl rfl rfl rfl (by kernel_rfl) (fun w hm _ => Tk.tick_getU I.bt S1.tA S1.tc S1.ts S1.last y.last w (hm.blk_at (i := 10) rfl) (hm.own_rd (i := 11) rfl) (fun t ht => hm.ro_rd (i := 12) rfl (List.mem_map.2 ⟨t, ht, rfl⟩)) (by omega) hfit.fit) ?_
          rintro _ _ ⟨A, c, rfl, rfl⟩
          refine VC_sound tabOk 100 ?_
          intro b99 _
          (repeat (first | refine Or.inl ⟨rfl, rfl, ?_⟩ | refine Or.inl ⟨rfl, ?_⟩ | refine Or.inr ?_))
          exact Go_put (b99, A, c) trivial ⟨rfl, rfl, rfl, rfl, rfl, trivial⟩ (fun _ h => h)
        · intro b99 _
          refine ⟨⟨_, rfl⟩, ?_⟩
          refine Go_aloneM rfl rfl rfl (OpTo_ncall rfl rfl rfl rfl rfl (by kernel_rfl) (fun w hm _ => Tk.tick_getU I.bt S1.tA S1.tc S1.ts S1.last y.last w (hm.blk_at (i := 11) rfl) (hm.own_rd (i := 12) rfl) (fun t ht => hm.ro_rd (i := 13) rfl (List.mem_map.2 ⟨t, ht, rfl⟩)) (by omega) hfit.fit) ?_)
          rintro _ _ ⟨A, c, rfl, rfl⟩
          refine VC_sound tabOk 100 ?_
          (repeat (first | refine Or.inl ⟨rfl, rfl, ?_⟩ | refine Or.inl ⟨rfl, ?_⟩ | refine Or.inr ?_))
          exact Go_put (b99, A, c) trivial ⟨rfl, rfl, rfl, rfl, rfl, trivial⟩ (fun _ h => h.permRs (List.Perm.swap _ _ _))
      · intro b99 _
        refine ⟨⟨_, rfl⟩, ?_⟩
        refine Go_aloneL rfl rfl (OpTo_pcall (v := pv I.bt) rfl rfl rfl rfl rfl (by kernel_rfl) (fun w hm _ => q_ticks I S1.nx w (hm.blk_at (i := 3) rfl)) ?_)
        refine And.intro (fun w hm _ => ⟨Holds.of_idx [1] hm, by exact Mod.own_rd (k := 3) (T := 50) (c := cc) (i := 2) hm rfl⟩) ?_
        refine VC_sound tabOk 100 ?_
        refine Go_aloneM rfl rfl rfl (OpTo_ncall rfl rfl rfl rfl rfl (by kernel_rfl) (fun w hm _ => Tk.tick_getU I.bt S1.tA S1.tc S1.ts S1.last y.last w (hm.blk_at (i := 11) rfl) (hm.own_rd (i := 12) rfl) (fun t ht => hm.ro_rd (i := 13) rfl (List.mem_map.2 ⟨t, ht, rfl⟩)) (by omega) hfit.fit) ?_)
        rintro _ _ ⟨A, c, rfl, rfl⟩
        refine VC_sound tabOk 100 ?_
        (repeat (first | refine Or.inl ⟨rfl, rfl, ?_⟩ | refine Or.inl ⟨rfl, ?_⟩ | refine Or.inr ?_))
        exact Go_put (b99, A, c) trivial ⟨rfl, rfl, rfl, rfl, rfl, trivial⟩ (fun _ h => h.permRs (List.Perm.swap _ _ _))
    rintro ⟨b7, A7, c7⟩ _
    dsimp only
    rw [hs1]
    refine VC_sound tabOk 100 ?_
    refine Go_res (.blk b7 44 (Tk.encT (Tk.reT (Tk.fdT (Tk.tkIs y.last) S1.ts) A7 c7)) :: own (RX.encI .i64) 1 2 A7 c7 (Tk.fdT (Tk.tkIs y.last) S1.ts).op :: runB bx I J :: own Cu.encC 3 50 (some ⟨bY, oY, none⟩) cc P.ys :: qR I S1) (fun _ h => h) ?_
    refine Go_cut (σ := Nat × Option Addr × Nat) (fun u => [(3, .v (pv bx)), (5, .v (.slice (some ⟨bY, oY, none⟩) P.ys.length cc)), (6, .v (.int .i64 k)), (8, .v (.bool true)), (9, .v (pv u.1)), (10, .v (.bool (S1.ts.find? (Tk.tkIs y.opn)).isSome))]) (fun u => .blk u.1 44 (Tk.encT (Tk.reT (Tk.fdT (Tk.tkIs y.opn) S1.ts) u.2.1 u.2.2)) :: own (RX.encI .i64) 1 2 u.2.1 u.2.2 (Tk.fdT (Tk.tkIs y.opn) S1.ts).op :: .blk b7 44 (Tk.encT (Tk.reT (Tk.fdT (Tk.tkIs y.last) S1.ts) A7 c7)) :: own (RX.encI .i64) 1 2 A7 c7 (Tk.fdT (Tk.tkIs y.last) S1.ts).op :: runB bx I J :: own Cu.encC 3 50 (some ⟨bY, oY, none⟩) cc P.ys :: qR I S1) (fun _ => True) ?_ ?_
    · refine Go_any mixed [10, 15] [(0, false), (1, false), (2, false), (5, false), (6, false), (3, false), (7, false), (8, false), (9, false), (99, false), (99, false), (99, false), (99, false), (99, false), (99, false), (99, false), (99, false)] rfl (by kernel_rfl) (by kernel_rfl) [runB bx I J] (fun w => RdW w (some ⟨bY, oY, none⟩) (P.ys.flatMap Cu.encC)) (fun w w' hk h => h.old hk) (fun w hm _ => ⟨Holds.of_idx [2] hm, by exact Mod.own_rd (k := 3) (T := 50) (c := cc) (i := 3) hm rfl⟩) ?_
      refine VC_sound tabOk 100 ?_
      (repeat (first | refine Or.inl ⟨rfl, rfl, ?_⟩ | refine Or.inl ⟨rfl, ?_⟩ | refine Or.inr ?_))
      refine ⟨⟨by omega, by omega⟩, ?_⟩
      (repeat (first | refine Or.inl ⟨rfl, rfl, ?_⟩ | refine Or.inl ⟨rfl, ?_⟩ | refine Or.inr ?_))
      refine findR_E ?_
      refine Go_first (v := .int .i64 y.opn) rfl rfl rfl rfl (fun w _ hw => rxLoadPart tabOk rfl Cu.encC_is hw hgy (off := 2) rfl (by simp only [addA]; rfl)) ?_
      refine Go_forkL 4 14 [(99, false), (99, false), (99, false), (99, false), (99, false), (99, false), (99, false)] [(4, true), (10, true), (11, false), (12, false), (13, false), (15, true), (16, false)] (by kernel_rfl) rfl rfl (by kernel_rfl) (by kernel_rfl) rfl rfl rfl rfl (fun R w hm _ => ⟨Holds.of_idx [3] hm, by exact Mod.own_rd (k := 3) (T := 50) (c := cc) (i := 4) hm rfl⟩) ?_ ?_ tabOk
      · refine OpTo_pcall (v := pv I.bt) rfl rfl rfl rfl rfl (by kernel_rfl) (fun w hm _ => q_ticks I S1.nx w (hm.blk_at (i := 4) rfl)) ?_
        refine And.intro (fun w hm _ => ⟨Holds.of_idx [2] hm, by exact Mod.own_rd (k := 3) (T := 50) (c := cc) (i := 3) hm rfl⟩) ?_
        refine Go_forkA 10 14 [(11, false), (12, false), (13, false), (14, true), (15, true), (16, false)] [(10, true), (11, false), (12, false), (13, false), (15, true), (16, false)] (by kernel_rfl) rfl rfl (by kernel_rfl) (by kernel_rfl) rfl rfl rfl rfl rfl (fun R w hm _ => ⟨Holds.of_idx [3] hm, by exact Mod.own_rd (k := 3) (T := 50) (c := cc) (i := 4) hm rfl⟩) ?_ ?_ tabOk
        · refine OpTo_ncall rfl rfl rfl rfl rfl (by kernel_rfl) (fun w hm _ => Tk.tick_getU I.bt S1.tA S1.tc S1.ts S1.last y.opn w (hm.blk_at (i := 12) rfl) (hm.own_rd (i := 13) rfl) (fun t ht => hm.ro_rd (i := 14) rfl (List.mem_map.2 ⟨t, ht, rfl⟩)) (by omega) hfit.fit) ?_
          rintro _ _ ⟨A, c, rfl, rfl⟩
          refine VC_sound tabOk 100 ?_
          intro b99 _
          (repeat (first | refine Or.inl ⟨rfl, rfl, ?_⟩ | refine Or.inl ⟨rfl, ?_⟩ | refine Or.inr ?_))
          exact Go_put (b99, A, c) trivial ⟨rfl, rfl, rfl, rfl, rfl, rfl, trivial⟩ (fun _ h => h)
        · intro b99 _
          refine ⟨⟨_, rfl⟩, ?_⟩
          refine Go_aloneM rfl rfl rfl (OpTo_ncall rfl rfl rfl rfl rfl (by kernel_rfl) (fun w hm _ => Tk.tick_getU I.bt S1.tA S1.tc S1.ts S1.last y.opn w (hm.blk_at (i := 13) rfl) (hm.own_rd (i := 14) rfl) (fun t ht => hm.ro_rd (i := 15) rfl (List.mem_map.2 ⟨t, ht, rfl⟩)) (by omega) hfit.fit) ?_)
          rintro _ _ ⟨A, c, rfl, rfl⟩
          refine VC_sound tabOk 100 ?_
          (repeat (first | refine Or.inl ⟨rfl, rfl, ?_⟩ | refine Or.inl ⟨rfl, ?_⟩ | refine Or.inr ?_))
          exact Go_put (b99, A, c) trivial ⟨rfl, rfl, rfl, rfl, rfl, rfl, trivial⟩ (fun _ h => h.permRs (List.Perm.swap _ _ _))
      · intro b99 _
        refine ⟨⟨_, rfl⟩, ?_⟩
        refine Go_aloneL rfl rfl (OpTo_pcall (v := pv I.bt) rfl rfl rfl rfl rfl (by kernel_rfl) (fun w hm _ => q_ticks I S1.nx w (hm.blk_at (i := 5) rfl)) ?_)
        refine And.intro (fun w hm _ => ⟨Holds.of_idx [3] hm, by exact Mod.own_rd (k := 3) (T := 50) (c := cc) (i := 4) hm rfl⟩) ?_
        refine VC_sound tabOk 100 ?_
        refine Go_aloneM rfl rfl rfl (OpTo_ncall rfl rfl rfl rfl rfl (by kernel_rfl) (fun w hm _ => Tk.tick_getU I.bt S1.tA S1.tc S1.ts S1.last y.opn w (hm.blk_at (i := 13) rfl) (hm.own_rd (i := 14) rfl) (fun t ht => hm.ro_rd (i := 15) rfl (List.mem_map.2 ⟨t, ht, rfl⟩)) (by omega) hfit.fit) ?_)
        rintro _ _ ⟨A, c, rfl, rfl⟩
        refine VC_sound tabOk 100 ?_
        (repeat (first | refine Or.inl ⟨rfl, rfl, ?_⟩ | refine Or.inl ⟨rfl, ?_⟩ | refine Or.inr ?_))
        exact Go_put (b99, A, c) trivial ⟨rfl, rfl, rfl, rfl, rfl, rfl, trivial⟩ (fun _ h => h.permRs (List.Perm.swap _ _ _))
    rintro ⟨b9, A9, c9⟩ _
    dsimp only
    by_cases hop : 0 < y.opn
    · have hs2 := hv1.tn.isSome (hc2 hop).2
      rw [hs2]
      refine VC_sound tabOk 100 ?_
      refine ⟨fun h => by first | (simp at h; done) | (simp at h; omega) | (simp_all; done), fun _ => ?_⟩
      refine ⟨⟨by omega, by omega⟩, ?_⟩
      (repeat (first | refine Or.inl ⟨rfl, rfl, ?_⟩ | refine Or.inl ⟨rfl, ?_⟩ | refine Or.inr ?_))
      refine findR_E ?_
      refine Go_ops rfl (OpTo_loadPart tabOk Cu.encC_is (n := k) (j := 2) (.int .i64 y.opn) rfl rfl rfl (fun w hm _ => hm.own_rd (i := 5) rfl) hgy rfl (by simp only [addA]; rfl) ?_)
      refine VC_sound tabOk 100 ?_
      refine ⟨fun hg => ?_, fun hg => ?_⟩
      rotate_left
      · exact absurd hop (of_decide_eq_false hg)
      refine ⟨fun h => by first | (simp at h; done) | (simp at h; omega) | (simp_all; done), fun _ => ?_⟩
      refine ⟨_, wrap_i64 (n := (k : Int) + 1) (by omega) (by omega), ?_⟩
      exact Go_fin (k + 1) (by omega) (by omega) ⟨rfl, rfl, rfl, trivial⟩ (fun _ h => h.drop (a := [_, _, _, _]))
    · refine VC_sound tabOk 100 ?_
      refine ⟨fun h => by first | (simp at h; done) | (simp at h; omega) | (simp_all; done), fun _ => ?_⟩
      refine ⟨⟨by omega, by omega⟩, ?_⟩
      (repeat (first | refine Or.inl ⟨rfl, rfl, ?_⟩ | refine Or.inl ⟨rfl, ?_⟩ | refine Or.inr ?_))
      refine findR_E ?_
      refine Go_ops rfl (OpTo_loadPart tabOk Cu.encC_is (n := k) (j := 2) (.int .i64 y.opn) rfl rfl rfl (fun w hm _ => hm.own_rd (i := 5) rfl) hgy rfl (by simp only [addA]; rfl) ?_)
      refine VC_sound tabOk 100 ?_
      refine ⟨fun hg => ?_, fun hg => ?_⟩
      · exact absurd (of_decide_eq_true hg) hop
      refine ⟨_, wrap_i64 (n := (k : Int) + 1) (by omega) (by omega), ?_⟩
      exact Go_fin (k + 1) (by omega) (by omega) ⟨rfl, rfl, rfl, trivial⟩ (fun _ h => h.drop (a := [_, _, _, _]))
  refine Go_res (runB bx I J :: qR I S1) (fun _ h => h.dropAt 1) ?_
  have hlast := hv1.tn.last_is hv1.lst.2.1
  refine VC_sound tabOk 100 ?_
  refine ⟨fun h => by first | (simp at h; done) | (simp at h; omega) | (simp_all; done), fun _ => ?_⟩
  refine Go_cut (σ := Nat × Option Addr × Nat) (fun u => [(3, .v (pv bx)), (11, .v (pv u.1)), (12, .v (.bool (S1.ts.find? (Tk.tkIs S1.last)).isSome))]) (fun u => .blk u.1 44 (Tk.encT (Tk.reT (Tk.fdT (Tk.tkIs S1.last) S1.ts) u.2.1 u.2.2)) :: own (RX.encI .i64) 1 2 u.2.1 u.2.2 (Tk.fdT (Tk.tkIs S1.last) S1.ts).op :: runB bx I J :: qR I S1) (fun _ => True) ?_ ?_
  · refine Go_any mixed [11, 16] [(0, false), (1, false), (2, false), (5, false), (6, false), (7, false), (3, false), (8, false), (99, false), (99, false), (99, false), (99, false), (99, false), (99, false), (99, false), (99, false), (99, false), (99, false)] rfl (by kernel_rfl) (by kernel_rfl) [runB bx I J] (fun _ => True) (fun _ _ _ h => h) (fun w hm _ => ⟨Holds.of_idx [0] hm, trivial⟩) ?_
    refine VC_sound tabOk 100 ?_
    (repeat (first | refine Or.inl ⟨rfl, rfl, ?_⟩ | refine Or.inl ⟨rfl, ?_⟩ | refine Or.inr ?_))
    refine Go_forkL 4 15 [(99, false), (99, false), (99, false), (99, false), (99, false), (99, false), (99, false), (99, false), (99, false)] [(4, true), (9, true), (10, true), (11, true), (12, false), (13, false), (14, false), (16, true), (17, false)] (by kernel_rfl) rfl rfl (by kernel_rfl) (by kernel_rfl) rfl rfl rfl rfl (fun R w hm _ => ⟨Holds.of_idx [1] hm, trivial⟩) ?_ ?_ tabOk
    · refine OpTo_pcall (v := pv I.bt) rfl rfl rfl rfl rfl (by kernel_rfl) (fun w hm _ => q_ticks I S1.nx w (hm.blk_at (i := 1) rfl)) ?_
      refine And.intro (fun w hm _ => ⟨Holds.of_idx [0] hm, trivial⟩) ?_
      refine Go_forkL 9 15 [(99, false), (99, false), (99, false), (99, false), (99, false), (99, false), (99, false), (99, false)] [(9, true), (10, true), (11, true), (12, false), (13, false), (14, false), (16, true), (17, false)] (by kernel_rfl) rfl rfl (by kernel_rfl) (by kernel_rfl) rfl rfl rfl rfl (fun R w hm _ => ⟨Holds.of_idx [1] hm, trivial⟩) ?_ ?_ tabOk
      · refine OpTo_pcall (v := pv I.bt) rfl rfl rfl rfl rfl (by kernel_rfl) (fun w hm _ => q_ticks I S1.nx w (hm.blk_at (i := 1) rfl)) ?_
        refine And.intro (fun w hm _ => ⟨Holds.of_idx [0] hm, trivial⟩) ?_
        refine Go_forkL 10 15 [(99, false), (99, false), (99, false), (99, false), (99, false), (99, false), (99, false)] [(10, true), (11, true), (12, false), (13, false), (14, false), (16, true), (17, false)] (by kernel_rfl) rfl rfl (by kernel_rfl) (by kernel_rfl) rfl rfl rfl rfl (fun R w hm _ => ⟨Holds.of_idx [1] hm, trivial⟩) ?_ ?_ tabOk
        · refine OpTo_pcall (v := .int .i64 S1.last) rfl rfl rfl rfl rfl (by kernel_rfl) (fun w hm _ => Tk.tick_last I.bt S1.tA S1.ts.length S1.tc S1.last w (hm.blk_at (i := 9) rfl)) ?_
          refine And.intro (fun w hm _ => ⟨Holds.of_idx [0] hm, trivial⟩) ?_
          refine Go_forkA 11 15 [(12, false), (13, false), (14, false), (15, true), (16, true), (17, false)] [(11, true), (12, false), (13, false), (14, false), (16, true), (17, false)] (by kernel_rfl) rfl rfl (by kernel_rfl) (by kernel_rfl) rfl rfl rfl rfl rfl (fun R w hm _ => ⟨Holds.of_idx [1] hm, trivial⟩) ?_ ?_ tabOk
          · refine OpTo_ncall rfl rfl rfl rfl rfl (by kernel_rfl) (fun w hm _ => Tk.tick_getU I.bt S1.tA S1.tc S1.ts S1.last S1.last w (hm.blk_at (i := 9) rfl) (hm.own_rd (i := 10) rfl) (fun t ht => hm.ro_rd (i := 11) rfl (List.mem_map.2 ⟨t, ht, rfl⟩)) (by omega) hfit.fit) ?_
            rintro _ _ ⟨A, c, rfl, rfl⟩
            refine VC_sound tabOk 100 ?_
            intro b99 _
            (repeat (first | refine Or.inl ⟨rfl, rfl, ?_⟩ | refine Or.inl ⟨rfl, ?_⟩ | refine Or.inr ?_))
            exact Go_put (b99, A, c) trivial ⟨rfl, rfl, rfl, trivial⟩ (fun _ h => h)
          · intro b99 _
            refine ⟨⟨_, rfl⟩, ?_⟩
            refine Go_aloneM rfl rfl rfl (OpTo_ncall rfl rfl rfl rfl rfl (by kernel_rfl) (fun w hm _ => Tk.tick_getU I.bt S1.tA S1.tc S1.ts S1.last S1.last w (hm.blk_at (i := 10) rfl) (hm.own_rd (i := 11) rfl) (fun t ht => hm.ro_rd (i := 12) rfl (List.mem_map.2 ⟨t, ht, rfl⟩)) (by omega) hfit.fit) ?_)
            rintro _ _ ⟨A, c, rfl, rfl⟩
            refine VC_sound tabOk 100 ?_
            (repeat (first | refine Or.inl ⟨rfl, rfl, ?_⟩ | refine Or.inl ⟨rfl, ?_⟩ | refine Or.inr ?_))
            exact Go_put (b99, A, c) trivial ⟨rfl, rfl, rfl, trivial⟩ (fun _ h => h.permRs (List.Perm.swap _ _ _))
        · intro b99 _
          refine ⟨⟨_, rfl⟩, ?_⟩
          refine Go_aloneL rfl rfl (OpTo_pcall (v := .int .i64 S1.last) rfl rfl rfl rfl rfl (by kernel_rfl) (fun w hm _ => Tk.tick_last I.bt S1.tA S1.ts.length S1.tc S1.last w (hm.blk_at (i := 10) rfl)) ?_)
          refine And.intro (fun w hm _ => ⟨Holds.of_idx [1] hm, trivial⟩) ?_
          refine VC_sound tabOk 100 ?_
          refine Go_aloneM rfl rfl rfl (OpTo_ncall rfl rfl rfl rfl rfl (by kernel_rfl) (fun w hm _ => Tk.tick_getU I.bt S1.tA S1.tc S1.ts S1.last S1.last w (hm.blk_at (i := 10) rfl) (hm.own_rd (i := 11) rfl) (fun t ht => hm.ro_rd (i := 12) rfl (List.mem_map.2 ⟨t, ht, rfl⟩)) (by omega) hfit.fit) ?_)
          rintro _ _ ⟨A, c, rfl, rfl⟩
          refine VC_sound tabOk 100 ?_
          (repeat (first | refine Or.inl ⟨rfl, rfl, ?_⟩ | refine Or.inl ⟨rfl, ?_⟩ | refine Or.inr ?_))
          exact Go_put (b99, A, c) trivial ⟨rfl, rfl, rfl, trivial⟩ (fun _ h => h.permRs (List.Perm.swap _ _ _))
      · intro b99 _
        refine ⟨⟨_, rfl⟩, ?_⟩
        refine Go_aloneL rfl rfl (OpTo_pcall (v := pv I.bt) rfl rfl rfl rfl rfl (by kernel_rfl) (fun w hm _ => q_ticks I S1.nx w (hm.blk_at (i := 2) rfl)) ?_)
        refine And.intro (fun w hm _ => ⟨Holds.of_idx [1] hm, trivial⟩) ?_
        refine VC_sound tabOk 100 ?_
        refine Go_aloneL rfl rfl (OpTo_pcall (v := .int .i64 S1.last) rfl rfl rfl rfl rfl (by kernel_rfl) (fun w hm _ => Tk.tick_last I.bt S1.tA S1.ts.length S1.tc S1.last w (hm.blk_at (i := 10) rfl)) ?_)
        refine And.intro (fun w hm _ => ⟨Holds.of_idx [1] hm, trivial⟩) ?_
        refine VC_sound tabOk 100 ?_
        refine Go_aloneM rfl rfl rfl (OpTo_ncall rfl rfl rfl rfl rfl (by kernel_rfl) (fun w hm _ => Tk.tick_getU I.bt S1.tA S1.tc S1.ts S1.last S1.last w (hm.blk_at (i := 10) rfl) (hm.own_rd (i := 11) rfl) (fun t ht => hm.ro_rd (i := 12) rfl (List.mem_map.2 ⟨t, ht, rfl⟩)) (by omega) hfit.fit) ?_)
        rintro _ _ ⟨A, c, rfl, rfl⟩
        refine VC_sound tabOk 100 ?_
        (repeat (first | refine Or.inl ⟨rfl, rfl, ?_⟩ | refine Or.inl ⟨rfl, ?_⟩ | refine Or.inr ?_))
        exact Go_put (b99, A, c) trivial ⟨rfl, rfl, rfl, trivial⟩ (fun _ h => h.permRs (List.Perm.swap _ _ _))
    · intro b99 _
      refine ⟨⟨_, rfl⟩, ?_⟩
      refine Go_aloneL rfl rfl (OpTo_pcall (v := pv I.bt) rfl rfl rfl rfl rfl (by kernel_rfl) (fun w hm _ => q_ticks I S1.nx w (hm.blk_at (i := 2) rfl)) ?_)
      refine And.intro (fun w hm _ => ⟨Holds.of_idx [1] hm, trivial⟩) ?_
      refine VC_sound tabOk 100 ?_
      refine Go_aloneL rfl rfl (OpTo_pcall (v := pv I.bt) rfl rfl rfl rfl rfl (by kernel_rfl) (fun w hm _ => q_ticks I S1.nx w (hm.blk_at (i := 2) rfl)) ?_)
      refine And.intro (fun w hm _ => ⟨Holds.of_idx [1] hm, trivial⟩) ?_
      refine VC_sound tabOk 100 ?_
      refine Go_aloneL rfl rfl (OpTo_pcall (v := .int .i64 S1.last) rfl rfl rfl rfl rfl (by kernel_rfl) (fun w hm _ => Tk.tick_last I.bt S1.tA S1.ts.length S1.tc S1.last w (hm.blk_at (i := 10) rfl)) ?_)
      refine And.intro (fun w hm _ => ⟨Holds.of_idx [1] hm, trivial⟩) ?_
      refine VC_sound tabOk 100 ?_
      refine Go_aloneM rfl rfl rfl (OpTo_ncall rfl rfl rfl rfl rfl (by kernel_rfl) (fun w hm _ => Tk.tick_getU I.bt S1.tA S1.tc S1.ts S1.last S1.last w (hm.blk_at (i := 10) rfl) (hm.own_rd (i := 11) rfl) (fun t ht => hm.ro_rd (i := 12) rfl (List.mem_map.2 ⟨t, ht, rfl⟩)) (by omega) hfit.fit) ?_)
      rintro _ _ ⟨A, c, rfl, rfl⟩
      refine VC_sound tabOk 100 ?_
      (repeat (first | refine Or.inl ⟨rfl, rfl, ?_⟩ | refine Or.inl ⟨rfl, ?_⟩ | refine Or.inr ?_))
      exact Go_put (b99, A, c) trivial ⟨rfl, rfl, rfl, trivial⟩ (fun _ h => h.permRs (List.Perm.swap _ _ _))
  rintro ⟨b11, A11, c11⟩ _
  dsimp only
  rw [hlast]
  refine Go_res (runB bx I J :: qR I S1) (fun _ h => h.drop (a := [_, _])) ?_
  refine VC_sound tabOk 100 ?_
  (repeat (first | refine Or.inl ⟨rfl, rfl, ?_⟩ | refine Or.inl ⟨rfl, ?_⟩ | refine Or.inr ?_))
  refine Go_ops rfl (OpTo_pcall (v := pv I.bt) rfl rfl rfl rfl rfl (by kernel_rfl) (fun w hm _ => q_ticks I S1.nx w (hm.blk_at (i := 1) rfl)) ?_)
  refine VC_sound tabOk 100 ?_
  refine Go_ops rfl (OpTo_pcall (v := .int .i64 S1.last) rfl rfl rfl rfl rfl (by kernel_rfl) (fun w hm _ => Tk.tick_last I.bt S1.tA S1.ts.length S1.tc S1.last w (hm.blk_at (i := 9) rfl)) ?_)
  refine VC_sound tabOk 100 ?_
  refine ⟨fun _ => ?_, fun h => by simp at h⟩
  (repeat (first | refine Or.inl ⟨rfl, rfl, ?_⟩ | refine Or.inl ⟨rfl, ?_⟩ | refine Or.inr ?_))
  refine Go_ops rfl (OpTo_tcall [runB bx I J] (qR I S1) rfl rfl rfl rfl rfl rfl (by kernel_rfl) (fun w hb hm hio hsp k => q_trim I S1 (by rw [hcs1]; omega) (by omega) w _ k) ?_)
  rintro _ _ ⟨ys2, hp3, hr3, rfl, rfl⟩
  obtain rfl : ys2 = P.ys := LikeY.uniq hv1.cu hp3 hr3
  have hta : trimTs S1 (lowL P.ys) = S1.ts := by rw [hS1]; exact trim_again S _
  rw [hta]
  refine VC_sound tabOk 100 ?_
  exact congrArg Value.bool (by simp)
end Go.Proofs.YthpcahgdobnljaaGreat
