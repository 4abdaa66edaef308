/- What the functions of package queue do: Next, Batch. -/
import Derived.Test.YthpcahgdobnljaaGreatQb
set_option maxRecDepth 100000
set_option autoImplicit false
set_option linter.unusedVariables false
set_option linter.unusedSimpArgs false
namespace Go.Proofs.YthpcahgdobnljaaGreat
open Go.RX Go Go.RowKit


namespace Tk
abbrev reT (X : TickM) (A : Option Addr) (c : Nat) : TickM := ⟨X.n, X.mx, A, c, X.op, X.t⟩
abbrev fdT (p : TickM → Bool) (ts : List TickM) : TickM := (ts.find? p).getD zeroT
def fdQ (p : TickM → Bool) (ts : List TickM) : Value → List Res → Prop := fun v Rs => ∃ A c, v = .tuple #[mkT (reT (fdT p ts) A c), .bool (ts.find? p).isSome] ∧ Rs = [own (RX.encI .i64) 1 2 A c (fdT p ts).op]
theorem some_fd {p : TickM → Bool} {ts : List TickM} {v : Value} {Rs : List Res} {hfs : List PH} {w : World} (h : someQ p ts v Rs) (hm : Mod hfs Rs w) : ∃ Rs', fdQ p ts v Rs' ∧ Mod hfs Rs' w := by
  rcases h with ⟨h0, rfl, rfl⟩ | ⟨x, A, c, h0, rfl, rfl⟩
  · refine ⟨_, ⟨none, 0, ?_, rfl⟩, ?_⟩
    · simp only [fdT, h0]; rfl
    · simp only [fdT, h0]; exact hm.own_nil none
  · refine ⟨_, ⟨A, c, ?_, rfl⟩, ?_⟩
    · simp only [fdT, h0]; rfl
    · simp only [fdT, h0]; exact hm
theorem tick_getU (bt : Nat) (A : Option Addr) (c : Nat) (ts : List TickM) (last q : Int) (w0 : World) (hb : w0.heap[bt]? = some (.cells #[.slice A ts.length c, .int .i64 last] 131 (0, 0))) (hA : RdW w0 A (ts.flatMap encT)) (hB : ∀ t ∈ ts, RdI w0 t.A t.op) (hn : ts.length ≤ 1000000) (hf : TkFit ts) :
    Calls Tryz.prog 16 #[.pointer (some ⟨bt, 0, none⟩), .int .i64 q] w0 fun e w' => ∃ v Rs', e = .returned v ∧ fdQ (tkIs q) ts v Rs' ∧ Mod [heapOf w0] Rs' w' ∧ Oth w0 w' :=
  (tick_get bt A c ts last q w0 hb hA hB hn hf).mono fun e w' ⟨v, Rs', h1, h2, h3, h4⟩ => by
    obtain ⟨R2, k1, k2⟩ := some_fd h2 h3
    exact ⟨v, R2, h1, k1, k2, h4⟩
theorem tick_afterU (bt : Nat) (A : Option Addr) (c : Nat) (ts : List TickM) (last q : Int) (w0 : World) (hb : w0.heap[bt]? = some (.cells #[.slice A ts.length c, .int .i64 last] 131 (0, 0))) (hA : RdW w0 A (ts.flatMap encT)) (hB : ∀ t ∈ ts, RdI w0 t.A t.op) (hn : ts.length ≤ 1000000) (hf : TkFit ts) :
    Calls Tryz.prog 97 #[.pointer (some ⟨bt, 0, none⟩), .int .i64 q] w0 fun e w' => ∃ v Rs', e = .returned v ∧ fdQ (tkAft q) ts v Rs' ∧ Mod [heapOf w0] Rs' w' ∧ Oth w0 w' :=
  (tick_after bt A c ts last q w0 hb hA hB hn hf).mono fun e w' ⟨v, Rs', h1, h2, h3, h4⟩ => by
    obtain ⟨R2, k1, k2⟩ := some_fd h2 h3
    exact ⟨v, R2, h1, k1, k2, h4⟩
def Fit1 (ts : List TickM) : Prop := ∀ t ∈ ts, (0 ≤ t.mx ∧ t.mx ≤ 9223372036854775807) ∧ t.op.length ≤ 1000
theorem Fit1.fit {ts : List TickM} (h : Fit1 ts) : TkFit ts := fun t ht => ⟨(h t ht).1, by have := (h t ht).2; omega⟩
theorem Fit1.fd {ts : List TickM} (h : Fit1 ts) (p : TickM → Bool) : (fdT p ts).op.length ≤ 1000 := by
  unfold fdT
  cases hh : ts.find? p with
  | none => simp [zeroT]
  | some t => exact (h t (List.mem_of_find?_eq_some hh)).2
end Tk

theorem qs_get (I : QI) (S : QS) (cs1 cs2 : Cu.Cs) (x : Cu.CurV) (q : Nat) (hcs : S.cs = cs1 ++ (x, q) :: cs2) (hr : aget x.name (Cu.alOf S.cs) = some q) (w0 : World) (hfs : List PH) (hm : Mod hfs (qR I S) w0) :
    Calls Tryz.prog 96 #[pv I.bc, .string x.name] w0 fun e w' => ∃ v Rs', e = .returned v ∧ (v = Cu.getV x ∧ Rs' = qR I S) ∧ Mod hfs Rs' w' ∧ Oth w0 w' := by
  obtain ⟨T, cur, tA, tc, ts, last, cs, rA, rc, xs, nx, s⟩ := S
  dsimp only at hcs hr
  subst hcs
  refine part_call (Cu.cuR I.bc I.bm (cs1 ++ (x, q) :: cs2)) ([qBI I nx] ++ (txB I.m I.b1 I.b2 s ++ (Sp.spT I.bs T cur ++ (Tk.tkR I.bt tA tc ts last ++ (Rt.rtR I.br rA rc xs))))) (by classical exact List.perm_iff_count.2 fun a => by simp only [qR, txB, Sp.spT, Sp.spR, Sp.get3, Tk.tkR, Rt.rtR, Cu.cuR, Cu.cuB, Cu.blks_mid, List.length_nil, List.cons_append, List.nil_append, List.append_nil, List.count_cons, List.count_append, List.count_nil]; omega) hm (fun hb hsp h => Cu.cuR_lift (f := 96) x rfl (fun w0 hfs h => Cu.cu_get I.bc I.bm q _ x.name x hr w0 hfs h) w0 _ h) ?_
  rintro v Rs' ⟨rfl, rfl⟩
  exact ⟨_, ⟨rfl, rfl⟩, (by classical exact List.perm_iff_count.2 fun a => by simp only [qR, txB, Sp.spT, Sp.spR, Sp.get3, Tk.tkR, Rt.rtR, Cu.cuR, Cu.cuB, Cu.blks_mid, List.length_nil, List.cons_append, List.nil_append, List.append_nil, List.count_cons, List.count_append, List.count_nil]; omega)⟩
theorem qs_get_none (I : QI) (S : QS) (name : ByteArray) (hr : aget name (Cu.alOf S.cs) = none) (w0 : World) (hfs : List PH) (hm : Mod hfs (qR I S) w0) :
    Calls Tryz.prog 96 #[pv I.bc, .string name] w0 fun e w' => ∃ v Rs', e = .returned v ∧ (v = .tuple #[Cu.mkC ⟨⟨#[]⟩, 0, 0⟩, .bool false] ∧ Rs' = qR I S) ∧ Mod hfs Rs' w' ∧ Oth w0 w' := by
  refine part_call (Cu.cuR I.bc I.bm S.cs) ([qBI I S.nx] ++ (txB I.m I.b1 I.b2 S.s ++ (Sp.spT I.bs S.T S.cur ++ (Tk.tkR I.bt S.tA S.tc S.ts S.last ++ (Rt.rtR I.br S.rA S.rc S.xs))))) (by classical exact List.perm_iff_count.2 fun a => by simp only [qR, txB, Sp.spT, Sp.spR, Sp.get3, Tk.tkR, Rt.rtR, Cu.cuR, Cu.cuB, Cu.blks_mid, List.length_nil, List.cons_append, List.nil_append, List.append_nil, List.count_cons, List.count_append, List.count_nil]; omega) hm (fun hb hsp h => Cu.cuR_none (f := 96) (fun w0 hfs h => Cu.cu_get_none I.bc I.bm _ name hr w0 hfs h) w0 _ h) ?_
  rintro v Rs' ⟨rfl, rfl⟩
  exact ⟨_, ⟨rfl, rfl⟩, (by classical exact List.perm_iff_count.2 fun a => by simp only [qR, txB, Sp.spT, Sp.spR, Sp.get3, Tk.tkR, Rt.rtR, Cu.cuR, Cu.cuB, Cu.blks_mid, List.length_nil, List.cons_append, List.nil_append, List.append_nil, List.count_cons, List.count_append, List.count_nil]; omega)⟩
theorem qs_open (I : QI) (S : QS) (next : Int) (cs1 cs2 : Cu.Cs) (x : Cu.CurV) (q : Nat) (hcs : S.cs = cs1 ++ (x, q) :: cs2) (hr : aget x.name (Cu.alOf S.cs) = some q) (w0 : World) (hfs : List PH) (hm : Mod hfs (qR I S) w0) :
    Calls Tryz.prog 98 #[pv I.bc, .string x.name, .int .i64 next] w0 fun e w' => ∃ v Rs', e = .returned v ∧ (v = .int .i64 (Cu.openE x next) ∧ Rs' = qR I { S with cs := cs1 ++ ((if Cu.openE x next = 0 then ⟨x.name, x.last, next⟩ else x), q) :: cs2 }) ∧ Mod hfs Rs' w' ∧ Oth w0 w' := by
  obtain ⟨T, cur, tA, tc, ts, last, cs, rA, rc, xs, nx, s⟩ := S
  dsimp only at hcs hr
  subst hcs
  refine part_call (Cu.cuR I.bc I.bm (cs1 ++ (x, q) :: cs2)) ([qBI I nx] ++ (txB I.m I.b1 I.b2 s ++ (Sp.spT I.bs T cur ++ (Tk.tkR I.bt tA tc ts last ++ (Rt.rtR I.br rA rc xs))))) (by classical exact List.perm_iff_count.2 fun a => by simp only [qR, txB, Sp.spT, Sp.spR, Sp.get3, Tk.tkR, Rt.rtR, Cu.cuR, Cu.cuB, Cu.blks_mid, List.length_nil, List.cons_append, List.nil_append, List.append_nil, List.count_cons, List.count_append, List.count_nil]; omega) hm (fun hb hsp h => Cu.cuR_lift (f := 98) (if Cu.openE x next = 0 then ⟨x.name, x.last, next⟩ else x) (by split <;> rfl) (fun w0 hfs h => Cu.cu_open I.bc I.bm q _ x.name x next hr w0 hfs h) w0 _ h) ?_
  rintro v Rs' ⟨rfl, rfl⟩
  exact ⟨_, ⟨rfl, rfl⟩, (by classical exact List.perm_iff_count.2 fun a => by simp only [qR, txB, Sp.spT, Sp.spR, Sp.get3, Tk.tkR, Rt.rtR, Cu.cuR, Cu.cuB, Cu.blks_mid, List.length_nil, List.cons_append, List.nil_append, List.append_nil, List.count_cons, List.count_append, List.count_nil]; omega)⟩

/-! ### Next -/
set_option maxHeartbeats 1000000 in
theorem q_next_none (I : QI) (S : QS) (name : ByteArray) (hr : aget name (Cu.alOf S.cs) = none) (w0 : World) (hfs : List PH) (hm : Mod hfs (qR I S) w0) :
    Calls Tryz.prog 34 #[pv I.q, .string name] w0 fun e w' => ∃ v Rs', e = .returned v ∧ (v = .tuple #[Tk.mkT Tk.zeroT, .int .i64 4] ∧ Rs' = qR I S) ∧ Mod hfs Rs' w' ∧ Oth w0 w' := by
  refine enterN (tab := tab) Tryz.func34 rfl Tryz.ntmps34 rfl (args := [_, _]) rfl hm ?_
  refine VC_sound tabOk 100 ?_
  intro b4 _
  refine Go_ops rfl (OpTo_pcall (v := pv I.bc) rfl rfl rfl rfl rfl (by kernel_rfl) (fun w hm _ => q_cursors I S.nx w (hm.blk_at (i := 1) rfl)) ?_)
  refine VC_sound tabOk 100 ?_
  refine Go_ops rfl (OpTo_tcall [.blk b4 44 (Tk.encT Tk.zeroT)] (qR I S) rfl rfl rfl rfl rfl rfl (by kernel_rfl) (fun w hb hm hio hsp k => qs_get_none I S name hr w _ k) ?_)
  rintro _ _ ⟨rfl, rfl⟩
  refine VC_sound tabOk 100 ?_
  intro b6 _
  (repeat (first | refine Or.inl ⟨rfl, rfl, ?_⟩ | refine Or.inl ⟨rfl, ?_⟩ | refine Or.inr ?_))
  refine ⟨fun _ => ?_, fun h => by simp at h⟩
  (repeat (first | refine Or.inl ⟨rfl, rfl, ?_⟩ | refine Or.inl ⟨rfl, ?_⟩ | refine Or.inr ?_))
  exact ⟨_, ⟨rfl, rfl⟩, fun _ _ h => h.drop (a := [_, _])⟩
/-- What Next comes to, of a consumer that there is. -/
def nextQ (I : QI) (S : QS) (cs1 cs2 : Cu.Cs) (x : Cu.CurV) (q : Nat) : Value → List Res → Prop := fun v Rs =>
  (0 < x.opn ∧ v = .tuple #[Tk.mkT Tk.zeroT, .int .i64 7] ∧ Rs = qR I S) ∨
  (¬ 0 < x.opn ∧ S.ts.find? (Tk.tkAft x.last) = none ∧ v = .tuple #[Tk.mkT Tk.zeroT, .int .i64 9] ∧ Rs = qR I S) ∨
  (¬ 0 < x.opn ∧ ∃ t A c, S.ts.find? (Tk.tkAft x.last) = some t ∧ v = .tuple #[Tk.mkT (Tk.reT t A c), .int .i64 0] ∧ Rs = own (RX.encI .i64) 1 2 A c t.op :: qR I { S with cs := cs1 ++ (⟨x.name, x.last, t.n⟩, q) :: cs2 })
set_option maxHeartbeats 2000000 in
theorem q_next (I : QI) (S : QS) (cs1 cs2 : Cu.Cs) (x : Cu.CurV) (q : Nat) (hcs : S.cs = cs1 ++ (x, q) :: cs2) (hr : aget x.name (Cu.alOf S.cs) = some q) (hf : Tk.Fit1 S.ts) (ht : S.ts.length ≤ 1000000) (w0 : World) (hfs : List PH) (hm : Mod hfs (qR I S) w0) :
    Calls Tryz.prog 34 #[pv I.q, .string x.name] w0 fun e w' => ∃ v Rs', e = .returned v ∧ nextQ I S cs1 cs2 x q v Rs' ∧ Mod hfs Rs' w' ∧ Oth w0 w' := by
  refine enterN (tab := tab) Tryz.func34 rfl Tryz.ntmps34 rfl (args := [_, _]) rfl hm ?_
  refine VC_sound tabOk 100 ?_
  intro b4 _
  refine Go_ops rfl (OpTo_pcall (v := pv I.bc) rfl rfl rfl rfl rfl (by kernel_rfl) (fun w hm _ => q_cursors I S.nx w (hm.blk_at (i := 1) rfl)) ?_)
  refine VC_sound tabOk 100 ?_
  refine Go_ops rfl (OpTo_tcall [.blk b4 44 (Tk.encT Tk.zeroT)] (qR I S) rfl rfl rfl rfl rfl rfl (by kernel_rfl) (fun w hb hm hio hsp k => qs_get I S cs1 cs2 x q hcs hr w _ k) ?_)
  rintro _ _ ⟨rfl, rfl⟩
  refine VC_sound tabOk 100 ?_
  intro b6 _
  (repeat (first | refine Or.inl ⟨rfl, rfl, ?_⟩ | refine Or.inl ⟨rfl, ?_⟩ | refine Or.inr ?_))
  refine ⟨fun h => by simp at h, fun _ => ?_⟩
  (repeat (first | refine Or.inl ⟨rfl, rfl, ?_⟩ | refine Or.inl ⟨rfl, ?_⟩ | refine Or.inr ?_))
  refine ⟨fun g => ?_, fun g => ?_⟩
  · (repeat (first | refine Or.inl ⟨rfl, rfl, ?_⟩ | refine Or.inl ⟨rfl, ?_⟩ | refine Or.inr ?_))
    exact ⟨_, .inl ⟨of_decide_eq_true g, rfl, rfl⟩, fun _ _ h => h.drop (a := [_, _])⟩
  have g0 : ¬ 0 < x.opn := of_decide_eq_false g
  refine Go_cut (σ := Option Addr × Nat × Nat) (fun u => [(0, .v (pv I.q)), (1, .v (.string x.name)), (4, .v (pv b4)), (6, .v (pv b6)), (7, .v (.bool (S.ts.find? (Tk.tkAft x.last)).isSome)), (8, .v (pv u.2.2))]) (fun u => .blk u.2.2 44 (Tk.encT (Tk.reT (Tk.fdT (Tk.tkAft x.last) S.ts) u.1 u.2.1)) :: own (RX.encI .i64) 1 2 u.1 u.2.1 (Tk.fdT (Tk.tkAft x.last) S.ts).op :: .blk b6 50 (Cu.encC x) :: .blk b4 44 (Tk.encT Tk.zeroT) :: qR I S) (fun _ => True) ?_ ?_
  · refine Go_any mixed [6, 11] [(0, false), (1, false), (2, false), (4, false), (3, false), (5, false), (99, false), (99, false), (99, false), (99, false), (99, false), (99, false), (99, false)] rfl (by kernel_rfl) (by kernel_rfl) [.blk b6 50 (Cu.encC x), qBI I S.nx] (fun _ => True) (fun _ _ _ h => h) (fun w hm _ => ⟨Holds.of_idx [0, 2] hm, trivial⟩) ?_
    refine VC_sound tabOk 100 ?_
    (repeat (first | refine Or.inl ⟨rfl, rfl, ?_⟩ | refine Or.inl ⟨rfl, ?_⟩ | refine Or.inr ?_))
    refine Go_forkA 6 10 [(7, false), (8, false), (9, false), (10, true), (11, true), (12, false)] [(6, true), (7, false), (8, false), (9, false), (11, true), (12, false)] (by kernel_rfl) rfl rfl (by kernel_rfl) (by kernel_rfl) rfl rfl rfl rfl rfl (fun R w hm _ => ⟨Holds.of_idx [1, 3] hm, trivial⟩) ?_ ?_ tabOk
    · refine OpTo_ncall rfl rfl rfl rfl rfl (by kernel_rfl) (fun w hm _ => Tk.tick_afterU I.bt S.tA S.tc S.ts S.last (x.last) w (hm.blk_at (i := 10) rfl) (hm.own_rd (i := 11) rfl) (fun t ht => hm.ro_rd (i := 12) rfl (List.mem_map.2 ⟨t, ht, rfl⟩)) (by omega) hf.fit) ?_
      rintro _ _ ⟨A, c, rfl, rfl⟩
      refine VC_sound tabOk 100 ?_
      intro b99 _
      (repeat (first | refine Or.inl ⟨rfl, rfl, ?_⟩ | refine Or.inl ⟨rfl, ?_⟩ | refine Or.inr ?_))
      exact Go_put (A, c, b99) trivial ⟨rfl, rfl, rfl, rfl, rfl, rfl, trivial⟩ (fun _ h => h)
    · intro b99 _
      refine ⟨⟨_, rfl⟩, ?_⟩
      refine Go_aloneM rfl rfl rfl (OpTo_ncall rfl rfl rfl rfl rfl (by kernel_rfl) (fun w hm _ => Tk.tick_afterU I.bt S.tA S.tc S.ts S.last (x.last) w (hm.blk_at (i := 11) rfl) (hm.own_rd (i := 12) rfl) (fun t ht => hm.ro_rd (i := 13) rfl (List.mem_map.2 ⟨t, ht, rfl⟩)) (by omega) hf.fit) ?_)
      rintro _ _ ⟨A, c, rfl, rfl⟩
      refine VC_sound tabOk 100 ?_
      (repeat (first | refine Or.inl ⟨rfl, rfl, ?_⟩ | refine Or.inl ⟨rfl, ?_⟩ | refine Or.inr ?_))
      exact Go_put (A, c, b99) trivial ⟨rfl, rfl, rfl, rfl, rfl, rfl, trivial⟩ (fun _ h => h.permRs (List.Perm.swap _ _ _))
  rintro ⟨A, c, b8⟩ _
  dsimp only
  refine VC_sound tabOk 100 ?_
  cases hfd : S.ts.find? (Tk.tkAft x.last) with
  | none =>
    refine ⟨fun _ => ?_, fun h => nomatch h⟩
    (repeat (first | refine Or.inl ⟨rfl, rfl, ?_⟩ | refine Or.inl ⟨rfl, ?_⟩ | refine Or.inr ?_))
    exact ⟨_, .inr (.inl ⟨g0, hfd, rfl, rfl⟩), fun _ _ h => h.drop (a := [_, _, _, _])⟩
  | some t =>
    refine ⟨fun h => (nomatch h), fun _ => ?_⟩
    have hX : Tk.fdT (Tk.tkAft x.last) S.ts = t := by simp only [Tk.fdT, hfd]; rfl
    have hgt : x.last < t.n := by simpa [Tk.tkAft] using List.find?_some hfd
    have h0 : Cu.openE x t.n = 0 := by rw [Cu.openE, if_neg g0, if_neg (by omega)]
    rw [hX]
    show Go _ _ _ _
    refine Go_any mixed [9] [(1, false), (2, false), (3, false), (5, false), (6, false), (0, false), (4, false), (7, false), (8, true), (9, true), (10, false)] rfl (by kernel_rfl) (by kernel_rfl) [.blk b8 44 (Tk.encT (Tk.reT t A c)), qBI I S.nx] (fun _ => True) (fun _ _ _ h => h) (fun w hm _ => ⟨Holds.of_idx [0, 4] hm, trivial⟩) ?_
    refine VC_sound tabOk 100 ?_
    (repeat (first | refine Or.inl ⟨rfl, rfl, ?_⟩ | refine Or.inl ⟨rfl, ?_⟩ | refine Or.inr ?_))
    refine Go_aloneL rfl rfl (OpTo_tcall [.blk b8 44 (Tk.encT (Tk.reT t A c)), own (RX.encI .i64) 1 2 A c t.op, .blk b6 50 (Cu.encC x), .blk b4 44 (Tk.encT Tk.zeroT)] (qR I S) rfl rfl rfl rfl rfl rfl (by kernel_rfl) (fun w hb hm hio hsp k => qs_open I S t.n cs1 cs2 x q hcs hr w _ k) ?_)
    rintro _ _ ⟨rfl, rfl⟩
    refine And.intro (fun w hm _ => ⟨Holds.of_idx [0, 4] hm, trivial⟩) ?_
    refine VC_sound tabOk 100 ?_
    (repeat (first | refine Or.inl ⟨rfl, rfl, ?_⟩ | refine Or.inl ⟨rfl, ?_⟩ | refine Or.inr ?_))
    refine ⟨_, .inr (.inr ⟨g0, t, A, c, hfd, by rw [h0]; rfl, rfl⟩), fun _ w h => ?_⟩
    simp only [h0, if_true] at h
    exact ((h.dropAt 3).dropAt 2).dropAt 0

/-! ### Batch -/
set_option maxHeartbeats 1000000 in
theorem q_batch_none (I : QI) (S : QS) (name : ByteArray) (hr : aget name (Cu.alOf S.cs) = none) (w0 : World) (hfs : List PH) (hm : Mod hfs (qR I S) w0) :
    Calls Tryz.prog 35 #[pv I.q, .string name] w0 fun e w' => ∃ v Rs', e = .returned v ∧ (v = .tuple #[.slice none 0 0, .int .i64 4] ∧ Rs' = qR I S) ∧ Mod hfs Rs' w' ∧ Oth w0 w' := by
  refine enterN (tab := tab) Tryz.func35 rfl Tryz.ntmps35 rfl (args := [_, _]) rfl hm ?_
  refine VC_sound tabOk 100 ?_
  refine Go_ops rfl (OpTo_pcall (v := pv I.bc) rfl rfl rfl rfl rfl (by kernel_rfl) (fun w hm _ => q_cursors I S.nx w (hm.blk_at (i := 0) rfl)) ?_)
  refine VC_sound tabOk 100 ?_
  refine Go_ops rfl (OpTo_tcall [] (qR I S) rfl rfl rfl rfl rfl rfl (by kernel_rfl) (fun w hb hm hio hsp k => qs_get_none I S name hr w _ k) ?_)
  rintro _ _ ⟨rfl, rfl⟩
  refine VC_sound tabOk 100 ?_
  intro b6 _
  (repeat (first | refine Or.inl ⟨rfl, rfl, ?_⟩ | refine Or.inl ⟨rfl, ?_⟩ | refine Or.inr ?_))
  refine ⟨fun _ => ?_, fun h => by simp at h⟩
  (repeat (first | refine Or.inl ⟨rfl, rfl, ?_⟩ | refine Or.inl ⟨rfl, ?_⟩ | refine Or.inr ?_))
  exact ⟨_, ⟨rfl, rfl⟩, fun _ _ h => h.drop (a := [_])⟩
/-- The events of a batch. -/
def BatE (S : QS) (x : Cu.CurV) (ys : List EventM) : Prop := ∃ zs A1 c1 A2 c2, Sp.Srt (Sp.pre3 S.T.1 S.T.2.1 S.T.2.2 3) zs ∧ Bt.Srt (zs.filter (Bt.bofP (stE S.s) ⟨(Tk.fdT (Tk.tkIs x.last) S.ts).mx, A1, c1, (Tk.fdT (Tk.tkIs x.last) S.ts).op⟩ ⟨(Tk.fdT (Tk.tkIs x.opn) S.ts).mx, A2, c2, (Tk.fdT (Tk.tkIs x.opn) S.ts).op⟩ x.name)) ys
def batQ (I : QI) (S : QS) (x : Cu.CurV) : Value → List Res → Prop := fun v Rs =>
  (x.opn = 0 ∧ v = .tuple #[.slice none 0 0, .int .i64 7] ∧ Rs = qR I S) ∨
  (x.opn ≠ 0 ∧ ∃ ys A c, BatE S x ys ∧ v = .tuple #[.slice A ys.length c, .int .i64 0] ∧ Rs = own encE 8 65 A c ys :: qR I S)
theorem sp_rd {hfs : List PH} {I : QI} {S : QS} {w : World} (i : Nat) (hm : Mod hfs (qR I S) w) : RdW w (Sp.pick3 S.T.1 S.T.2.1 S.T.2.2 i).A ((Sp.pick3 S.T.1 S.T.2.1 S.T.2.2 i).xs.flatMap encE) := by
  match i with
  | 0 => exact hm.own_rd (i := 5) rfl
  | 1 => exact hm.own_rd (i := 6) rfl
  | k + 2 => exact hm.own_rd (i := 7) rfl
theorem qs_all (I : QI) (S : QS) (hl : Sp.len3 S.T ≤ 10000) (w0 : World) (hfs : List PH) (hm : Mod hfs (qR I S) w0) :
    Calls Tryz.prog 33 #[pv I.bs] w0 fun e w' => ∃ v Rs', e = .returned v ∧ (∃ zs, Sp.Srt (Sp.pre3 S.T.1 S.T.2.1 S.T.2.2 3) zs ∧ Sp.rowEQ zs v Rs') ∧ Mod [heapOf w0] Rs' w' ∧ Oth w0 w' :=
  Sp.spool_all I.bs S.T.1 S.T.2.1 S.T.2.2 S.cur w0 (hm.blk_at (i := 4) rfl) (fun i => sp_rd i hm) (by rw [Sp.pre3_len]; omega)
set_option maxHeartbeats 4000000 in
theorem q_batch (I : QI) (S : QS) (cs1 cs2 : Cu.Cs) (x : Cu.CurV) (q : Nat) (hcs : S.cs = cs1 ++ (x, q) :: cs2) (hr : aget x.name (Cu.alOf S.cs) = some q) (hf : Tk.Fit1 S.ts) (ht : S.ts.length ≤ 1000000) (hl : Sp.len3 S.T ≤ 10000) (w0 : World) (hfs : List PH) (hm : Mod hfs (qR I S) w0) :
    Calls Tryz.prog 35 #[pv I.q, .string x.name] w0 fun e w' => ∃ v Rs', e = .returned v ∧ batQ I S x v Rs' ∧ Mod hfs Rs' w' ∧ Oth w0 w' := by
  refine enterN (tab := tab) Tryz.func35 rfl Tryz.ntmps35 rfl (args := [_, _]) rfl hm ?_
  refine VC_sound tabOk 100 ?_
  refine Go_ops rfl (OpTo_pcall (v := pv I.bc) rfl rfl rfl rfl rfl (by kernel_rfl) (fun w hm _ => q_cursors I S.nx w (hm.blk_at (i := 0) rfl)) ?_)
  refine VC_sound tabOk 100 ?_
  refine Go_ops rfl (OpTo_tcall [] (qR I S) rfl rfl rfl rfl rfl rfl (by kernel_rfl) (fun w hb hm hio hsp k => qs_get I S cs1 cs2 x q hcs hr w _ k) ?_)
  rintro _ _ ⟨rfl, rfl⟩
  refine VC_sound tabOk 100 ?_
  intro b6 _
  (repeat (first | refine Or.inl ⟨rfl, rfl, ?_⟩ | refine Or.inl ⟨rfl, ?_⟩ | refine Or.inr ?_))
  refine ⟨fun h => by simp at h, fun _ => ?_⟩
  (repeat (first | refine Or.inl ⟨rfl, rfl, ?_⟩ | refine Or.inl ⟨rfl, ?_⟩ | refine Or.inr ?_))
  refine ⟨fun g => ?_, fun g => ?_⟩
  · exact ⟨_, .inl ⟨of_decide_eq_true g, rfl, rfl⟩, fun _ _ h => h.drop (a := [_])⟩
  have g0 : ¬ x.opn = 0 := of_decide_eq_false g
  refine Go_cut (σ := Option Addr × Nat × Nat) (fun u => [(0, .v (pv I.q)), (1, .v (.string x.name)), (6, .v (pv b6)), (8, .v (pv u.2.2))]) (fun u => .blk u.2.2 44 (Tk.encT (Tk.reT (Tk.fdT (Tk.tkIs x.last) S.ts) u.1 u.2.1)) :: own (RX.encI .i64) 1 2 u.1 u.2.1 (Tk.fdT (Tk.tkIs x.last) S.ts).op :: .blk b6 50 (Cu.encC x) :: qR I S) (fun _ => True) ?_ ?_
  · refine Go_any mixed [6, 11] [(0, false), (1, false), (2, false), (4, false), (3, false), (5, false), (99, false), (99, false), (99, false), (99, false), (99, false), (99, false), (99, false)] rfl (by kernel_rfl) (by kernel_rfl) [.blk b6 50 (Cu.encC x), qBI I S.nx] (fun _ => True) (fun _ _ _ h => h) (fun w hm _ => ⟨Holds.of_idx [0, 1] hm, trivial⟩) ?_
    refine VC_sound tabOk 100 ?_
    (repeat (first | refine Or.inl ⟨rfl, rfl, ?_⟩ | refine Or.inl ⟨rfl, ?_⟩ | refine Or.inr ?_))
    refine Go_forkA 6 10 [(7, false), (8, false), (9, false), (10, true), (11, true), (12, false)] [(6, true), (7, false), (8, false), (9, false), (11, true), (12, false)] (by kernel_rfl) rfl rfl (by kernel_rfl) (by kernel_rfl) rfl rfl rfl rfl rfl (fun R w hm _ => ⟨Holds.of_idx [1, 2] hm, trivial⟩) ?_ ?_ tabOk
    · refine OpTo_ncall rfl rfl rfl rfl rfl (by kernel_rfl) (fun w hm _ => Tk.tick_getU I.bt S.tA S.tc S.ts S.last (x.last) w (hm.blk_at (i := 9) rfl) (hm.own_rd (i := 10) rfl) (fun t ht => hm.ro_rd (i := 11) rfl (List.mem_map.2 ⟨t, ht, rfl⟩)) (by omega) hf.fit) ?_
      rintro _ _ ⟨A, c, rfl, rfl⟩
      refine VC_sound tabOk 100 ?_
      intro b99 _
      (repeat (first | refine Or.inl ⟨rfl, rfl, ?_⟩ | refine Or.inl ⟨rfl, ?_⟩ | refine Or.inr ?_))
      exact Go_put (A, c, b99) trivial ⟨rfl, rfl, rfl, rfl, trivial⟩ (fun _ h => h)
    · intro b99 _
      refine ⟨⟨_, rfl⟩, ?_⟩
      refine Go_aloneM rfl rfl rfl (OpTo_ncall rfl rfl rfl rfl rfl (by kernel_rfl) (fun w hm _ => Tk.tick_getU I.bt S.tA S.tc S.ts S.last (x.last) w (hm.blk_at (i := 10) rfl) (hm.own_rd (i := 11) rfl) (fun t ht => hm.ro_rd (i := 12) rfl (List.mem_map.2 ⟨t, ht, rfl⟩)) (by omega) hf.fit) ?_)
      rintro _ _ ⟨A, c, rfl, rfl⟩
      refine VC_sound tabOk 100 ?_
      (repeat (first | refine Or.inl ⟨rfl, rfl, ?_⟩ | refine Or.inl ⟨rfl, ?_⟩ | refine Or.inr ?_))
      exact Go_put (A, c, b99) trivial ⟨rfl, rfl, rfl, rfl, trivial⟩ (fun _ h => h.permRs (List.Perm.swap _ _ _))
  rintro ⟨A1, c1, b8⟩ _
  dsimp only
  refine VC_sound tabOk 100 ?_
  refine Go_cut (σ := Option Addr × Nat × Nat) (fun u => [(0, .v (pv I.q)), (1, .v (.string x.name)), (8, .v (pv b8)), (10, .v (pv u.2.2))]) (fun u => .blk u.2.2 44 (Tk.encT (Tk.reT (Tk.fdT (Tk.tkIs x.opn) S.ts) u.1 u.2.1)) :: own (RX.encI .i64) 1 2 u.1 u.2.1 (Tk.fdT (Tk.tkIs x.opn) S.ts).op :: .blk b8 44 (Tk.encT (Tk.reT (Tk.fdT (Tk.tkIs x.last) S.ts) A1 c1)) :: own (RX.encI .i64) 1 2 A1 c1 (Tk.fdT (Tk.tkIs x.last) S.ts).op :: .blk b6 50 (Cu.encC x) :: qR I S) (fun _ => True) ?_ ?_
  · refine Go_any mixed [6, 11] [(0, false), (1, false), (2, false), (4, false), (3, false), (5, false), (99, false), (99, false), (99, false), (99, false), (99, false), (99, false), (99, false)] rfl (by kernel_rfl) (by kernel_rfl) [.blk b6 50 (Cu.encC x), qBI I S.nx] (fun _ => True) (fun _ _ _ h => h) (fun w hm _ => ⟨Holds.of_idx [2, 3] hm, trivial⟩) ?_
    refine VC_sound tabOk 100 ?_
    (repeat (first | refine Or.inl ⟨rfl, rfl, ?_⟩ | refine Or.inl ⟨rfl, ?_⟩ | refine Or.inr ?_))
    refine Go_forkA 6 10 [(7, false), (8, false), (9, false), (10, true), (11, true), (12, false)] [(6, true), (7, false), (8, false), (9, false), (11, true), (12, false)] (by kernel_rfl) rfl rfl (by kernel_rfl) (by kernel_rfl) rfl rfl rfl rfl rfl (fun R w hm _ => ⟨Holds.of_idx [3, 4] hm, trivial⟩) ?_ ?_ tabOk
    · refine OpTo_ncall rfl rfl rfl rfl rfl (by kernel_rfl) (fun w hm _ => Tk.tick_getU I.bt S.tA S.tc S.ts S.last (x.opn) w (hm.blk_at (i := 11) rfl) (hm.own_rd (i := 12) rfl) (fun t ht => hm.ro_rd (i := 13) rfl (List.mem_map.2 ⟨t, ht, rfl⟩)) (by omega) hf.fit) ?_
      rintro _ _ ⟨A, c, rfl, rfl⟩
      refine VC_sound tabOk 100 ?_
      intro b99 _
      (repeat (first | refine Or.inl ⟨rfl, rfl, ?_⟩ | refine Or.inl ⟨rfl, ?_⟩ | refine Or.inr ?_))
      exact Go_put (A, c, b99) trivial ⟨rfl, rfl, rfl, rfl, trivial⟩ (fun _ h => h)
    · intro b99 _
      refine ⟨⟨_, rfl⟩, ?_⟩
      refine Go_aloneM rfl rfl rfl (OpTo_ncall rfl rfl rfl rfl rfl (by kernel_rfl) (fun w hm _ => Tk.tick_getU I.bt S.tA S.tc S.ts S.last (x.opn) w (hm.blk_at (i := 12) rfl) (hm.own_rd (i := 13) rfl) (fun t ht => hm.ro_rd (i := 14) rfl (List.mem_map.2 ⟨t, ht, rfl⟩)) (by omega) hf.fit) ?_)
      rintro _ _ ⟨A, c, rfl, rfl⟩
      refine VC_sound tabOk 100 ?_
      (repeat (first | refine Or.inl ⟨rfl, rfl, ?_⟩ | refine Or.inl ⟨rfl, ?_⟩ | refine Or.inr ?_))
      exact Go_put (A, c, b99) trivial ⟨rfl, rfl, rfl, rfl, trivial⟩ (fun _ h => h.permRs (List.Perm.swap _ _ _))
  rintro ⟨A2, c2, b10⟩ _
  dsimp only
  refine VC_sound tabOk 100 ?_
  show Go _ _ _ _
  refine Go_any mixed [] [(0, false), (1, false), (2, false), (5, false), (6, false), (7, false), (9, false), (11, false), (13, false), (3, false), (8, false), (10, false), (12, false), (4, true), (14, true), (15, false), (16, false)] rfl (by kernel_rfl) (by kernel_rfl) [.blk b10 44 (Tk.encT (Tk.reT (Tk.fdT (Tk.tkIs x.opn) S.ts) A2 c2)), .blk b8 44 (Tk.encT (Tk.reT (Tk.fdT (Tk.tkIs x.last) S.ts) A1 c1)), qBI I S.nx] (fun _ => True) (fun _ _ _ h => h) (fun w hm _ => ⟨Holds.of_idx [0, 2, 5] hm, trivial⟩) ?_
  refine VC_sound tabOk 100 ?_
  (repeat (first | refine Or.inl ⟨rfl, rfl, ?_⟩ | refine Or.inl ⟨rfl, ?_⟩ | refine Or.inr ?_))
  refine Go_aloneL rfl rfl (OpTo_ncall rfl rfl rfl rfl rfl (by kernel_rfl) (fun w hm _ => qs_all I S hl w _ (Mod.drop (a := [_, _, _, _, _]) hm)) ?_)
  rintro _ _ ⟨zs, hz, A3, c3, rfl, rfl⟩
  refine And.intro (fun w hm _ => ⟨Holds.of_idx [1, 3, 6] hm, trivial⟩) ?_
  refine VC_sound tabOk 100 ?_
  (repeat (first | refine Or.inl ⟨rfl, rfl, ?_⟩ | refine Or.inl ⟨rfl, ?_⟩ | refine Or.inr ?_))
  have hzl : zs.length ≤ 10000 := by rw [hz.2.2, Sp.pre3_len]; omega
  have ho1 := hf.fd (Tk.tkIs x.last)
  have ho2 := hf.fd (Tk.tkIs x.opn)
  refine Go_aloneL rfl rfl (OpTo_ncall rfl rfl rfl rfl rfl (by kernel_rfl) (fun w hm _ => Bt.batch_of A3 c3 zs (.pointer (some ⟨I.m, 0, none⟩)) (stE S.s) ⟨(Tk.fdT (Tk.tkIs x.last) S.ts).mx, A1, c1, (Tk.fdT (Tk.tkIs x.last) S.ts).op⟩ ⟨(Tk.fdT (Tk.tkIs x.opn) S.ts).mx, A2, c2, (Tk.fdT (Tk.tkIs x.opn) S.ts).op⟩ x.name w (hm.own_rd (i := 0) rfl) hzl (Bt.StOk.some (s := S.s) (hm.blk_at (i := 7) rfl) (MpAt.of_mod (i := 8) hm rfl) (MpAt.of_mod (i := 9) hm rfl)) ⟨hm.own_rd (i := 4) rfl, by dsimp only; omega⟩ ⟨hm.own_rd (i := 2) rfl, by dsimp only; omega⟩) ?_)
  rintro _ _ ⟨ys, hy, A4, c4, rfl, rfl⟩
  refine And.intro (fun w hm _ => ⟨Holds.of_idx [2, 4, 7] hm, trivial⟩) ?_
  refine VC_sound tabOk 100 ?_
  exact ⟨_, .inr ⟨g0, ys, A4, c4, ⟨zs, A1, c1, A2, c2, hz, hy⟩, rfl, rfl⟩, fun _ _ h => ((((((h.dropAt 1).dropAt 1).dropAt 1).dropAt 1).dropAt 1).dropAt 1)⟩
end Go.Proofs.YthpcahgdobnljaaGreat
