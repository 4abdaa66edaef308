/- What the functions of package queue do: Write, Forget, Register, Unregister, Finish, Tick. -/
import Derived.Test.YthpcahgdobnljaaGreatQa
set_option maxRecDepth 100000
set_option autoImplicit false
set_option linter.unusedVariables false
set_option linter.unusedSimpArgs false
namespace Go.Proofs.YthpcahgdobnljaaGreat
open Go.RX Go Go.RowKit


abbrev evW (S : QS) (x table kind key : Int) (text : ByteArray) : EventM := ⟨S.nx, x, ⟨#[]⟩, 0, table, kind, key, text⟩
abbrev QS.put (S : QS) (A : Option Addr) (c : Nat) (e : EventM) : QS := { S with T := Sp.set3 S.T S.cur ⟨A, c, (Sp.get3 S.T S.cur).xs ++ [e]⟩ }
set_option maxHeartbeats 1000000 in
theorem q_write (I : QI) (S : QS) (x table kind key : Int) (text : ByteArray) (hc : S.cur < 3) (hl : Sp.len3 S.T ≤ 100000) (hnx : 0 ≤ S.nx ∧ S.nx ≤ 1000000) (w0 : World) (hfs : List PH) (hm : Mod hfs (qR I S) w0) :
    Calls Tryz.prog 26 #[pv I.q, .int .i64 x, .int .i64 table, .int .u8 kind, .agg #[.int .i64 key, .string text]] w0 fun e w' => ∃ v Rs', e = .returned v ∧ (v = mkE (evW S x table kind key text) ∧ ∃ A c, Rs' = qR I { S.put A c (evW S x table kind key text) with nx := S.nx + 1 }) ∧ Mod hfs Rs' w' ∧ Oth w0 w' := by
  refine enterN (tab := tab) Tryz.func26 rfl Tryz.ntmps26 rfl (args := [_, _, _, _, _]) rfl hm ?_
  refine VC_sound tabOk 100 ?_
  intro b9 _ b10 _
  refine Go_res (.blk b10 65 (encE zeroE) :: .blk b9 63 [.int .i64 key, .string text] :: qR I S) (fun _ h => h) ?_
  show Go _ _ _ _
  refine Go_any mixed [10] [(0, false), (1, false), (2, false), (4, false), (5, false), (6, false), (3, false), (7, false), (8, false), (9, true), (10, true)] rfl (by kernel_rfl) (by kernel_rfl) [.blk b9 63 [.int .i64 key, .string text], qBI I S.nx] (fun _ => True) (fun _ _ _ h => h) (fun w hm _ => ⟨Holds.of_idx [1, 2] hm, trivial⟩) ?_
  refine VC_sound tabOk 100 ?_
  (repeat (first | refine Or.inl ⟨rfl, rfl, ?_⟩ | refine Or.inl ⟨rfl, ?_⟩ | refine Or.inr ?_))
  intro b11 _
  (repeat (first | refine Or.inl ⟨rfl, rfl, ?_⟩ | refine Or.inl ⟨rfl, ?_⟩ | refine Or.inr ?_))
  refine ⟨_, wrap_i64 (n := S.nx + 1) (by omega) (by omega), ?_⟩
  (repeat (first | refine Or.inl ⟨rfl, rfl, ?_⟩ | refine Or.inl ⟨rfl, ?_⟩ | refine Or.inr ?_))
  refine Go_res (.blk b11 65 (encE (evW S x table kind key text)) :: .blk b10 65 (encE zeroE) :: .blk b9 63 [.int .i64 key, .string text] :: qR I { S with nx := S.nx + 1 }) (fun _ h => h) ?_
  show Go _ _ _ _
  refine Go_any mixed [5] [(0, false), (1, false), (2, false), (3, false), (4, false), (5, true)] rfl (by kernel_rfl) (by kernel_rfl) [.blk b11 65 (encE (evW S x table kind key text)), qBI I (S.nx + 1)] (fun _ => True) (fun _ _ _ h => h) (fun w hm _ => ⟨Holds.of_idx [0, 3] hm, trivial⟩) ?_
  refine VC_sound tabOk 100 ?_
  (repeat (first | refine Or.inl ⟨rfl, rfl, ?_⟩ | refine Or.inl ⟨rfl, ?_⟩ | refine Or.inr ?_))
  refine Go_aloneM rfl rfl rfl (OpTo_tcall [.blk b11 65 (encE (evW S x table kind key text)), .blk b10 65 (encE zeroE), .blk b9 63 [.int .i64 key, .string text]] (qR I { S with nx := S.nx + 1 }) rfl rfl rfl rfl rfl rfl (by kernel_rfl) (fun w hb hm hio hsp k => qs_add I { S with nx := S.nx + 1 } (evW S x table kind key text) hc hl w _ k) ?_)
  rintro _ _ ⟨rfl, A, c, rfl⟩
  refine VC_sound tabOk 100 ?_
  (repeat (first | refine Or.inl ⟨rfl, rfl, ?_⟩ | refine Or.inl ⟨rfl, ?_⟩ | refine Or.inr ?_))
  exact ⟨_, ⟨rfl, A, c, rfl⟩, fun _ _ h => h.drop (a := [_, _, _])⟩

theorem q_forget (I : QI) (S : QS) (x : Int) (hl : Sp.len3 S.T ≤ 10000) (w0 : World) (hfs : List PH) (hm : Mod hfs (qR I S) w0) :
    Calls Tryz.prog 29 #[pv I.q, .int .i64 x] w0 fun e w' => ∃ v Rs', e = .returned v ∧ (v = .int .i64 ((S.T.1.xs.length + S.T.2.1.xs.length + S.T.2.2.xs.length : Nat) - ((Sp.tf x S.T.1).xs.length + (Sp.tf x S.T.2.1).xs.length + (Sp.tf x S.T.2.2).xs.length : Nat) : Int) ∧ Rs' = qR I { S with T := (Sp.tf x S.T.1, Sp.tf x S.T.2.1, Sp.tf x S.T.2.2) }) ∧ Mod hfs Rs' w' ∧ Oth w0 w' := by
  refine enterN (tab := tab) Tryz.func29 rfl Tryz.ntmps29 rfl (args := [_, _]) rfl hm ?_
  refine VC_sound tabOk 100 ?_
  refine Go_ops rfl (OpTo_pcall (v := pv I.bs) rfl rfl rfl rfl rfl (by kernel_rfl) (fun w hm _ => q_spools I S.nx w (hm.blk_at (i := 0) rfl)) ?_)
  refine VC_sound tabOk 100 ?_
  refine Go_ops rfl (OpTo_tcall [] (qR I S) rfl rfl rfl rfl rfl rfl (by kernel_rfl) (fun w hb hm hio hsp k => qs_forget I S x hl w _ k) ?_)
  rintro _ _ ⟨rfl, rfl⟩
  refine VC_sound tabOk 100 ?_
  exact ⟨_, ⟨rfl, rfl⟩, fun _ _ h => h⟩

abbrev QS.reg (S : QS) (name : ByteArray) (q : Nat) : QS := { S with cs := if S.last = 0 then S.cs else Cu.regSt name S.last q S.cs }
def regQ (S : QS) (name : ByteArray) : Int := if S.last = 0 then 9 else Cu.regE name S.last (Cu.alOf S.cs)
set_option maxHeartbeats 1000000 in
theorem q_register (I : QI) (S : QS) (name : ByteArray) (w0 : World) (hfs : List PH) (hm : Mod hfs (qR I S) w0) :
    Calls Tryz.prog 22 #[pv I.q, .string name] w0 fun e w' => ∃ v Rs', e = .returned v ∧ (v = .int .i64 (regQ S name) ∧ ∃ q, Rs' = qR I (S.reg name q)) ∧ Mod hfs Rs' w' ∧ Oth w0 w' := by
  refine enterN (tab := tab) Tryz.func22 rfl Tryz.ntmps22 rfl (args := [_, _]) rfl hm ?_
  refine VC_sound tabOk 100 ?_
  (repeat (first | refine Or.inl ⟨rfl, rfl, ?_⟩ | refine Or.inl ⟨rfl, ?_⟩ | refine Or.inr ?_))
  refine Go_ops rfl (OpTo_pcall (v := .int .i64 S.last) rfl rfl rfl rfl rfl (by kernel_rfl) (fun w hm _ => Tk.tick_last I.bt S.tA S.ts.length S.tc S.last w (hm.blk_at (i := 8) rfl)) ?_)
  refine VC_sound tabOk 100 ?_
  refine ⟨fun g => ?_, fun g => ?_⟩
  · have h0 : S.last = 0 := of_decide_eq_true g
    refine ⟨_, ⟨by rw [regQ, if_pos h0]; rfl, 0, ?_⟩, fun _ _ h => h⟩
    simp only [QS.reg, if_pos h0]
  have h0 : ¬ S.last = 0 := of_decide_eq_false g
  show Go _ _ _ _
  refine Go_any mixed [] [(0, false), (1, false), (2, false), (4, false), (5, false), (6, false), (7, false), (3, false), (8, false), (9, true), (10, true), (11, false)] rfl (by kernel_rfl) (by kernel_rfl) [qBI I S.nx] (fun _ => True) (fun _ _ _ h => h) (fun w hm _ => ⟨Holds.of_idx [0] hm, trivial⟩) ?_
  refine VC_sound tabOk 100 ?_
  (repeat (first | refine Or.inl ⟨rfl, rfl, ?_⟩ | refine Or.inl ⟨rfl, ?_⟩ | refine Or.inr ?_))
  refine Go_aloneL rfl rfl (OpTo_pcall (v := .int .i64 S.last) rfl rfl rfl rfl rfl (by kernel_rfl) (fun w hm _ => Tk.tick_last I.bt S.tA S.ts.length S.tc S.last w (hm.blk_at (i := 8) rfl)) ?_)
  refine And.intro (fun w hm _ => ⟨Holds.of_idx [0] hm, trivial⟩) ?_
  refine VC_sound tabOk 100 ?_
  refine Go_aloneL rfl rfl (OpTo_tcall [] (qR I S) rfl rfl rfl rfl rfl rfl (by kernel_rfl) (fun w hb hm hio hsp k => qs_register I S name S.last w _ k) ?_)
  rintro _ _ ⟨rfl, q, rfl⟩
  refine And.intro (fun w hm _ => ⟨Holds.of_idx [0] hm, trivial⟩) ?_
  refine VC_sound tabOk 100 ?_
  refine ⟨_, ⟨by rw [regQ, if_neg h0]; rfl, q, ?_⟩, fun _ _ h => h⟩
  simp only [QS.reg, if_neg h0]
  rfl

abbrev QS.unr (S : QS) (name : ByteArray) : QS := { S with cs := Cu.delSt name S.cs, xs := if (aget name (Cu.alOf S.cs)).isSome then Rt.leftL name S.xs else S.xs }
set_option maxHeartbeats 1000000 in
theorem q_unregister (I : QI) (S : QS) (name : ByteArray) (hl : S.xs.length ≤ 1000) (w0 : World) (hfs : List PH) (hm : Mod hfs (qR I S) w0) :
    Calls Tryz.prog 40 #[pv I.q, .string name] w0 fun e w' => ∃ v Rs', e = .returned v ∧ (v = .int .i64 (if (aget name (Cu.alOf S.cs)).isSome then 0 else 4) ∧ Rs' = qR I (S.unr name)) ∧ Mod hfs Rs' w' ∧ Oth w0 w' := by
  refine enterN (tab := tab) Tryz.func40 rfl Tryz.ntmps40 rfl (args := [_, _]) rfl hm ?_
  refine VC_sound tabOk 100 ?_
  refine Go_ops rfl (OpTo_pcall (v := pv I.bc) rfl rfl rfl rfl rfl (by kernel_rfl) (fun w hm _ => q_cursors I S.nx w (hm.blk_at (i := 0) rfl)) ?_)
  refine VC_sound tabOk 100 ?_
  refine Go_ops rfl (OpTo_tcall [] (qR I S) rfl rfl rfl rfl rfl rfl (by kernel_rfl) (fun w hb hm hio hsp k => qs_unregister I S name w _ k) ?_)
  rintro _ _ ⟨rfl, rfl⟩
  cases hs : (aget name (Cu.alOf S.cs)).isSome with
  | true =>
    simp only [if_true]
    refine VC_sound tabOk 100 ?_
    refine ⟨fun _ => ?_, fun h => by simp at h⟩
    (repeat (first | refine Or.inl ⟨rfl, rfl, ?_⟩ | refine Or.inl ⟨rfl, ?_⟩ | refine Or.inr ?_))
    refine Go_ops rfl (OpTo_tcall [] (qR I { S with cs := Cu.delSt name S.cs }) rfl rfl rfl rfl rfl rfl (by kernel_rfl) (fun w hb hm hio hsp k => qs_drop I { S with cs := Cu.delSt name S.cs } name hl w _ k) ?_)
    rintro _ _ ⟨rfl, rfl⟩
    refine VC_sound tabOk 100 ?_
    exact ⟨_, ⟨rfl, by simp only [QS.unr, hs, if_true, List.nil_append]⟩, fun _ _ h => h⟩
  | false =>
    simp only [Bool.false_eq_true, if_false]
    refine VC_sound tabOk 100 ?_
    refine ⟨fun h => by first | (simp at h; done) | (simp at h; omega) | (simp_all; done), fun _ => ?_⟩
    exact ⟨_, ⟨rfl, by simp only [QS.unr, hs, Bool.false_eq_true, if_false, List.nil_append]⟩, fun _ _ h => h⟩

theorem qs_finish (I : QI) (S : QS) (cs1 cs2 : Cu.Cs) (x : Cu.CurV) (q : Nat) (hcs : S.cs = cs1 ++ (x, q) :: cs2) (hr : aget x.name (Cu.alOf S.cs) = some q) (w0 : World) (hfs : List PH) (hm : Mod hfs (qR I S) w0) :
    Calls Tryz.prog 100 #[pv I.bc, .string x.name] w0 fun e w' => ∃ v Rs', e = .returned v ∧ (v = (if x.opn = 0 then .tuple #[.int .i64 0, .int .i64 7] else .tuple #[.int .i64 x.opn, .int .i64 0]) ∧ Rs' = qR I { S with cs := cs1 ++ ((if x.opn = 0 then x else ⟨x.name, x.opn, 0⟩), q) :: cs2 }) ∧ Mod hfs Rs' w' ∧ Oth w0 w' := by
  obtain ⟨T, cur, tA, tc, ts, last, cs, rA, rc, xs, nx, s⟩ := S
  dsimp only at hcs hr
  subst hcs
  refine part_call (Cu.cuR I.bc I.bm (cs1 ++ (x, q) :: cs2)) ([qBI I nx] ++ (txB I.m I.b1 I.b2 s ++ (Sp.spT I.bs T cur ++ (Tk.tkR I.bt tA tc ts last ++ (Rt.rtR I.br rA rc xs))))) (by classical exact List.perm_iff_count.2 fun a => by simp only [qR, txB, Sp.spT, Sp.spR, Sp.get3, Tk.tkR, Rt.rtR, Cu.cuR, Cu.cuB, Cu.blks_mid, List.length_nil, List.cons_append, List.nil_append, List.append_nil, List.count_cons, List.count_append, List.count_nil]; omega) hm (fun hb hsp h => Cu.cuR_lift (f := 100) (if x.opn = 0 then x else ⟨x.name, x.opn, 0⟩) (by split <;> rfl) (fun w0 hfs h => Cu.cu_finish I.bc I.bm q _ x.name x hr w0 hfs h) w0 _ h) ?_
  rintro v Rs' ⟨rfl, rfl⟩
  exact ⟨_, ⟨rfl, rfl⟩, (by classical exact List.perm_iff_count.2 fun a => by simp only [qR, txB, Sp.spT, Sp.spR, Sp.get3, Tk.tkR, Rt.rtR, Cu.cuR, Cu.cuB, Cu.blks_mid, List.length_nil, List.cons_append, List.nil_append, List.append_nil, List.count_cons, List.count_append, List.count_nil]; omega)⟩
theorem qs_finish_none (I : QI) (S : QS) (name : ByteArray) (hr : aget name (Cu.alOf S.cs) = none) (w0 : World) (hfs : List PH) (hm : Mod hfs (qR I S) w0) :
    Calls Tryz.prog 100 #[pv I.bc, .string name] w0 fun e w' => ∃ v Rs', e = .returned v ∧ (v = .tuple #[.int .i64 0, .int .i64 4] ∧ Rs' = qR I S) ∧ Mod hfs Rs' w' ∧ Oth w0 w' := by
  refine part_call (Cu.cuR I.bc I.bm S.cs) ([qBI I S.nx] ++ (txB I.m I.b1 I.b2 S.s ++ (Sp.spT I.bs S.T S.cur ++ (Tk.tkR I.bt S.tA S.tc S.ts S.last ++ (Rt.rtR I.br S.rA S.rc S.xs))))) (by classical exact List.perm_iff_count.2 fun a => by simp only [qR, txB, Sp.spT, Sp.spR, Sp.get3, Tk.tkR, Rt.rtR, Cu.cuR, Cu.cuB, Cu.blks_mid, List.length_nil, List.cons_append, List.nil_append, List.append_nil, List.count_cons, List.count_append, List.count_nil]; omega) hm (fun hb hsp h => Cu.cuR_none (f := 100) (fun w0 hfs h => Cu.cu_finish_none I.bc I.bm _ name hr w0 hfs h) w0 _ h) ?_
  rintro v Rs' ⟨rfl, rfl⟩
  exact ⟨_, ⟨rfl, rfl⟩, (by classical exact List.perm_iff_count.2 fun a => by simp only [qR, txB, Sp.spT, Sp.spR, Sp.get3, Tk.tkR, Rt.rtR, Cu.cuR, Cu.cuB, Cu.blks_mid, List.length_nil, List.cons_append, List.nil_append, List.append_nil, List.count_cons, List.count_append, List.count_nil]; omega)⟩
theorem q_finish (I : QI) (S : QS) (cs1 cs2 : Cu.Cs) (x : Cu.CurV) (q : Nat) (hcs : S.cs = cs1 ++ (x, q) :: cs2) (hr : aget x.name (Cu.alOf S.cs) = some q) (w0 : World) (hfs : List PH) (hm : Mod hfs (qR I S) w0) :
    Calls Tryz.prog 36 #[pv I.q, .string x.name] w0 fun e w' => ∃ v Rs', e = .returned v ∧ (v = (if x.opn = 0 then .tuple #[.int .i64 0, .int .i64 7] else .tuple #[.int .i64 x.opn, .int .i64 0]) ∧ Rs' = qR I { S with cs := cs1 ++ ((if x.opn = 0 then x else ⟨x.name, x.opn, 0⟩), q) :: cs2 }) ∧ Mod hfs Rs' w' ∧ Oth w0 w' := by
  refine enterN (tab := tab) Tryz.func36 rfl Tryz.ntmps36 rfl (args := [_, _]) rfl hm ?_
  refine VC_sound tabOk 100 ?_
  refine Go_ops rfl (OpTo_pcall (v := pv I.bc) rfl rfl rfl rfl rfl (by kernel_rfl) (fun w hm _ => q_cursors I S.nx w (hm.blk_at (i := 0) rfl)) ?_)
  refine VC_sound tabOk 100 ?_
  refine Go_ops rfl (OpTo_tcall [] (qR I S) rfl rfl rfl rfl rfl rfl (by kernel_rfl) (fun w hb hm hio hsp k => qs_finish I S cs1 cs2 x q hcs hr w _ k) ?_)
  rintro _ _ ⟨rfl, rfl⟩
  by_cases h0 : x.opn = 0
  · simp only [if_pos h0]
    refine VC_sound tabOk 100 ?_
    exact ⟨_, ⟨rfl, rfl⟩, fun _ _ h => h⟩
  · simp only [if_neg h0]
    refine VC_sound tabOk 100 ?_
    exact ⟨_, ⟨rfl, rfl⟩, fun _ _ h => h⟩
theorem q_finish_none (I : QI) (S : QS) (name : ByteArray) (hr : aget name (Cu.alOf S.cs) = none) (w0 : World) (hfs : List PH) (hm : Mod hfs (qR I S) w0) :
    Calls Tryz.prog 36 #[pv I.q, .string name] w0 fun e w' => ∃ v Rs', e = .returned v ∧ (v = .tuple #[.int .i64 0, .int .i64 4] ∧ Rs' = qR I S) ∧ Mod hfs Rs' w' ∧ Oth w0 w' := by
  refine enterN (tab := tab) Tryz.func36 rfl Tryz.ntmps36 rfl (args := [_, _]) rfl hm ?_
  refine VC_sound tabOk 100 ?_
  refine Go_ops rfl (OpTo_pcall (v := pv I.bc) rfl rfl rfl rfl rfl (by kernel_rfl) (fun w hm _ => q_cursors I S.nx w (hm.blk_at (i := 0) rfl)) ?_)
  refine VC_sound tabOk 100 ?_
  refine Go_ops rfl (OpTo_tcall [] (qR I S) rfl rfl rfl rfl rfl rfl (by kernel_rfl) (fun w hb hm hio hsp k => qs_finish_none I S name hr w _ k) ?_)
  rintro _ _ ⟨rfl, rfl⟩
  refine VC_sound tabOk 100 ?_
  exact ⟨_, ⟨rfl, rfl⟩, fun _ _ h => h⟩

/-! ### Tick -/
abbrev QS.tick (S : QS) (A1 : Option Addr) (c1 : Nat) (A2 : Option Addr) (c2 : Nat) (R : List Int) (now : Int) : QS := { S with tA := A2, tc := c2, ts := S.ts ++ [⟨S.last + 1, S.s.next, A1, c1, pos 1 R, now⟩], last := S.last + 1 }
def tickQ (I : QI) (S : QS) (R : List Int) (now : Int) : Value → List Res → Prop := fun v Rs =>
  (Tk.tkAdd S.ts S.s.next (pos 1 R) now ≠ 0 ∧ v = .tuple #[Tk.mkT Tk.zeroT, .int .i64 (Tk.tkAdd S.ts S.s.next (pos 1 R) now)] ∧ Rs = qR I S) ∨
  (Tk.tkAdd S.ts S.s.next (pos 1 R) now = 0 ∧ ∃ A1 c1 A2 c2 A3 c3, v = .tuple #[Tk.mkT ⟨S.last + 1, S.s.next, A3, c3, pos 1 R, now⟩, .int .i64 0] ∧ Rs = own (RX.encI .i64) 1 2 A3 c3 (pos 1 R) :: qR I (S.tick A1 c1 A2 c2 R now))
set_option maxHeartbeats 1000000 in
theorem qs_tick (I : QI) (S : QS) (R : List Int) (now : Int) (A : Option Addr) (d : Nat) (h6 : (pos 1 R).length ≤ 6) (hf : Tk.TkFit S.ts) (hmx : -9223372036854775808 ≤ S.s.next ∧ S.s.next ≤ 9223372036854775807) (hl : 0 ≤ S.last ∧ S.last ≤ 1000000) (ht : S.ts.length ≤ 1000000) (w0 : World) (hfs : List PH) (hm : Mod hfs (qR I S) w0) (hS : RdF hfs A ((pos 1 R).flatMap (RX.encI .i64))) :
    Calls Tryz.prog 84 #[pv I.bt, snV S.s.next A (pos 1 R).length d, .int .i64 now] w0 fun e w' => ∃ v Rs', e = .returned v ∧ tickQ I S R now v Rs' ∧ Mod hfs Rs' w' ∧ Oth w0 w' := by
  refine part_call (Tk.tkR I.bt S.tA S.tc S.ts S.last) ([qBI I S.nx] ++ (txB I.m I.b1 I.b2 S.s ++ (Sp.spT I.bs S.T S.cur ++ (Rt.rtR I.br S.rA S.rc S.xs ++ Cu.cuR I.bc I.bm S.cs)))) (by classical exact List.perm_iff_count.2 fun a => by simp only [qR, txB, Sp.spT, Sp.spR, Sp.get3, Tk.tkR, Rt.rtR, Cu.cuR, Cu.cuB, Cu.blks_mid, List.length_nil, List.cons_append, List.nil_append, List.append_nil, List.count_cons, List.count_append, List.count_nil]; omega) hm (fun hb hsp h => Tk.tick_add I.bt S.tA S.tc S.ts S.last S.s.next A d (pos 1 R) now w0 _ h (fun Rs w h => hS _ w (hsp Rs w h)) (by omega) hf hmx hl ht) ?_
  rintro v Rs' (⟨h0, rfl, rfl⟩ | ⟨h0, A1, c1, A2, c2, A3, c3, rfl, rfl⟩)
  · exact ⟨_, .inl ⟨h0, rfl, rfl⟩, (by classical exact List.perm_iff_count.2 fun a => by simp only [qR, txB, Sp.spT, Sp.spR, Sp.get3, Tk.tkR, Rt.rtR, Cu.cuR, Cu.cuB, Cu.blks_mid, List.length_nil, List.cons_append, List.nil_append, List.append_nil, List.count_cons, List.count_append, List.count_nil]; omega)⟩
  · exact ⟨_, .inr ⟨h0, A1, c1, A2, c2, A3, c3, rfl, rfl⟩, (by classical exact List.perm_iff_count.2 fun a => by simp only [qR, txB, Sp.spT, Sp.spR, Sp.get3, Tk.tkR, Rt.rtR, Cu.cuR, Cu.cuB, Cu.blks_mid, List.length_nil, List.cons_append, List.nil_append, List.append_nil, List.count_cons, List.count_append, List.count_nil]; omega)⟩
set_option maxHeartbeats 1000000 in
theorem q_tick (I : QI) (S : QS) (R : List Int) (now : Int) (hal : Alike S.s R) (h6 : (pos 1 R).length ≤ 6) (hf : Tk.TkFit S.ts) (hR : R.length ≤ 1000000) (hl : 0 ≤ S.last ∧ S.last ≤ 1000000) (ht : S.ts.length ≤ 1000000) (w0 : World) (hfs : List PH) (hm : Mod hfs (qR I S) w0) :
    Calls Tryz.prog 21 #[pv I.q, .int .i64 now] w0 fun e w' => ∃ v Rs', e = .returned v ∧ tickQ I S R now v Rs' ∧ Mod hfs Rs' w' ∧ Oth w0 w' := by
  have hnx := hal.next
  refine enterN (tab := tab) Tryz.func21 rfl Tryz.ntmps21 rfl (args := [_, _]) rfl hm ?_
  refine VC_sound tabOk 100 ?_
  intro b4 _
  (repeat (first | refine Or.inl ⟨rfl, rfl, ?_⟩ | refine Or.inl ⟨rfl, ?_⟩ | refine Or.inr ?_))
  refine Go_res (.blk b4 44 (Tk.encT Tk.zeroT) :: qR I S) (fun _ h => h) ?_
  show Go _ _ _ _
  refine Go_any mixed [13] [(0, false), (1, false), (2, false), (4, false), (5, false), (6, false), (9, false), (3, false), (7, false), (8, true), (10, true), (11, false), (12, false), (13, true), (14, false)] rfl (by kernel_rfl) (by kernel_rfl) [qBI I S.nx] (fun _ => True) (fun _ _ _ h => h) (fun w hm _ => ⟨Holds.of_idx [1] hm, trivial⟩) ?_
  refine VC_sound tabOk 100 ?_
  (repeat (first | refine Or.inl ⟨rfl, rfl, ?_⟩ | refine Or.inl ⟨rfl, ?_⟩ | refine Or.inr ?_))
  refine Go_aloneL rfl rfl (OpTo_tcall [.blk b4 44 (Tk.encT Tk.zeroT)] (qR I S) rfl rfl rfl rfl rfl rfl (by kernel_rfl) (fun w hb hm hio hsp k => qs_now I S R hal h6 w _ k) ?_)
  rintro _ _ ⟨A, d, rfl, rfl⟩
  refine And.intro (fun w hm _ => ⟨Holds.of_idx [2] hm, trivial⟩) ?_
  refine VC_sound tabOk 100 ?_
  refine Go_aloneL rfl rfl (OpTo_tcall [.blk b4 44 (Tk.encT Tk.zeroT), own (RX.encI .i64) 1 2 A d (pos 1 R)] (qR I S) rfl rfl rfl rfl rfl rfl (by kernel_rfl) (fun w hb hm hio hsp k => qs_tick I S R now A d h6 hf (by omega) hl ht w _ k (fun Rs w h => (hsp Rs w h).own_rd (i := 1) rfl)) ?_)
  rintro _ _ (⟨h0, rfl, rfl⟩ | ⟨h0, A1, c1, A2, c2, A3, c3, rfl, rfl⟩)
  · refine And.intro (fun w hm _ => ⟨Holds.of_idx [2] hm, trivial⟩) ?_
    refine VC_sound tabOk 100 ?_
    (repeat (first | refine Or.inl ⟨rfl, rfl, ?_⟩ | refine Or.inl ⟨rfl, ?_⟩ | refine Or.inr ?_))
    exact ⟨_, .inl ⟨h0, rfl, rfl⟩, fun _ _ h => h.drop (a := [_, _])⟩
  · refine And.intro (fun w hm _ => ⟨Holds.of_idx [3] hm, trivial⟩) ?_
    refine VC_sound tabOk 100 ?_
    (repeat (first | refine Or.inl ⟨rfl, rfl, ?_⟩ | refine Or.inl ⟨rfl, ?_⟩ | refine Or.inr ?_))
    exact ⟨_, .inr ⟨h0, A1, c1, A2, c2, A3, c3, rfl, rfl⟩, fun _ _ h => h.drop (a := [_, _])⟩
end Go.Proofs.YthpcahgdobnljaaGreat
