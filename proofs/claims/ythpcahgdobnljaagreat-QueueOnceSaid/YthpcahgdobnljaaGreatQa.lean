/- What the functions of package queue do: the parts of a queue; Write, Forget, Register, Unregister, Finish, Tick. -/
import Derived.Test.YthpcahgdobnljaaGreatQBase
set_option maxRecDepth 100000
set_option autoImplicit false
set_option linter.unusedVariables false
set_option linter.unusedSimpArgs false
namespace Go.Proofs.YthpcahgdobnljaaGreat
open Go.RX Go Go.RowKit


theorem q_spools (I : QI) (nx : Int) (w0 : World) (hq : w0.heap[I.q]? = some (.cells #[.pointer (some ⟨I.m, 0, none⟩), pv I.bs, pv I.bt, pv I.bc, pv I.br, .int .i64 nx] 118 (0, 0))) :
    Calls Tryz.prog 32 #[pv I.q] w0 fun e w' => e = .returned (pv I.bs) ∧ BelowD w0.heap.size w0 w' := by
  refine enterP (tab := tab) Tryz.func32 rfl Tryz.ntmps32 rfl (args := [_]) rfl ?_
  refine VC_sound tabOk 100 ?_
  refine Go_ops rfl (OpTo_loadBlk tabOk (cs := [.pointer (some ⟨I.m, 0, none⟩), pv I.bs, pv I.bt, pv I.bc, pv I.br, .int .i64 nx]) (pv I.bs) rfl rfl rfl (fun w hm _ => hm.block_old hq) rfl ?_)
  refine VC_sound tabOk 100 ?_
  rfl
theorem q_ticks (I : QI) (nx : Int) (w0 : World) (hq : w0.heap[I.q]? = some (.cells #[.pointer (some ⟨I.m, 0, none⟩), pv I.bs, pv I.bt, pv I.bc, pv I.br, .int .i64 nx] 118 (0, 0))) :
    Calls Tryz.prog 15 #[pv I.q] w0 fun e w' => e = .returned (pv I.bt) ∧ BelowD w0.heap.size w0 w' := by
  refine enterP (tab := tab) Tryz.func15 rfl Tryz.ntmps15 rfl (args := [_]) rfl ?_
  refine VC_sound tabOk 100 ?_
  refine Go_ops rfl (OpTo_loadBlk tabOk (cs := [.pointer (some ⟨I.m, 0, none⟩), pv I.bs, pv I.bt, pv I.bc, pv I.br, .int .i64 nx]) (pv I.bt) rfl rfl rfl (fun w hm _ => hm.block_old hq) rfl ?_)
  refine VC_sound tabOk 100 ?_
  rfl
theorem q_cursors (I : QI) (nx : Int) (w0 : World) (hq : w0.heap[I.q]? = some (.cells #[.pointer (some ⟨I.m, 0, none⟩), pv I.bs, pv I.bt, pv I.bc, pv I.br, .int .i64 nx] 118 (0, 0))) :
    Calls Tryz.prog 13 #[pv I.q] w0 fun e w' => e = .returned (pv I.bc) ∧ BelowD w0.heap.size w0 w' := by
  refine enterP (tab := tab) Tryz.func13 rfl Tryz.ntmps13 rfl (args := [_]) rfl ?_
  refine VC_sound tabOk 100 ?_
  refine Go_ops rfl (OpTo_loadBlk tabOk (cs := [.pointer (some ⟨I.m, 0, none⟩), pv I.bs, pv I.bt, pv I.bc, pv I.br, .int .i64 nx]) (pv I.bc) rfl rfl rfl (fun w hm _ => hm.block_old hq) rfl ?_)
  refine VC_sound tabOk 100 ?_
  rfl
theorem q_retries (I : QI) (nx : Int) (w0 : World) (hq : w0.heap[I.q]? = some (.cells #[.pointer (some ⟨I.m, 0, none⟩), pv I.bs, pv I.bt, pv I.bc, pv I.br, .int .i64 nx] 118 (0, 0))) :
    Calls Tryz.prog 43 #[pv I.q] w0 fun e w' => e = .returned (pv I.br) ∧ BelowD w0.heap.size w0 w' := by
  refine enterP (tab := tab) Tryz.func43 rfl Tryz.ntmps43 rfl (args := [_]) rfl ?_
  refine VC_sound tabOk 100 ?_
  refine Go_ops rfl (OpTo_loadBlk tabOk (cs := [.pointer (some ⟨I.m, 0, none⟩), pv I.bs, pv I.bt, pv I.bc, pv I.br, .int .i64 nx]) (pv I.br) rfl rfl rfl (fun w hm _ => hm.block_old hq) rfl ?_)
  refine VC_sound tabOk 100 ?_
  rfl

/-! ### parts, lifted -/
theorem qs_add (I : QI) (S : QS) (e : EventM) (hc : S.cur < 3) (hl : Sp.len3 S.T ≤ 100000) (w0 : World) (hfs : List PH) (hm : Mod hfs (qR I S) w0) :
    Calls Tryz.prog 86 #[pv I.bs, mkE e] w0 fun e' w' => ∃ v Rs', e' = .returned v ∧ (v = .tuple #[] ∧ ∃ A' c', Rs' = qR I { S with T := Sp.set3 S.T S.cur ⟨A', c', (Sp.get3 S.T S.cur).xs ++ [e]⟩ }) ∧ Mod hfs Rs' w' ∧ Oth w0 w' := by
  have h0 := Sp.len3_le S.T 0 (by omega)
  have h1 := Sp.len3_le S.T 1 (by omega)
  have h2 := Sp.len3_le S.T 2 (by omega)
  simp only [Sp.get3, Sp.pick3] at h0 h1 h2
  refine part_call (Sp.spT I.bs S.T S.cur) ([qBI I S.nx] ++ (txB I.m I.b1 I.b2 S.s ++ (Tk.tkR I.bt S.tA S.tc S.ts S.last ++ (Rt.rtR I.br S.rA S.rc S.xs ++ Cu.cuR I.bc I.bm S.cs)))) (by classical exact List.perm_iff_count.2 fun a => by simp only [qR, txB, Sp.spT, Sp.spR, Sp.get3, Tk.tkR, Rt.rtR, Cu.cuR, Cu.cuB, Cu.blks_mid, List.length_nil, List.cons_append, List.nil_append, List.append_nil, List.count_cons, List.count_append, List.count_nil]; omega) hm (fun hb hsp h => Sp.spool_add I.bs S.T.1 S.T.2.1 S.T.2.2 S.cur e w0 _ h hc (by omega) (by omega) (by omega)) ?_
  rintro v Rs' ⟨A', c', rfl, rfl⟩
  refine ⟨_, ⟨rfl, A', c', rfl⟩, ?_⟩
  rw [Sp.spSet_eq]
  exact (by classical exact List.perm_iff_count.2 fun a => by simp only [qR, txB, Sp.spT, Sp.spR, Sp.get3, Tk.tkR, Rt.rtR, Cu.cuR, Cu.cuB, Cu.blks_mid, List.length_nil, List.cons_append, List.nil_append, List.append_nil, List.count_cons, List.count_append, List.count_nil]; omega)
theorem qs_forget (I : QI) (S : QS) (x : Int) (hl : Sp.len3 S.T ≤ 10000) (w0 : World) (hfs : List PH) (hm : Mod hfs (qR I S) w0) :
    Calls Tryz.prog 88 #[pv I.bs, .int .i64 x] w0 fun e' w' => ∃ v Rs', e' = .returned v ∧ (v = .int .i64 ((S.T.1.xs.length + S.T.2.1.xs.length + S.T.2.2.xs.length : Nat) - ((Sp.tf x S.T.1).xs.length + (Sp.tf x S.T.2.1).xs.length + (Sp.tf x S.T.2.2).xs.length : Nat) : Int) ∧ Rs' = qR I { S with T := (Sp.tf x S.T.1, Sp.tf x S.T.2.1, Sp.tf x S.T.2.2) }) ∧ Mod hfs Rs' w' ∧ Oth w0 w' := by
  have h0 := Sp.len3_le S.T 0 (by omega)
  have h1 := Sp.len3_le S.T 1 (by omega)
  have h2 := Sp.len3_le S.T 2 (by omega)
  simp only [Sp.get3, Sp.pick3] at h0 h1 h2
  refine part_call (Sp.spT I.bs S.T S.cur) ([qBI I S.nx] ++ (txB I.m I.b1 I.b2 S.s ++ (Tk.tkR I.bt S.tA S.tc S.ts S.last ++ (Rt.rtR I.br S.rA S.rc S.xs ++ Cu.cuR I.bc I.bm S.cs)))) (by classical exact List.perm_iff_count.2 fun a => by simp only [qR, txB, Sp.spT, Sp.spR, Sp.get3, Tk.tkR, Rt.rtR, Cu.cuR, Cu.cuB, Cu.blks_mid, List.length_nil, List.cons_append, List.nil_append, List.append_nil, List.count_cons, List.count_append, List.count_nil]; omega) hm (fun hb hsp h => Sp.spool_forget I.bs S.T.1 S.T.2.1 S.T.2.2 S.cur x w0 _ h (by omega) (by omega) (by omega)) ?_
  rintro v Rs' ⟨rfl, rfl⟩
  exact ⟨_, ⟨rfl, rfl⟩, (by classical exact List.perm_iff_count.2 fun a => by simp only [qR, txB, Sp.spT, Sp.spR, Sp.get3, Tk.tkR, Rt.rtR, Cu.cuR, Cu.cuB, Cu.blks_mid, List.length_nil, List.cons_append, List.nil_append, List.append_nil, List.count_cons, List.count_append, List.count_nil]; omega)⟩
theorem qs_register (I : QI) (S : QS) (name : ByteArray) (at_ : Int) (w0 : World) (hfs : List PH) (hm : Mod hfs (qR I S) w0) :
    Calls Tryz.prog 85 #[pv I.bc, .string name, .int .i64 at_] w0 fun e' w' => ∃ v Rs', e' = .returned v ∧ (v = .int .i64 (Cu.regE name at_ (Cu.alOf S.cs)) ∧ ∃ q, Rs' = qR I { S with cs := Cu.regSt name at_ q S.cs }) ∧ Mod hfs Rs' w' ∧ Oth w0 w' := by
  refine part_call (Cu.cuR I.bc I.bm S.cs) ([qBI I S.nx] ++ (txB I.m I.b1 I.b2 S.s ++ (Sp.spT I.bs S.T S.cur ++ (Tk.tkR I.bt S.tA S.tc S.ts S.last ++ (Rt.rtR I.br S.rA S.rc S.xs))))) (by classical exact List.perm_iff_count.2 fun a => by simp only [qR, txB, Sp.spT, Sp.spR, Sp.get3, Tk.tkR, Rt.rtR, Cu.cuR, Cu.cuB, Cu.blks_mid, List.length_nil, List.cons_append, List.nil_append, List.append_nil, List.count_cons, List.count_append, List.count_nil]; omega) hm (fun hb hsp h => Cu.cuR_register I.bc I.bm S.cs name at_ w0 _ h) ?_
  rintro v Rs' ⟨rfl, q, rfl⟩
  exact ⟨_, ⟨rfl, q, rfl⟩, (by classical exact List.perm_iff_count.2 fun a => by simp only [qR, txB, Sp.spT, Sp.spR, Sp.get3, Tk.tkR, Rt.rtR, Cu.cuR, Cu.cuB, Cu.blks_mid, List.length_nil, List.cons_append, List.nil_append, List.append_nil, List.count_cons, List.count_append, List.count_nil]; omega)⟩
theorem qs_unregister (I : QI) (S : QS) (name : ByteArray) (w0 : World) (hfs : List PH) (hm : Mod hfs (qR I S) w0) :
    Calls Tryz.prog 105 #[pv I.bc, .string name] w0 fun e' w' => ∃ v Rs', e' = .returned v ∧ (v = .int .i64 (if (aget name (Cu.alOf S.cs)).isSome then 0 else 4) ∧ Rs' = qR I { S with cs := Cu.delSt name S.cs }) ∧ Mod hfs Rs' w' ∧ Oth w0 w' := by
  refine part_call (Cu.cuR I.bc I.bm S.cs) ([qBI I S.nx] ++ (txB I.m I.b1 I.b2 S.s ++ (Sp.spT I.bs S.T S.cur ++ (Tk.tkR I.bt S.tA S.tc S.ts S.last ++ (Rt.rtR I.br S.rA S.rc S.xs))))) (by classical exact List.perm_iff_count.2 fun a => by simp only [qR, txB, Sp.spT, Sp.spR, Sp.get3, Tk.tkR, Rt.rtR, Cu.cuR, Cu.cuB, Cu.blks_mid, List.length_nil, List.cons_append, List.nil_append, List.append_nil, List.count_cons, List.count_append, List.count_nil]; omega) hm (fun hb hsp h => Cu.cuR_unregister I.bc I.bm S.cs name w0 _ h) ?_
  rintro v Rs' ⟨rfl, rfl⟩
  exact ⟨_, ⟨rfl, rfl⟩, (by classical exact List.perm_iff_count.2 fun a => by simp only [qR, txB, Sp.spT, Sp.spR, Sp.get3, Tk.tkR, Rt.rtR, Cu.cuR, Cu.cuB, Cu.blks_mid, List.length_nil, List.cons_append, List.nil_append, List.append_nil, List.count_cons, List.count_append, List.count_nil]; omega)⟩
theorem qs_drop (I : QI) (S : QS) (name : ByteArray) (hl : S.xs.length ≤ 1000) (w0 : World) (hfs : List PH) (hm : Mod hfs (qR I S) w0) :
    Calls Tryz.prog 106 #[pv I.br, .string name] w0 fun e' w' => ∃ v Rs', e' = .returned v ∧ (v = .int .i64 ((S.xs.length : Int) - (Rt.leftL name S.xs).length) ∧ Rs' = qR I { S with xs := Rt.leftL name S.xs }) ∧ Mod hfs Rs' w' ∧ Oth w0 w' := by
  refine part_call (Rt.rtR I.br S.rA S.rc S.xs) ([qBI I S.nx] ++ (txB I.m I.b1 I.b2 S.s ++ (Sp.spT I.bs S.T S.cur ++ (Tk.tkR I.bt S.tA S.tc S.ts S.last ++ (Cu.cuR I.bc I.bm S.cs))))) (by classical exact List.perm_iff_count.2 fun a => by simp only [qR, txB, Sp.spT, Sp.spR, Sp.get3, Tk.tkR, Rt.rtR, Cu.cuR, Cu.cuB, Cu.blks_mid, List.length_nil, List.cons_append, List.nil_append, List.append_nil, List.count_cons, List.count_append, List.count_nil]; omega) hm (fun hb hsp h => Rt.retry_drop I.br S.rA S.rc S.xs name (by omega) w0 _ h) ?_
  rintro v Rs' ⟨rfl, rfl⟩
  exact ⟨_, ⟨rfl, rfl⟩, (by classical exact List.perm_iff_count.2 fun a => by simp only [qR, txB, Sp.spT, Sp.spR, Sp.get3, Tk.tkR, Rt.rtR, Cu.cuR, Cu.cuB, Cu.blks_mid, List.length_nil, List.cons_append, List.nil_append, List.append_nil, List.count_cons, List.count_append, List.count_nil]; omega)⟩
theorem qs_now (I : QI) (S : QS) (R : List Int) (hal : Alike S.s R) (h6 : (pos 1 R).length ≤ 6) (w0 : World) (hfs : List PH) (hm : Mod hfs (qR I S) w0) :
    Calls Tryz.prog 31 #[pv I.m] w0 fun e' w' => ∃ v Rs', e' = .returned v ∧ (∃ A c, v = snV S.s.next A (pos 1 R).length c ∧ Rs' = own (RX.encI .i64) 1 2 A c (pos 1 R) :: qR I S) ∧ Mod hfs Rs' w' ∧ Oth w0 w' := by
  refine part_call (txB I.m I.b1 I.b2 S.s) ([qBI I S.nx] ++ (Sp.spT I.bs S.T S.cur ++ (Tk.tkR I.bt S.tA S.tc S.ts S.last ++ (Rt.rtR I.br S.rA S.rc S.xs ++ Cu.cuR I.bc I.bm S.cs)))) (by classical exact List.perm_iff_count.2 fun a => by simp only [qR, txB, Sp.spT, Sp.spR, Sp.get3, Tk.tkR, Rt.rtR, Cu.cuR, Cu.cuB, Cu.blks_mid, List.length_nil, List.cons_append, List.nil_append, List.append_nil, List.count_cons, List.count_append, List.count_nil]; omega) hm (fun hb hsp h => txn_now I.m I.b1 I.b2 S.s (by rw [hal.O]; omega) w0 _ h) ?_
  rintro v Rs' ⟨A, c, ks, rfl, hp, hr, rfl⟩
  obtain rfl : ks = pos 1 R := open_is (by rw [← hal.O]; exact hp) hr
  exact ⟨_, ⟨A, c, rfl, rfl⟩, (by classical exact List.perm_iff_count.2 fun a => by simp only [qR, txB, Sp.spT, Sp.spR, Sp.get3, Tk.tkR, Rt.rtR, Cu.cuR, Cu.cuB, Cu.blks_mid, List.length_nil, List.cons_append, List.nil_append, List.append_nil, List.count_cons, List.count_append, List.count_nil]; omega)⟩
end Go.Proofs.YthpcahgdobnljaaGreat
