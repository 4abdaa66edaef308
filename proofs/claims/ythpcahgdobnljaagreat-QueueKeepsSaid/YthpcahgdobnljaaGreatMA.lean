/- Texts of layer 15 put together (QueueN, QBase, Qa, Qb, Qc, Qd, Qe). -/
import Derived.Test.YthpcahgdobnljaaGreatTxn
import Derived.Test.YthpcahgdobnljaaGreatME
import Derived.Test.YthpcahgdobnljaaGreatTick
import Derived.Test.YthpcahgdobnljaaGreatBatch
import Derived.Test.YthpcahgdobnljaaGreatCurMid
import Derived.Test.YthpcahgdobnljaaGreatRetry
import Derived.Test.YthpcahgdobnljaaGreatTxnL
/- What the functions of package queue do of no queue; the document's example of layer 15; the law QueueNil: what its run comes to. -/
set_option maxRecDepth 100000
set_option autoImplicit false
set_option linter.unusedVariables false
set_option linter.unusedSimpArgs false
namespace Go.Proofs.YthpcahgdobnljaaGreat
open Go.RX Go Go.RowKit


abbrev pv (b : Nat) : Value := .pointer (some ⟨b, 0, none⟩)
abbrev spN (b : Nat) : Res := .blk b 146 [.slice none 0 0, .slice none 0 0, .slice none 0 0, .int .i64 0]
abbrev tkN (b : Nat) : Res := .blk b 131 [.slice none 0 0, .int .i64 0]
abbrev rtN (b : Nat) : Res := .blk b 184 [.slice none 0 0]
abbrev qB (q : Nat) (m : Option Addr) (bs bt bc br : Nat) (nx : Int) : Res := .blk q 118 [.pointer m, pv bs, pv bt, pv bc, pv br, .int .i64 nx]
theorem qn_spNew (w0 : World) : Calls Tryz.prog 80 #[] w0 fun e w' => ∃ v Rs', e = .returned v ∧ (∃ b, v = pv b ∧ Rs' = [spN b]) ∧ Mod [heapOf w0] Rs' w' ∧ Oth w0 w' := by
  refine enterN (tab := tab) Tryz.func80 rfl Tryz.ntmps80 rfl (args := []) rfl (Mod.start w0) ?_
  refine VC_sound tabOk 100 ?_
  intro b _
  exact ⟨_, ⟨b, rfl, rfl⟩, fun _ _ h => h⟩
theorem qn_tkNew (w0 : World) : Calls Tryz.prog 81 #[] w0 fun e w' => ∃ v Rs', e = .returned v ∧ (∃ b, v = pv b ∧ Rs' = [tkN b]) ∧ Mod [heapOf w0] Rs' w' ∧ Oth w0 w' := by
  refine enterN (tab := tab) Tryz.func81 rfl Tryz.ntmps81 rfl (args := []) rfl (Mod.start w0) ?_
  refine VC_sound tabOk 100 ?_
  intro b _
  exact ⟨_, ⟨b, rfl, rfl⟩, fun _ _ h => h⟩
theorem qn_rtNew (w0 : World) : Calls Tryz.prog 83 #[] w0 fun e w' => ∃ v Rs', e = .returned v ∧ (∃ b, v = pv b ∧ Rs' = [rtN b]) ∧ Mod [heapOf w0] Rs' w' ∧ Oth w0 w' := by
  refine enterN (tab := tab) Tryz.func83 rfl Tryz.ntmps83 rfl (args := []) rfl (Mod.start w0) ?_
  refine VC_sound tabOk 100 ?_
  intro b _
  exact ⟨_, ⟨b, rfl, rfl⟩, fun _ _ h => h⟩
theorem qn_cuNew (w0 : World) : Calls Tryz.prog 82 #[] w0 fun e w' => ∃ v Rs', e = .returned v ∧ (∃ b bm, v = pv b ∧ Rs' = [.blk b 127 [.map (some bm)], mpR Value.string pv bm []]) ∧ Mod [heapOf w0] Rs' w' ∧ Oth w0 w' := by
  refine enterN (tab := tab) Tryz.func82 rfl Tryz.ntmps82 rfl (args := []) rfl (Mod.start w0) ?_
  refine VC_sound tabOk 100 ?_
  refine Go_ops rfl (OpTo_makeMp (kE := Value.string) (vE := pv) rfl ?_)
  intro bm _
  refine VC_sound tabOk 100 ?_
  intro b _
  exact ⟨_, ⟨b, bm, rfl, rfl⟩, fun _ _ h => h⟩
theorem qn_new (m : Option Addr) (w0 : World) : Calls Tryz.prog 20 #[.pointer m] w0 fun e w' => ∃ v Rs', e = .returned v ∧ (∃ q bs bt bc bm br, v = pv q ∧ Rs' = [qB q m bs bt bc br 1, spN bs, tkN bt, .blk bc 127 [.map (some bm)], mpR Value.string pv bm [], rtN br]) ∧ Mod [heapOf w0] Rs' w' ∧ Oth w0 w' := by
  refine enterN (tab := tab) Tryz.func20 rfl Tryz.ntmps20 rfl (args := [_]) rfl (Mod.start w0) ?_
  refine VC_sound tabOk 100 ?_
  show Go _ _ _ _
  refine Go_ops rfl (OpTo_ncall rfl rfl rfl rfl rfl (by kernel_rfl) (fun w hm _ => qn_spNew w) ?_)
  rintro _ _ ⟨bs, rfl, rfl⟩
  refine VC_sound tabOk 100 ?_
  show Go _ _ _ _
  refine Go_ops rfl (OpTo_ncall rfl rfl rfl rfl rfl (by kernel_rfl) (fun w hm _ => qn_tkNew w) ?_)
  rintro _ _ ⟨bt, rfl, rfl⟩
  refine VC_sound tabOk 100 ?_
  show Go _ _ _ _
  refine Go_ops rfl (OpTo_ncall rfl rfl rfl rfl rfl (by kernel_rfl) (fun w hm _ => qn_cuNew w) ?_)
  rintro _ _ ⟨bc, bm, rfl, rfl⟩
  refine VC_sound tabOk 100 ?_
  show Go _ _ _ _
  refine Go_ops rfl (OpTo_ncall rfl rfl rfl rfl rfl (by kernel_rfl) (fun w hm _ => qn_rtNew w) ?_)
  rintro _ _ ⟨br, rfl, rfl⟩
  refine VC_sound tabOk 100 ?_
  intro q _
  (repeat (first | refine Or.inl ⟨rfl, rfl, ?_⟩ | refine Or.inl ⟨rfl, ?_⟩ | refine Or.inr ?_))
  exact ⟨_, ⟨q, bs, bt, bc, bm, br, rfl, rfl⟩, fun _ _ h => h.sel [0, 5, 4, 2, 3, 1] rfl⟩

/-! ### of a queue that is new -/
theorem qn_last (bt : Nat) (A : Option Addr) (n c : Nat) (last : Int) (w0 : World) (hb : w0.heap[bt]? = some (.cells #[.slice A n c, .int .i64 last] 131 (0, 0))) :
    Calls Tryz.prog 17 #[pv bt] w0 fun e w' => e = .returned (.int .i64 last) ∧ BelowD w0.heap.size w0 w' := by
  refine enterP (tab := tab) Tryz.func17 rfl Tryz.ntmps17 rfl (args := [_]) rfl ?_
  refine VC_sound tabOk 100 ?_
  refine Go_ops rfl (OpTo_loadBlk tabOk (cs := [.slice A n c, .int .i64 last]) (.int .i64 last) rfl rfl rfl (fun w hm _ => hm.block_old hb) rfl ?_)
  refine VC_sound tabOk 100 ?_
  rfl
section
variable (q : Nat) (m : Option Addr) (bs bt bc br : Nat) (nx : Int) (w0 : World) (hq : w0.heap[q]? = some (.cells #[.pointer m, pv bs, pv bt, pv bc, pv br, .int .i64 nx] 118 (0, 0)))
include hq
theorem qn_nextID : Calls Tryz.prog 42 #[pv q] w0 fun e w' => e = .returned (.int .i64 nx) ∧ BelowD w0.heap.size w0 w' := by
  refine enterP (tab := tab) Tryz.func42 rfl Tryz.ntmps42 rfl (args := [_]) rfl ?_
  refine VC_sound tabOk 100 ?_
  refine Go_ops rfl (OpTo_loadBlk tabOk (cs := [.pointer m, pv bs, pv bt, pv bc, pv br, .int .i64 nx]) (.int .i64 nx) rfl rfl rfl (fun w hm _ => hm.block_old hq) rfl ?_)
  refine VC_sound tabOk 100 ?_
  rfl
theorem qn_ticks : Calls Tryz.prog 15 #[pv q] w0 fun e w' => e = .returned (pv bt) ∧ BelowD w0.heap.size w0 w' := by
  refine enterP (tab := tab) Tryz.func15 rfl Tryz.ntmps15 rfl (args := [_]) rfl ?_
  refine VC_sound tabOk 100 ?_
  refine Go_ops rfl (OpTo_loadBlk tabOk (cs := [.pointer m, pv bs, pv bt, pv bc, pv br, .int .i64 nx]) (pv bt) rfl rfl rfl (fun w hm _ => hm.block_old hq) rfl ?_)
  refine VC_sound tabOk 100 ?_
  rfl
theorem qn_register_wait (name : ByteArray) (A : Option Addr) (n c : Nat) (ht : w0.heap[bt]? = some (.cells #[.slice A n c, .int .i64 0] 131 (0, 0))) :
    Calls Tryz.prog 22 #[pv q, .string name] w0 fun e w' => e = .returned (.int .i64 9) ∧ BelowD w0.heap.size w0 w' := by
  refine enterP (tab := tab) Tryz.func22 rfl Tryz.ntmps22 rfl (args := [_, _]) rfl ?_
  refine VC_sound tabOk 100 ?_
  refine Go_ops rfl (OpTo_loadBlk tabOk (cs := [.pointer m, pv bs, pv bt, pv bc, pv br, .int .i64 nx]) (pv bt) rfl rfl rfl (fun w hm _ => hm.block_old hq) rfl ?_)
  refine VC_sound tabOk 100 ?_
  refine Go_ops rfl (OpTo_pcall (v := .int .i64 0) rfl rfl rfl rfl rfl (by kernel_rfl) (fun w hm _ => qn_last bt A n c 0 w (hm.block_old ht)) ?_)
  refine VC_sound tabOk 100 ?_
  refine ⟨fun _ => ?_, fun h => by first | (simp at h; done) | (simp at h; omega) | (simp_all; done)⟩
  rfl
end

set_option maxHeartbeats 1000000 in
theorem l15_early (w0 : World) : Calls Tryz.prog 9 #[] w0 fun e w' => e = .returned (.bool true) ∧ BelowD w0.heap.size w0 w' := by
  refine enterP (tab := tab) Tryz.func9 rfl Tryz.ntmps9 rfl (args := []) rfl ?_
  refine VC_sound tabOk 100 ?_
  show Go _ _ _ _
  refine Go_ops rfl (OpTo_ncall rfl rfl rfl rfl rfl (by kernel_rfl) (fun w hm _ => txn_new w) ?_)
  rintro _ _ ⟨m, b1, b2, rfl, rfl⟩
  refine VC_sound tabOk 100 ?_
  show Go _ _ _ _
  refine Go_ops rfl (OpTo_ncall rfl rfl rfl rfl rfl (by kernel_rfl) (fun w hm _ => qn_new (some ⟨m, 0, none⟩) w) ?_)
  rintro _ _ ⟨q, bs, bt, bc, bm, br, rfl, rfl⟩
  refine VC_sound tabOk 100 ?_
  refine Go_ops rfl (OpTo_pcall (v := .int .i64 9) rfl rfl rfl rfl rfl (by kernel_rfl) (fun w hm _ => qn_register_wait q (some ⟨m, 0, none⟩) bs bt bc br 1 w (hm.blk_at (i := 0) rfl) _ none 0 0 (hm.blk_at (i := 2) rfl)) ?_)
  refine VC_sound tabOk 100 ?_
  refine ⟨fun _ => ?_, fun h => by first | (simp at h; done) | (simp at h; omega) | (simp_all; done)⟩
  refine Go_ops rfl (OpTo_pcall (v := .int .i64 1) rfl rfl rfl rfl rfl (by kernel_rfl) (fun w hm _ => qn_nextID q (some ⟨m, 0, none⟩) bs bt bc br 1 w (hm.blk_at (i := 0) rfl)) ?_)
  refine VC_sound tabOk 100 ?_
  refine ⟨fun _ => ?_, fun h => by first | (simp at h; done) | (simp at h; omega) | (simp_all; done)⟩
  refine Go_ops rfl (OpTo_pcall (v := pv bt) rfl rfl rfl rfl rfl (by kernel_rfl) (fun w hm _ => qn_ticks q (some ⟨m, 0, none⟩) bs bt bc br 1 w (hm.blk_at (i := 0) rfl)) ?_)
  refine VC_sound tabOk 100 ?_
  refine Go_ops rfl (OpTo_pcall (v := .int .i64 0) rfl rfl rfl rfl rfl (by kernel_rfl) (fun w hm _ => qn_last bt none 0 0 0 w (hm.blk_at (i := 2) rfl)) ?_)
  refine VC_sound tabOk 100 ?_
  exact congrArg Value.bool (by simp)

/-! ### of none -/
abbrev zTick : Value := .agg #[.int .i64 0, .int .i64 0, .slice none 0 0, .int .i64 0]
abbrev zEv : Value := .agg #[.int .i64 0, .int .i64 0, .string ⟨#[]⟩, .int .i64 0, .int .i64 0, .int .u8 0, .int .i64 0, .string ⟨#[]⟩]
abbrev zRow : Value := .agg #[.int .i64 0, .string ⟨#[]⟩]
abbrev zCur : Value := .agg #[.string ⟨#[]⟩, .int .i64 0, .int .i64 0]
end Go.Proofs.YthpcahgdobnljaaGreat

/- A queue as a whole: what it owns; a call on part of it, or on it behind other memory. -/
set_option maxRecDepth 100000
set_option autoImplicit false
set_option linter.unusedVariables false
set_option linter.unusedSimpArgs false
namespace Go.RX
open Go Go.RowKit
/-- A call that turns what stands behind other memory. -/
theorem OpTo_tcall {E : Env} {l : L} {Rs : List Res} {o : Oper} {c : Call} {x : Operand} {f : FuncId} {first cap : Array Value} {vs av : List Value} {K : L → List Res → Prop} {Qc : Value → List Res → Prop} (X Rp : List Res) (hp : Rs = X ++ Rp)
    (ho : o.op = .call c) (hc : c.callee = .value x) (hx : ev l x = some (.v (.func (.func f) first cap))) (hv : evs l c.args.toList = some vs) (has : first.toList ++ vs ++ cap.toList = av) (hf : callable E.P f = true)
    (hcall : ∀ w hb, Mod E.hfs Rs w → Oth E.w0 w → (∀ a' w', Mod (hb ++ E.hfs) a' w' → Mod E.hfs (X ++ a') w') → Mod (hb ++ E.hfs) Rp w → Calls E.P f av.toArray w fun e w' => ∃ v Rs', e = .returned v ∧ Qc v Rs' ∧ Mod (hb ++ E.hfs) Rs' w' ∧ Oth w w')
    (hK : ∀ v Rs', Qc v Rs' → setd E.N o.dst (.v v) l fun l' => K l' (X ++ Rs')) : OpTo E l Rs o K :=
  OpTo_call (Qc := fun u Rs2 => ∃ Rs', Qc u Rs' ∧ Rs2 = X ++ Rs') ho hc hx hv has hf
    (fun w hm hio => by
      subst hp
      obtain ⟨hb, h1, h2⟩ := (hm.permRs List.perm_append_comm).split
      have h3 : ∀ a' w', Mod (hb ++ E.hfs) a' w' → Mod E.hfs (X ++ a') w' := fun a' w' h => (h2 a' w' h).permRs List.perm_append_comm
      exact (hcall w hb hm hio h3 h1).mono fun e w' ⟨v, Rs', k1, k2, k3, k4⟩ => ⟨v, X ++ Rs', k1, ⟨Rs', k2, rfl⟩, h3 Rs' w' k3, k4⟩)
    (fun u Rs2 ⟨Rs', h1, h2⟩ => by subst h2; exact hK u Rs' h1)
/-- A call that turns part of what is owned. -/
theorem part_call {P : Program} {f : FuncId} {args : Array Value} {Q : Value → List Res → Prop} {Q2 : Value → List Res → Prop} (Rp Rr : List Res) {Rs : List Res} (hp : Rs.Perm (Rp ++ Rr)) {w0 : World} {hfs : List PH} (hm : Mod hfs Rs w0)
    (h : ∀ hb, (∀ a' w', Mod (hb ++ hfs) a' w' → Mod hfs (a' ++ Rr) w') → Mod (hb ++ hfs) Rp w0 → Calls P f args w0 fun e w' => ∃ v Rs', e = .returned v ∧ Q v Rs' ∧ Mod (hb ++ hfs) Rs' w' ∧ Oth w0 w')
    (hQ : ∀ v Rs', Q v Rs' → ∃ R2, Q2 v R2 ∧ (Rs' ++ Rr).Perm R2) :
    Calls P f args w0 fun e w' => ∃ v Rs', e = .returned v ∧ Q2 v Rs' ∧ Mod hfs Rs' w' ∧ Oth w0 w' := by
  obtain ⟨hb, h1, h2⟩ := (hm.permRs hp).split
  refine (h hb h2 h1).mono fun e w' ⟨v, Rs', k1, k2, k3, k4⟩ => ?_
  obtain ⟨R2, q1, q2⟩ := hQ v Rs' k2
  exact ⟨v, R2, k1, q1, (h2 _ _ k3).permRs q2, k4⟩
end Go.RX
namespace Go.Proofs.YthpcahgdobnljaaGreat
open Go.RX Go Go.RowKit

theorem posF_rise {k : Int} : ∀ {R : List Int} {n : Int}, (posF k R n).Pairwise (fun a b : Int => a < b)
  | [], _ => List.Pairwise.nil
  | y :: r, n => by
    have ih := posF_rise (k := k) (R := r) (n := n + 1)
    simp only [posF]
    split
    · rw [List.singleton_append, List.pairwise_cons]
      refine ⟨fun z hz => ?_, ih⟩
      have := (posF_mem.1 hz).1; omega
    · exact ih
theorem same_int {xs ys : List Int} (h : xs.Perm ys) : SameBy (fun x => x) xs ys := fun q => by
  have hp := h.filter fun x => decide (x = q)
  have e : ∀ zs : List Int, (zs.filter fun x => decide (x = q)) = List.replicate (zs.filter fun x => decide (x = q)).length q := fun zs =>
    List.eq_replicate_iff.2 ⟨rfl, fun b hb => by simpa using (List.mem_filter.1 hb).2⟩
  rw [e xs, e ys, hp.length_eq]
theorem open_is {ks : List Int} {R : List Int} (hp : ks.Perm (pos 1 R)) (hr : Rise ltI (fun x => x) ks) : ks = pos 1 R :=
  Rise.unique ordI hr (List.Pairwise.imp (fun h => by simp [ltI]; omega) posF_rise) (same_int hp)
theorem Alike.cons {s : TxS} {R : List Int} (h : Alike s R) : stE s = rState R := funext h.state

structure QI where
  q : Nat
  m : Nat
  b1 : Nat
  b2 : Nat
  bs : Nat
  bt : Nat
  bc : Nat
  bm : Nat
  br : Nat
structure QS where
  T : Sp.Tbs
  cur : Nat
  tA : Option Addr
  tc : Nat
  ts : List Tk.TickM
  last : Int
  cs : Cu.Cs
  rA : Option Addr
  rc : Nat
  xs : List Rt.ItemM
  nx : Int
  s : TxS
abbrev qBI (I : QI) (nx : Int) : Res := qB I.q (some ⟨I.m, 0, none⟩) I.bs I.bt I.bc I.br nx
abbrev qR (I : QI) (S : QS) : List Res := [qBI I S.nx] ++ (txB I.m I.b1 I.b2 S.s ++ (Sp.spT I.bs S.T S.cur ++ (Tk.tkR I.bt S.tA S.tc S.ts S.last ++ (Rt.rtR I.br S.rA S.rc S.xs ++ Cu.cuR I.bc I.bm S.cs))))
/-- What holds of any queue that the laws come to. -/
structure QOk (n : Nat) (S : QS) (R : List Int) : Prop where
  al : Alike S.s R
  rl : R.length ≤ n
  o6 : (pos 1 R).length ≤ 6
  cur : S.cur < 3
  len : Sp.len3 S.T ≤ 20 * n
  fit : Tk.TkFit S.ts
  lst : 0 ≤ S.last ∧ S.last ≤ n
  tl : S.ts.length ≤ n
  cl : S.cs.length ≤ 4
  nd : (Cu.names S.cs).Nodup
  xl : S.xs.length ≤ 16
  nx : 1 ≤ S.nx ∧ S.nx ≤ n + 1
end Go.Proofs.YthpcahgdobnljaaGreat

/- What the functions of package queue do: the parts of a queue; Write, Forget, Register, Unregister, Finish, Tick. -/
set_option maxRecDepth 100000
set_option autoImplicit false
set_option linter.unusedVariables false
set_option linter.unusedSimpArgs false
namespace Go.Proofs.YthpcahgdobnljaaGreat
open Go.RX Go Go.RowKit


theorem q_spools (I : QI) (nx : Int) (w0 : World) (hq : w0.heap[I.q]? = some (.cells #[.pointer (some ⟨I.m, 0, none⟩), pv I.bs, pv I.bt, pv I.bc, pv I.br, .int .i64 nx] 118 (0, 0))) :
    Calls Tryz.prog 32 #[pv I.q] w0 fun e w' => e = .returned (pv I.bs) ∧ BelowD w0.heap.size w0 w' := by
  refine enterP (tab := tab) Tryz.func32 rfl Tryz.ntmps32 rfl (args := [_]) rfl ?_
  refine VC_sound tabOk 100 ?_
  refine Go_ops rfl (OpTo_loadBlk tabOk (cs := [.pointer (some ⟨I.m, 0, none⟩), pv I.bs, pv I.bt, pv I.bc, pv I.br, .int .i64 nx]) (pv I.bs) rfl rfl rfl (fun w hm _ => hm.block_old hq) rfl ?_)
  refine VC_sound tabOk 100 ?_
  rfl
theorem q_ticks (I : QI) (nx : Int) (w0 : World) (hq : w0.heap[I.q]? = some (.cells #[.pointer (some ⟨I.m, 0, none⟩), pv I.bs, pv I.bt, pv I.bc, pv I.br, .int .i64 nx] 118 (0, 0))) :
    Calls Tryz.prog 15 #[pv I.q] w0 fun e w' => e = .returned (pv I.bt) ∧ BelowD w0.heap.size w0 w' := by
  refine enterP (tab := tab) Tryz.func15 rfl Tryz.ntmps15 rfl (args := [_]) rfl ?_
  refine VC_sound tabOk 100 ?_
  refine Go_ops rfl (OpTo_loadBlk tabOk (cs := [.pointer (some ⟨I.m, 0, none⟩), pv I.bs, pv I.bt, pv I.bc, pv I.br, .int .i64 nx]) (pv I.bt) rfl rfl rfl (fun w hm _ => hm.block_old hq) rfl ?_)
  refine VC_sound tabOk 100 ?_
  rfl
theorem q_cursors (I : QI) (nx : Int) (w0 : World) (hq : w0.heap[I.q]? = some (.cells #[.pointer (some ⟨I.m, 0, none⟩), pv I.bs, pv I.bt, pv I.bc, pv I.br, .int .i64 nx] 118 (0, 0))) :
    Calls Tryz.prog 13 #[pv I.q] w0 fun e w' => e = .returned (pv I.bc) ∧ BelowD w0.heap.size w0 w' := by
  refine enterP (tab := tab) Tryz.func13 rfl Tryz.ntmps13 rfl (args := [_]) rfl ?_
  refine VC_sound tabOk 100 ?_
  refine Go_ops rfl (OpTo_loadBlk tabOk (cs := [.pointer (some ⟨I.m, 0, none⟩), pv I.bs, pv I.bt, pv I.bc, pv I.br, .int .i64 nx]) (pv I.bc) rfl rfl rfl (fun w hm _ => hm.block_old hq) rfl ?_)
  refine VC_sound tabOk 100 ?_
  rfl
theorem q_retries (I : QI) (nx : Int) (w0 : World) (hq : w0.heap[I.q]? = some (.cells #[.pointer (some ⟨I.m, 0, none⟩), pv I.bs, pv I.bt, pv I.bc, pv I.br, .int .i64 nx] 118 (0, 0))) :
    Calls Tryz.prog 43 #[pv I.q] w0 fun e w' => e = .returned (pv I.br) ∧ BelowD w0.heap.size w0 w' := by
  refine enterP (tab := tab) Tryz.func43 rfl Tryz.ntmps43 rfl (args := [_]) rfl ?_
  refine VC_sound tabOk 100 ?_
  refine Go_ops rfl (OpTo_loadBlk tabOk (cs := [.pointer (some ⟨I.m, 0, none⟩), pv I.bs, pv I.bt, pv I.bc, pv I.br, .int .i64 nx]) (pv I.br) rfl rfl rfl (fun w hm _ => hm.block_old hq) rfl ?_)
  refine VC_sound tabOk 100 ?_
  rfl

/-! ### parts, lifted -/
theorem qs_add (I : QI) (S : QS) (e : EventM) (hc : S.cur < 3) (hl : Sp.len3 S.T ≤ 100000) (w0 : World) (hfs : List PH) (hm : Mod hfs (qR I S) w0) :
    Calls Tryz.prog 86 #[pv I.bs, mkE e] w0 fun e' w' => ∃ v Rs', e' = .returned v ∧ (v = .tuple #[] ∧ ∃ A' c', Rs' = qR I { S with T := Sp.set3 S.T S.cur ⟨A', c', (Sp.get3 S.T S.cur).xs ++ [e]⟩ }) ∧ Mod hfs Rs' w' ∧ Oth w0 w' := by
  have h0 := Sp.len3_le S.T 0 (by omega)
  have h1 := Sp.len3_le S.T 1 (by omega)
  have h2 := Sp.len3_le S.T 2 (by omega)
  simp only [Sp.get3, Sp.pick3] at h0 h1 h2
  refine part_call (Sp.spT I.bs S.T S.cur) ([qBI I S.nx] ++ (txB I.m I.b1 I.b2 S.s ++ (Tk.tkR I.bt S.tA S.tc S.ts S.last ++ (Rt.rtR I.br S.rA S.rc S.xs ++ Cu.cuR I.bc I.bm S.cs)))) (by classical exact List.perm_iff_count.2 fun a => by simp only [qR, txB, Sp.spT, Sp.spR, Sp.get3, Tk.tkR, Rt.rtR, Cu.cuR, Cu.cuB, Cu.blks_mid, List.length_nil, List.cons_append, List.nil_append, List.append_nil, List.count_cons, List.count_append, List.count_nil]; omega) hm (fun hb hsp h => Sp.spool_add I.bs S.T.1 S.T.2.1 S.T.2.2 S.cur e w0 _ h hc (by omega) (by omega) (by omega)) ?_
  rintro v Rs' ⟨A', c', rfl, rfl⟩
  refine ⟨_, ⟨rfl, A', c', rfl⟩, ?_⟩
  rw [Sp.spSet_eq]
  exact (by classical exact List.perm_iff_count.2 fun a => by simp only [qR, txB, Sp.spT, Sp.spR, Sp.get3, Tk.tkR, Rt.rtR, Cu.cuR, Cu.cuB, Cu.blks_mid, List.length_nil, List.cons_append, List.nil_append, List.append_nil, List.count_cons, List.count_append, List.count_nil]; omega)
theorem qs_forget (I : QI) (S : QS) (x : Int) (hl : Sp.len3 S.T ≤ 10000) (w0 : World) (hfs : List PH) (hm : Mod hfs (qR I S) w0) :
    Calls Tryz.prog 88 #[pv I.bs, .int .i64 x] w0 fun e' w' => ∃ v Rs', e' = .returned v ∧ (v = .int .i64 ((S.T.1.xs.length + S.T.2.1.xs.length + S.T.2.2.xs.length : Nat) - ((Sp.tf x S.T.1).xs.length + (Sp.tf x S.T.2.1).xs.length + (Sp.tf x S.T.2.2).xs.length : Nat) : Int) ∧ Rs' = qR I { S with T := (Sp.tf x S.T.1, Sp.tf x S.T.2.1, Sp.tf x S.T.2.2) }) ∧ Mod hfs Rs' w' ∧ Oth w0 w' := by
  have h0 := Sp.len3_le S.T 0 (by omega)
  have h1 := Sp.len3_le S.T 1 (by omega)
  have h2 := Sp.len3_le S.T 2 (by omega)
  simp only [Sp.get3, Sp.pick3] at h0 h1 h2
  refine part_call (Sp.spT I.bs S.T S.cur) ([qBI I S.nx] ++ (txB I.m I.b1 I.b2 S.s ++ (Tk.tkR I.bt S.tA S.tc S.ts S.last ++ (Rt.rtR I.br S.rA S.rc S.xs ++ Cu.cuR I.bc I.bm S.cs)))) (by classical exact List.perm_iff_count.2 fun a => by simp only [qR, txB, Sp.spT, Sp.spR, Sp.get3, Tk.tkR, Rt.rtR, Cu.cuR, Cu.cuB, Cu.blks_mid, List.length_nil, List.cons_append, List.nil_append, List.append_nil, List.count_cons, List.count_append, List.count_nil]; omega) hm (fun hb hsp h => Sp.spool_forget I.bs S.T.1 S.T.2.1 S.T.2.2 S.cur x w0 _ h (by omega) (by omega) (by omega)) ?_
  rintro v Rs' ⟨rfl, rfl⟩
  exact ⟨_, ⟨rfl, rfl⟩, (by classical exact List.perm_iff_count.2 fun a => by simp only [qR, txB, Sp.spT, Sp.spR, Sp.get3, Tk.tkR, Rt.rtR, Cu.cuR, Cu.cuB, Cu.blks_mid, List.length_nil, List.cons_append, List.nil_append, List.append_nil, List.count_cons, List.count_append, List.count_nil]; omega)⟩
theorem qs_register (I : QI) (S : QS) (name : ByteArray) (at_ : Int) (w0 : World) (hfs : List PH) (hm : Mod hfs (qR I S) w0) :
    Calls Tryz.prog 85 #[pv I.bc, .string name, .int .i64 at_] w0 fun e' w' => ∃ v Rs', e' = .returned v ∧ (v = .int .i64 (Cu.regE name at_ (Cu.alOf S.cs)) ∧ ∃ q, Rs' = qR I { S with cs := Cu.regSt name at_ q S.cs }) ∧ Mod hfs Rs' w' ∧ Oth w0 w' := by
  refine part_call (Cu.cuR I.bc I.bm S.cs) ([qBI I S.nx] ++ (txB I.m I.b1 I.b2 S.s ++ (Sp.spT I.bs S.T S.cur ++ (Tk.tkR I.bt S.tA S.tc S.ts S.last ++ (Rt.rtR I.br S.rA S.rc S.xs))))) (by classical exact List.perm_iff_count.2 fun a => by simp only [qR, txB, Sp.spT, Sp.spR, Sp.get3, Tk.tkR, Rt.rtR, Cu.cuR, Cu.cuB, Cu.blks_mid, List.length_nil, List.cons_append, List.nil_append, List.append_nil, List.count_cons, List.count_append, List.count_nil]; omega) hm (fun hb hsp h => Cu.cuR_register I.bc I.bm S.cs name at_ w0 _ h) ?_
  rintro v Rs' ⟨rfl, q, rfl⟩
  exact ⟨_, ⟨rfl, q, rfl⟩, (by classical exact List.perm_iff_count.2 fun a => by simp only [qR, txB, Sp.spT, Sp.spR, Sp.get3, Tk.tkR, Rt.rtR, Cu.cuR, Cu.cuB, Cu.blks_mid, List.length_nil, List.cons_append, List.nil_append, List.append_nil, List.count_cons, List.count_append, List.count_nil]; omega)⟩
theorem qs_unregister (I : QI) (S : QS) (name : ByteArray) (w0 : World) (hfs : List PH) (hm : Mod hfs (qR I S) w0) :
    Calls Tryz.prog 105 #[pv I.bc, .string name] w0 fun e' w' => ∃ v Rs', e' = .returned v ∧ (v = .int .i64 (if (aget name (Cu.alOf S.cs)).isSome then 0 else 4) ∧ Rs' = qR I { S with cs := Cu.delSt name S.cs }) ∧ Mod hfs Rs' w' ∧ Oth w0 w' := by
  refine part_call (Cu.cuR I.bc I.bm S.cs) ([qBI I S.nx] ++ (txB I.m I.b1 I.b2 S.s ++ (Sp.spT I.bs S.T S.cur ++ (Tk.tkR I.bt S.tA S.tc S.ts S.last ++ (Rt.rtR I.br S.rA S.rc S.xs))))) (by classical exact List.perm_iff_count.2 fun a => by simp only [qR, txB, Sp.spT, Sp.spR, Sp.get3, Tk.tkR, Rt.rtR, Cu.cuR, Cu.cuB, Cu.blks_mid, List.length_nil, List.cons_append, List.nil_append, List.append_nil, List.count_cons, List.count_append, List.count_nil]; omega) hm (fun hb hsp h => Cu.cuR_unregister I.bc I.bm S.cs name w0 _ h) ?_
  rintro v Rs' ⟨rfl, rfl⟩
  exact ⟨_, ⟨rfl, rfl⟩, (by classical exact List.perm_iff_count.2 fun a => by simp only [qR, txB, Sp.spT, Sp.spR, Sp.get3, Tk.tkR, Rt.rtR, Cu.cuR, Cu.cuB, Cu.blks_mid, List.length_nil, List.cons_append, List.nil_append, List.append_nil, List.count_cons, List.count_append, List.count_nil]; omega)⟩
theorem qs_drop (I : QI) (S : QS) (name : ByteArray) (hl : S.xs.length ≤ 1000) (w0 : World) (hfs : List PH) (hm : Mod hfs (qR I S) w0) :
    Calls Tryz.prog 106 #[pv I.br, .string name] w0 fun e' w' => ∃ v Rs', e' = .returned v ∧ (v = .int .i64 ((S.xs.length : Int) - (Rt.leftL name S.xs).length) ∧ Rs' = qR I { S with xs := Rt.leftL name S.xs }) ∧ Mod hfs Rs' w' ∧ Oth w0 w' := by
  refine part_call (Rt.rtR I.br S.rA S.rc S.xs) ([qBI I S.nx] ++ (txB I.m I.b1 I.b2 S.s ++ (Sp.spT I.bs S.T S.cur ++ (Tk.tkR I.bt S.tA S.tc S.ts S.last ++ (Cu.cuR I.bc I.bm S.cs))))) (by classical exact List.perm_iff_count.2 fun a => by simp only [qR, txB, Sp.spT, Sp.spR, Sp.get3, Tk.tkR, Rt.rtR, Cu.cuR, Cu.cuB, Cu.blks_mid, List.length_nil, List.cons_append, List.nil_append, List.append_nil, List.count_cons, List.count_append, List.count_nil]; omega) hm (fun hb hsp h => Rt.retry_drop I.br S.rA S.rc S.xs name (by omega) w0 _ h) ?_
  rintro v Rs' ⟨rfl, rfl⟩
  exact ⟨_, ⟨rfl, rfl⟩, (by classical exact List.perm_iff_count.2 fun a => by simp only [qR, txB, Sp.spT, Sp.spR, Sp.get3, Tk.tkR, Rt.rtR, Cu.cuR, Cu.cuB, Cu.blks_mid, List.length_nil, List.cons_append, List.nil_append, List.append_nil, List.count_cons, List.count_append, List.count_nil]; omega)⟩
theorem qs_now (I : QI) (S : QS) (R : List Int) (hal : Alike S.s R) (h6 : (pos 1 R).length ≤ 6) (w0 : World) (hfs : List PH) (hm : Mod hfs (qR I S) w0) :
    Calls Tryz.prog 31 #[pv I.m] w0 fun e' w' => ∃ v Rs', e' = .returned v ∧ (∃ A c, v = snV S.s.next A (pos 1 R).length c ∧ Rs' = own (RX.encI .i64) 1 2 A c (pos 1 R) :: qR I S) ∧ Mod hfs Rs' w' ∧ Oth w0 w' := by
  refine part_call (txB I.m I.b1 I.b2 S.s) ([qBI I S.nx] ++ (Sp.spT I.bs S.T S.cur ++ (Tk.tkR I.bt S.tA S.tc S.ts S.last ++ (Rt.rtR I.br S.rA S.rc S.xs ++ Cu.cuR I.bc I.bm S.cs)))) (by classical exact List.perm_iff_count.2 fun a => by simp only [qR, txB, Sp.spT, Sp.spR, Sp.get3, Tk.tkR, Rt.rtR, Cu.cuR, Cu.cuB, Cu.blks_mid, List.length_nil, List.cons_append, List.nil_append, List.append_nil, List.count_cons, List.count_append, List.count_nil]; omega) hm (fun hb hsp h => txn_now I.m I.b1 I.b2 S.s (by rw [hal.O]; omega) w0 _ h) ?_
  rintro v Rs' ⟨A, c, ks, rfl, hp, hr, rfl⟩
  obtain rfl : ks = pos 1 R := open_is (by rw [← hal.O]; exact hp) hr
  exact ⟨_, ⟨A, c, rfl, rfl⟩, (by classical exact List.perm_iff_count.2 fun a => by simp only [qR, txB, Sp.spT, Sp.spR, Sp.get3, Tk.tkR, Rt.rtR, Cu.cuR, Cu.cuB, Cu.blks_mid, List.length_nil, List.cons_append, List.nil_append, List.append_nil, List.count_cons, List.count_append, List.count_nil]; omega)⟩
end Go.Proofs.YthpcahgdobnljaaGreat

/- What the functions of package queue do: Write, Forget, Register, Unregister, Finish, Tick. -/
set_option maxRecDepth 100000
set_option autoImplicit false
set_option linter.unusedVariables false
set_option linter.unusedSimpArgs false
namespace Go.Proofs.YthpcahgdobnljaaGreat
open Go.RX Go Go.RowKit


abbrev evW (S : QS) (x table kind key : Int) (text : ByteArray) : EventM := ⟨S.nx, x, ⟨#[]⟩, 0, table, kind, key, text⟩
abbrev QS.put (S : QS) (A : Option Addr) (c : Nat) (e : EventM) : QS := { S with T := Sp.set3 S.T S.cur ⟨A, c, (Sp.get3 S.T S.cur).xs ++ [e]⟩ }
set_option maxHeartbeats 1000000 in
theorem q_write (I : QI) (S : QS) (x table kind key : Int) (text : ByteArray) (hc : S.cur < 3) (hl : Sp.len3 S.T ≤ 100000) (hnx : 0 ≤ S.nx ∧ S.nx ≤ 1000000) (w0 : World) (hfs : List PH) (hm : Mod hfs (qR I S) w0) :
    Calls Tryz.prog 26 #[pv I.q, .int .i64 x, .int .i64 table, .int .u8 kind, .agg #[.int .i64 key, .string text]] w0 fun e w' => ∃ v Rs', e = .returned v ∧ (v = mkE (evW S x table kind key text) ∧ ∃ A c, Rs' = qR I { S.put A c (evW S x table kind key text) with nx := S.nx + 1 }) ∧ Mod hfs Rs' w' ∧ Oth w0 w' := by
  refine enterN (tab := tab) Tryz.func26 rfl Tryz.ntmps26 rfl (args := [_, _, _, _, _]) rfl hm ?_
  refine VC_sound tabOk 100 ?_
  intro b9 _ b10 _
  refine Go_res (.blk b10 65 (encE zeroE) :: .blk b9 63 [.int .i64 key, .string text] :: qR I S) (fun _ h => h) ?_
  show Go _ _ _ _
  refine Go_any mixed [10] [(0, false), (1, false), (2, false), (4, false), (5, false), (6, false), (3, false), (7, false), (8, false), (9, true), (10, true)] rfl (by kernel_rfl) (by kernel_rfl) [.blk b9 63 [.int .i64 key, .string text], qBI I S.nx] (fun _ => True) (fun _ _ _ h => h) (fun w hm _ => ⟨Holds.of_idx [1, 2] hm, trivial⟩) ?_
  refine VC_sound tabOk 100 ?_
  (repeat (first | refine Or.inl ⟨rfl, rfl, ?_⟩ | refine Or.inl ⟨rfl, ?_⟩ | refine Or.inr ?_))
  intro b11 _
  (repeat (first | refine Or.inl ⟨rfl, rfl, ?_⟩ | refine Or.inl ⟨rfl, ?_⟩ | refine Or.inr ?_))
  refine ⟨_, wrap_i64 (n := S.nx + 1) (by omega) (by omega), ?_⟩
  (repeat (first | refine Or.inl ⟨rfl, rfl, ?_⟩ | refine Or.inl ⟨rfl, ?_⟩ | refine Or.inr ?_))
  refine Go_res (.blk b11 65 (encE (evW S x table kind key text)) :: .blk b10 65 (encE zeroE) :: .blk b9 63 [.int .i64 key, .string text] :: qR I { S with nx := S.nx + 1 }) (fun _ h => h) ?_
  show Go _ _ _ _
  refine Go_any mixed [5] [(0, false), (1, false), (2, false), (3, false), (4, false), (5, true)] rfl (by kernel_rfl) (by kernel_rfl) [.blk b11 65 (encE (evW S x table kind key text)), qBI I (S.nx + 1)] (fun _ => True) (fun _ _ _ h => h) (fun w hm _ => ⟨Holds.of_idx [0, 3] hm, trivial⟩) ?_
  refine VC_sound tabOk 100 ?_
  (repeat (first | refine Or.inl ⟨rfl, rfl, ?_⟩ | refine Or.inl ⟨rfl, ?_⟩ | refine Or.inr ?_))
  refine Go_aloneM rfl rfl rfl (OpTo_tcall [.blk b11 65 (encE (evW S x table kind key text)), .blk b10 65 (encE zeroE), .blk b9 63 [.int .i64 key, .string text]] (qR I { S with nx := S.nx + 1 }) rfl rfl rfl rfl rfl rfl (by kernel_rfl) (fun w hb hm hio hsp k => qs_add I { S with nx := S.nx + 1 } (evW S x table kind key text) hc hl w _ k) ?_)
  rintro _ _ ⟨rfl, A, c, rfl⟩
  refine VC_sound tabOk 100 ?_
  (repeat (first | refine Or.inl ⟨rfl, rfl, ?_⟩ | refine Or.inl ⟨rfl, ?_⟩ | refine Or.inr ?_))
  exact ⟨_, ⟨rfl, A, c, rfl⟩, fun _ _ h => h.drop (a := [_, _, _])⟩

theorem q_forget (I : QI) (S : QS) (x : Int) (hl : Sp.len3 S.T ≤ 10000) (w0 : World) (hfs : List PH) (hm : Mod hfs (qR I S) w0) :
    Calls Tryz.prog 29 #[pv I.q, .int .i64 x] w0 fun e w' => ∃ v Rs', e = .returned v ∧ (v = .int .i64 ((S.T.1.xs.length + S.T.2.1.xs.length + S.T.2.2.xs.length : Nat) - ((Sp.tf x S.T.1).xs.length + (Sp.tf x S.T.2.1).xs.length + (Sp.tf x S.T.2.2).xs.length : Nat) : Int) ∧ Rs' = qR I { S with T := (Sp.tf x S.T.1, Sp.tf x S.T.2.1, Sp.tf x S.T.2.2) }) ∧ Mod hfs Rs' w' ∧ Oth w0 w' := by
  refine enterN (tab := tab) Tryz.func29 rfl Tryz.ntmps29 rfl (args := [_, _]) rfl hm ?_
  refine VC_sound tabOk 100 ?_
  refine Go_ops rfl (OpTo_pcall (v := pv I.bs) rfl rfl rfl rfl rfl (by kernel_rfl) (fun w hm _ => q_spools I S.nx w (hm.blk_at (i := 0) rfl)) ?_)
  refine VC_sound tabOk 100 ?_
  refine Go_ops rfl (OpTo_tcall [] (qR I S) rfl rfl rfl rfl rfl rfl (by kernel_rfl) (fun w hb hm hio hsp k => qs_forget I S x hl w _ k) ?_)
  rintro _ _ ⟨rfl, rfl⟩
  refine VC_sound tabOk 100 ?_
  exact ⟨_, ⟨rfl, rfl⟩, fun _ _ h => h⟩

abbrev QS.reg (S : QS) (name : ByteArray) (q : Nat) : QS := { S with cs := if S.last = 0 then S.cs else Cu.regSt name S.last q S.cs }
def regQ (S : QS) (name : ByteArray) : Int := if S.last = 0 then 9 else Cu.regE name S.last (Cu.alOf S.cs)
set_option maxHeartbeats 1000000 in
theorem q_register (I : QI) (S : QS) (name : ByteArray) (w0 : World) (hfs : List PH) (hm : Mod hfs (qR I S) w0) :
    Calls Tryz.prog 22 #[pv I.q, .string name] w0 fun e w' => ∃ v Rs', e = .returned v ∧ (v = .int .i64 (regQ S name) ∧ ∃ q, Rs' = qR I (S.reg name q)) ∧ Mod hfs Rs' w' ∧ Oth w0 w' := by
  refine enterN (tab := tab) Tryz.func22 rfl Tryz.ntmps22 rfl (args := [_, _]) rfl hm ?_
  refine VC_sound tabOk 100 ?_
  (repeat (first | refine Or.inl ⟨rfl, rfl, ?_⟩ | refine Or.inl ⟨rfl, ?_⟩ | refine Or.inr ?_))
  refine Go_ops rfl (OpTo_pcall (v := .int .i64 S.last) rfl rfl rfl rfl rfl (by kernel_rfl) (fun w hm _ => Tk.tick_last I.bt S.tA S.ts.length S.tc S.last w (hm.blk_at (i := 8) rfl)) ?_)
  refine VC_sound tabOk 100 ?_
  refine ⟨fun g => ?_, fun g => ?_⟩
  · have h0 : S.last = 0 := of_decide_eq_true g
    refine ⟨_, ⟨by rw [regQ, if_pos h0]; rfl, 0, ?_⟩, fun _ _ h => h⟩
    simp only [QS.reg, if_pos h0]
  have h0 : ¬ S.last = 0 := of_decide_eq_false g
  show Go _ _ _ _
  refine Go_any mixed [] [(0, false), (1, false), (2, false), (4, false), (5, false), (6, false), (7, false), (3, false), (8, false), (9, true), (10, true), (11, false)] rfl (by kernel_rfl) (by kernel_rfl) [qBI I S.nx] (fun _ => True) (fun _ _ _ h => h) (fun w hm _ => ⟨Holds.of_idx [0] hm, trivial⟩) ?_
  refine VC_sound tabOk 100 ?_
  (repeat (first | refine Or.inl ⟨rfl, rfl, ?_⟩ | refine Or.inl ⟨rfl, ?_⟩ | refine Or.inr ?_))
  refine Go_aloneL rfl rfl (OpTo_pcall (v := .int .i64 S.last) rfl rfl rfl rfl rfl (by kernel_rfl) (fun w hm _ => Tk.tick_last I.bt S.tA S.ts.length S.tc S.last w (hm.blk_at (i := 8) rfl)) ?_)
  refine And.intro (fun w hm _ => ⟨Holds.of_idx [0] hm, trivial⟩) ?_
  refine VC_sound tabOk 100 ?_
  refine Go_aloneL rfl rfl (OpTo_tcall [] (qR I S) rfl rfl rfl rfl rfl rfl (by kernel_rfl) (fun w hb hm hio hsp k => qs_register I S name S.last w _ k) ?_)
  rintro _ _ ⟨rfl, q, rfl⟩
  refine And.intro (fun w hm _ => ⟨Holds.of_idx [0] hm, trivial⟩) ?_
  refine VC_sound tabOk 100 ?_
  refine ⟨_, ⟨by rw [regQ, if_neg h0]; rfl, q, ?_⟩, fun _ _ h => h⟩
  simp only [QS.reg, if_neg h0]
  rfl

abbrev QS.unr (S : QS) (name : ByteArray) : QS := { S with cs := Cu.delSt name S.cs, xs := if (aget name (Cu.alOf S.cs)).isSome then Rt.leftL name S.xs else S.xs }
set_option maxHeartbeats 1000000 in
theorem q_unregister (I : QI) (S : QS) (name : ByteArray) (hl : S.xs.length ≤ 1000) (w0 : World) (hfs : List PH) (hm : Mod hfs (qR I S) w0) :
    Calls Tryz.prog 40 #[pv I.q, .string name] w0 fun e w' => ∃ v Rs', e = .returned v ∧ (v = .int .i64 (if (aget name (Cu.alOf S.cs)).isSome then 0 else 4) ∧ Rs' = qR I (S.unr name)) ∧ Mod hfs Rs' w' ∧ Oth w0 w' := by
  refine enterN (tab := tab) Tryz.func40 rfl Tryz.ntmps40 rfl (args := [_, _]) rfl hm ?_
  refine VC_sound tabOk 100 ?_
  refine Go_ops rfl (OpTo_pcall (v := pv I.bc) rfl rfl rfl rfl rfl (by kernel_rfl) (fun w hm _ => q_cursors I S.nx w (hm.blk_at (i := 0) rfl)) ?_)
  refine VC_sound tabOk 100 ?_
  refine Go_ops rfl (OpTo_tcall [] (qR I S) rfl rfl rfl rfl rfl rfl (by kernel_rfl) (fun w hb hm hio hsp k => qs_unregister I S name w _ k) ?_)
  rintro _ _ ⟨rfl, rfl⟩
  cases hs : (aget name (Cu.alOf S.cs)).isSome with
  | true =>
    simp only [if_true]
    refine VC_sound tabOk 100 ?_
    refine ⟨fun _ => ?_, fun h => by simp at h⟩
    (repeat (first | refine Or.inl ⟨rfl, rfl, ?_⟩ | refine Or.inl ⟨rfl, ?_⟩ | refine Or.inr ?_))
    refine Go_ops rfl (OpTo_tcall [] (qR I { S with cs := Cu.delSt name S.cs }) rfl rfl rfl rfl rfl rfl (by kernel_rfl) (fun w hb hm hio hsp k => qs_drop I { S with cs := Cu.delSt name S.cs } name hl w _ k) ?_)
    rintro _ _ ⟨rfl, rfl⟩
    refine VC_sound tabOk 100 ?_
    exact ⟨_, ⟨rfl, by simp only [QS.unr, hs, if_true, List.nil_append]⟩, fun _ _ h => h⟩
  | false =>
    simp only [Bool.false_eq_true, if_false]
    refine VC_sound tabOk 100 ?_
    refine ⟨fun h => by first | (simp at h; done) | (simp at h; omega) | (simp_all; done), fun _ => ?_⟩
    exact ⟨_, ⟨rfl, by simp only [QS.unr, hs, Bool.false_eq_true, if_false, List.nil_append]⟩, fun _ _ h => h⟩

theorem qs_finish (I : QI) (S : QS) (cs1 cs2 : Cu.Cs) (x : Cu.CurV) (q : Nat) (hcs : S.cs = cs1 ++ (x, q) :: cs2) (hr : aget x.name (Cu.alOf S.cs) = some q) (w0 : World) (hfs : List PH) (hm : Mod hfs (qR I S) w0) :
    Calls Tryz.prog 100 #[pv I.bc, .string x.name] w0 fun e w' => ∃ v Rs', e = .returned v ∧ (v = (if x.opn = 0 then .tuple #[.int .i64 0, .int .i64 7] else .tuple #[.int .i64 x.opn, .int .i64 0]) ∧ Rs' = qR I { S with cs := cs1 ++ ((if x.opn = 0 then x else ⟨x.name, x.opn, 0⟩), q) :: cs2 }) ∧ Mod hfs Rs' w' ∧ Oth w0 w' := by
  obtain ⟨T, cur, tA, tc, ts, last, cs, rA, rc, xs, nx, s⟩ := S
  dsimp only at hcs hr
  subst hcs
  refine part_call (Cu.cuR I.bc I.bm (cs1 ++ (x, q) :: cs2)) ([qBI I nx] ++ (txB I.m I.b1 I.b2 s ++ (Sp.spT I.bs T cur ++ (Tk.tkR I.bt tA tc ts last ++ (Rt.rtR I.br rA rc xs))))) (by classical exact List.perm_iff_count.2 fun a => by simp only [qR, txB, Sp.spT, Sp.spR, Sp.get3, Tk.tkR, Rt.rtR, Cu.cuR, Cu.cuB, Cu.blks_mid, List.length_nil, List.cons_append, List.nil_append, List.append_nil, List.count_cons, List.count_append, List.count_nil]; omega) hm (fun hb hsp h => Cu.cuR_lift (f := 100) (if x.opn = 0 then x else ⟨x.name, x.opn, 0⟩) (by split <;> rfl) (fun w0 hfs h => Cu.cu_finish I.bc I.bm q _ x.name x hr w0 hfs h) w0 _ h) ?_
  rintro v Rs' ⟨rfl, rfl⟩
  exact ⟨_, ⟨rfl, rfl⟩, (by classical exact List.perm_iff_count.2 fun a => by simp only [qR, txB, Sp.spT, Sp.spR, Sp.get3, Tk.tkR, Rt.rtR, Cu.cuR, Cu.cuB, Cu.blks_mid, List.length_nil, List.cons_append, List.nil_append, List.append_nil, List.count_cons, List.count_append, List.count_nil]; omega)⟩
theorem qs_finish_none (I : QI) (S : QS) (name : ByteArray) (hr : aget name (Cu.alOf S.cs) = none) (w0 : World) (hfs : List PH) (hm : Mod hfs (qR I S) w0) :
    Calls Tryz.prog 100 #[pv I.bc, .string name] w0 fun e w' => ∃ v Rs', e = .returned v ∧ (v = .tuple #[.int .i64 0, .int .i64 4] ∧ Rs' = qR I S) ∧ Mod hfs Rs' w' ∧ Oth w0 w' := by
  refine part_call (Cu.cuR I.bc I.bm S.cs) ([qBI I S.nx] ++ (txB I.m I.b1 I.b2 S.s ++ (Sp.spT I.bs S.T S.cur ++ (Tk.tkR I.bt S.tA S.tc S.ts S.last ++ (Rt.rtR I.br S.rA S.rc S.xs))))) (by classical exact List.perm_iff_count.2 fun a => by simp only [qR, txB, Sp.spT, Sp.spR, Sp.get3, Tk.tkR, Rt.rtR, Cu.cuR, Cu.cuB, Cu.blks_mid, List.length_nil, List.cons_append, List.nil_append, List.append_nil, List.count_cons, List.count_append, List.count_nil]; omega) hm (fun hb hsp h => Cu.cuR_none (f := 100) (fun w0 hfs h => Cu.cu_finish_none I.bc I.bm _ name hr w0 hfs h) w0 _ h) ?_
  rintro v Rs' ⟨rfl, rfl⟩
  exact ⟨_, ⟨rfl, rfl⟩, (by classical exact List.perm_iff_count.2 fun a => by simp only [qR, txB, Sp.spT, Sp.spR, Sp.get3, Tk.tkR, Rt.rtR, Cu.cuR, Cu.cuB, Cu.blks_mid, List.length_nil, List.cons_append, List.nil_append, List.append_nil, List.count_cons, List.count_append, List.count_nil]; omega)⟩
theorem q_finish (I : QI) (S : QS) (cs1 cs2 : Cu.Cs) (x : Cu.CurV) (q : Nat) (hcs : S.cs = cs1 ++ (x, q) :: cs2) (hr : aget x.name (Cu.alOf S.cs) = some q) (w0 : World) (hfs : List PH) (hm : Mod hfs (qR I S) w0) :
    Calls Tryz.prog 36 #[pv I.q, .string x.name] w0 fun e w' => ∃ v Rs', e = .returned v ∧ (v = (if x.opn = 0 then .tuple #[.int .i64 0, .int .i64 7] else .tuple #[.int .i64 x.opn, .int .i64 0]) ∧ Rs' = qR I { S with cs := cs1 ++ ((if x.opn = 0 then x else ⟨x.name, x.opn, 0⟩), q) :: cs2 }) ∧ Mod hfs Rs' w' ∧ Oth w0 w' := by
  refine enterN (tab := tab) Tryz.func36 rfl Tryz.ntmps36 rfl (args := [_, _]) rfl hm ?_
  refine VC_sound tabOk 100 ?_
  refine Go_ops rfl (OpTo_pcall (v := pv I.bc) rfl rfl rfl rfl rfl (by kernel_rfl) (fun w hm _ => q_cursors I S.nx w (hm.blk_at (i := 0) rfl)) ?_)
  refine VC_sound tabOk 100 ?_
  refine Go_ops rfl (OpTo_tcall [] (qR I S) rfl rfl rfl rfl rfl rfl (by kernel_rfl) (fun w hb hm hio hsp k => qs_finish I S cs1 cs2 x q hcs hr w _ k) ?_)
  rintro _ _ ⟨rfl, rfl⟩
  by_cases h0 : x.opn = 0
  · simp only [if_pos h0]
    refine VC_sound tabOk 100 ?_
    exact ⟨_, ⟨rfl, rfl⟩, fun _ _ h => h⟩
  · simp only [if_neg h0]
    refine VC_sound tabOk 100 ?_
    exact ⟨_, ⟨rfl, rfl⟩, fun _ _ h => h⟩
theorem q_finish_none (I : QI) (S : QS) (name : ByteArray) (hr : aget name (Cu.alOf S.cs) = none) (w0 : World) (hfs : List PH) (hm : Mod hfs (qR I S) w0) :
    Calls Tryz.prog 36 #[pv I.q, .string name] w0 fun e w' => ∃ v Rs', e = .returned v ∧ (v = .tuple #[.int .i64 0, .int .i64 4] ∧ Rs' = qR I S) ∧ Mod hfs Rs' w' ∧ Oth w0 w' := by
  refine enterN (tab := tab) Tryz.func36 rfl Tryz.ntmps36 rfl (args := [_, _]) rfl hm ?_
  refine VC_sound tabOk 100 ?_
  refine Go_ops rfl (OpTo_pcall (v := pv I.bc) rfl rfl rfl rfl rfl (by kernel_rfl) (fun w hm _ => q_cursors I S.nx w (hm.blk_at (i := 0) rfl)) ?_)
  refine VC_sound tabOk 100 ?_
  refine Go_ops rfl (OpTo_tcall [] (qR I S) rfl rfl rfl rfl rfl rfl (by kernel_rfl) (fun w hb hm hio hsp k => qs_finish_none I S name hr w _ k) ?_)
  rintro _ _ ⟨rfl, rfl⟩
  refine VC_sound tabOk 100 ?_
  exact ⟨_, ⟨rfl, rfl⟩, fun _ _ h => h⟩

/-! ### Tick -/
abbrev QS.tick (S : QS) (A1 : Option Addr) (c1 : Nat) (A2 : Option Addr) (c2 : Nat) (R : List Int) (now : Int) : QS := { S with tA := A2, tc := c2, ts := S.ts ++ [⟨S.last + 1, S.s.next, A1, c1, pos 1 R, now⟩], last := S.last + 1 }
def tickQ (I : QI) (S : QS) (R : List Int) (now : Int) : Value → List Res → Prop := fun v Rs =>
  (Tk.tkAdd S.ts S.s.next (pos 1 R) now ≠ 0 ∧ v = .tuple #[Tk.mkT Tk.zeroT, .int .i64 (Tk.tkAdd S.ts S.s.next (pos 1 R) now)] ∧ Rs = qR I S) ∨
  (Tk.tkAdd S.ts S.s.next (pos 1 R) now = 0 ∧ ∃ A1 c1 A2 c2 A3 c3, v = .tuple #[Tk.mkT ⟨S.last + 1, S.s.next, A3, c3, pos 1 R, now⟩, .int .i64 0] ∧ Rs = own (RX.encI .i64) 1 2 A3 c3 (pos 1 R) :: qR I (S.tick A1 c1 A2 c2 R now))
set_option maxHeartbeats 1000000 in
theorem qs_tick (I : QI) (S : QS) (R : List Int) (now : Int) (A : Option Addr) (d : Nat) (h6 : (pos 1 R).length ≤ 6) (hf : Tk.TkFit S.ts) (hmx : -9223372036854775808 ≤ S.s.next ∧ S.s.next ≤ 9223372036854775807) (hl : 0 ≤ S.last ∧ S.last ≤ 1000000) (ht : S.ts.length ≤ 1000000) (w0 : World) (hfs : List PH) (hm : Mod hfs (qR I S) w0) (hS : RdF hfs A ((pos 1 R).flatMap (RX.encI .i64))) :
    Calls Tryz.prog 84 #[pv I.bt, snV S.s.next A (pos 1 R).length d, .int .i64 now] w0 fun e w' => ∃ v Rs', e = .returned v ∧ tickQ I S R now v Rs' ∧ Mod hfs Rs' w' ∧ Oth w0 w' := by
  refine part_call (Tk.tkR I.bt S.tA S.tc S.ts S.last) ([qBI I S.nx] ++ (txB I.m I.b1 I.b2 S.s ++ (Sp.spT I.bs S.T S.cur ++ (Rt.rtR I.br S.rA S.rc S.xs ++ Cu.cuR I.bc I.bm S.cs)))) (by classical exact List.perm_iff_count.2 fun a => by simp only [qR, txB, Sp.spT, Sp.spR, Sp.get3, Tk.tkR, Rt.rtR, Cu.cuR, Cu.cuB, Cu.blks_mid, List.length_nil, List.cons_append, List.nil_append, List.append_nil, List.count_cons, List.count_append, List.count_nil]; omega) hm (fun hb hsp h => Tk.tick_add I.bt S.tA S.tc S.ts S.last S.s.next A d (pos 1 R) now w0 _ h (fun Rs w h => hS _ w (hsp Rs w h)) (by omega) hf hmx hl ht) ?_
  rintro v Rs' (⟨h0, rfl, rfl⟩ | ⟨h0, A1, c1, A2, c2, A3, c3, rfl, rfl⟩)
  · exact ⟨_, .inl ⟨h0, rfl, rfl⟩, (by classical exact List.perm_iff_count.2 fun a => by simp only [qR, txB, Sp.spT, Sp.spR, Sp.get3, Tk.tkR, Rt.rtR, Cu.cuR, Cu.cuB, Cu.blks_mid, List.length_nil, List.cons_append, List.nil_append, List.append_nil, List.count_cons, List.count_append, List.count_nil]; omega)⟩
  · exact ⟨_, .inr ⟨h0, A1, c1, A2, c2, A3, c3, rfl, rfl⟩, (by classical exact List.perm_iff_count.2 fun a => by simp only [qR, txB, Sp.spT, Sp.spR, Sp.get3, Tk.tkR, Rt.rtR, Cu.cuR, Cu.cuB, Cu.blks_mid, List.length_nil, List.cons_append, List.nil_append, List.append_nil, List.count_cons, List.count_append, List.count_nil]; omega)⟩
set_option maxHeartbeats 1000000 in
theorem q_tick (I : QI) (S : QS) (R : List Int) (now : Int) (hal : Alike S.s R) (h6 : (pos 1 R).length ≤ 6) (hf : Tk.TkFit S.ts) (hR : R.length ≤ 1000000) (hl : 0 ≤ S.last ∧ S.last ≤ 1000000) (ht : S.ts.length ≤ 1000000) (w0 : World) (hfs : List PH) (hm : Mod hfs (qR I S) w0) :
    Calls Tryz.prog 21 #[pv I.q, .int .i64 now] w0 fun e w' => ∃ v Rs', e = .returned v ∧ tickQ I S R now v Rs' ∧ Mod hfs Rs' w' ∧ Oth w0 w' := by
  have hnx := hal.next
  refine enterN (tab := tab) Tryz.func21 rfl Tryz.ntmps21 rfl (args := [_, _]) rfl hm ?_
  refine VC_sound tabOk 100 ?_
  intro b4 _
  (repeat (first | refine Or.inl ⟨rfl, rfl, ?_⟩ | refine Or.inl ⟨rfl, ?_⟩ | refine Or.inr ?_))
  refine Go_res (.blk b4 44 (Tk.encT Tk.zeroT) :: qR I S) (fun _ h => h) ?_
  show Go _ _ _ _
  refine Go_any mixed [13] [(0, false), (1, false), (2, false), (4, false), (5, false), (6, false), (9, false), (3, false), (7, false), (8, true), (10, true), (11, false), (12, false), (13, true), (14, false)] rfl (by kernel_rfl) (by kernel_rfl) [qBI I S.nx] (fun _ => True) (fun _ _ _ h => h) (fun w hm _ => ⟨Holds.of_idx [1] hm, trivial⟩) ?_
  refine VC_sound tabOk 100 ?_
  (repeat (first | refine Or.inl ⟨rfl, rfl, ?_⟩ | refine Or.inl ⟨rfl, ?_⟩ | refine Or.inr ?_))
  refine Go_aloneL rfl rfl (OpTo_tcall [.blk b4 44 (Tk.encT Tk.zeroT)] (qR I S) rfl rfl rfl rfl rfl rfl (by kernel_rfl) (fun w hb hm hio hsp k => qs_now I S R hal h6 w _ k) ?_)
  rintro _ _ ⟨A, d, rfl, rfl⟩
  refine And.intro (fun w hm _ => ⟨Holds.of_idx [2] hm, trivial⟩) ?_
  refine VC_sound tabOk 100 ?_
  refine Go_aloneL rfl rfl (OpTo_tcall [.blk b4 44 (Tk.encT Tk.zeroT), own (RX.encI .i64) 1 2 A d (pos 1 R)] (qR I S) rfl rfl rfl rfl rfl rfl (by kernel_rfl) (fun w hb hm hio hsp k => qs_tick I S R now A d h6 hf (by omega) hl ht w _ k (fun Rs w h => (hsp Rs w h).own_rd (i := 1) rfl)) ?_)
  rintro _ _ (⟨h0, rfl, rfl⟩ | ⟨h0, A1, c1, A2, c2, A3, c3, rfl, rfl⟩)
  · refine And.intro (fun w hm _ => ⟨Holds.of_idx [2] hm, trivial⟩) ?_
    refine VC_sound tabOk 100 ?_
    (repeat (first | refine Or.inl ⟨rfl, rfl, ?_⟩ | refine Or.inl ⟨rfl, ?_⟩ | refine Or.inr ?_))
    exact ⟨_, .inl ⟨h0, rfl, rfl⟩, fun _ _ h => h.drop (a := [_, _])⟩
  · refine And.intro (fun w hm _ => ⟨Holds.of_idx [3] hm, trivial⟩) ?_
    refine VC_sound tabOk 100 ?_
    (repeat (first | refine Or.inl ⟨rfl, rfl, ?_⟩ | refine Or.inl ⟨rfl, ?_⟩ | refine Or.inr ?_))
    exact ⟨_, .inr ⟨h0, A1, c1, A2, c2, A3, c3, rfl, rfl⟩, fun _ _ h => h.drop (a := [_, _])⟩
end Go.Proofs.YthpcahgdobnljaaGreat

/- What the functions of package queue do: Next, Batch. -/
set_option maxRecDepth 100000
set_option autoImplicit false
set_option linter.unusedVariables false
set_option linter.unusedSimpArgs false
namespace Go.Proofs.YthpcahgdobnljaaGreat
open Go.RX Go Go.RowKit


namespace Tk
abbrev reT (X : TickM) (A : Option Addr) (c : Nat) : TickM := ⟨X.n, X.mx, A, c, X.op, X.t⟩
abbrev fdT (p : TickM → Bool) (ts : List TickM) : TickM := (ts.find? p).getD zeroT
def fdQ (p : TickM → Bool) (ts : List TickM) : Value → List Res → Prop := fun v Rs => ∃ A c, v = .tuple #[mkT (reT (fdT p ts) A c), .bool (ts.find? p).isSome] ∧ Rs = [own (RX.encI .i64) 1 2 A c (fdT p ts).op]
theorem some_fd {p : TickM → Bool} {ts : List TickM} {v : Value} {Rs : List Res} {hfs : List PH} {w : World} (h : someQ p ts v Rs) (hm : Mod hfs Rs w) : ∃ Rs', fdQ p ts v Rs' ∧ Mod hfs Rs' w := by
  rcases h with ⟨h0, rfl, rfl⟩ | ⟨x, A, c, h0, rfl, rfl⟩
  · refine ⟨_, ⟨none, 0, ?_, rfl⟩, ?_⟩
    · simp only [fdT, h0]; rfl
    · simp only [fdT, h0]; exact hm.own_nil none
  · refine ⟨_, ⟨A, c, ?_, rfl⟩, ?_⟩
    · simp only [fdT, h0]; rfl
    · simp only [fdT, h0]; exact hm
theorem tick_getU (bt : Nat) (A : Option Addr) (c : Nat) (ts : List TickM) (last q : Int) (w0 : World) (hb : w0.heap[bt]? = some (.cells #[.slice A ts.length c, .int .i64 last] 131 (0, 0))) (hA : RdW w0 A (ts.flatMap encT)) (hB : ∀ t ∈ ts, RdI w0 t.A t.op) (hn : ts.length ≤ 1000000) (hf : TkFit ts) :
    Calls Tryz.prog 16 #[.pointer (some ⟨bt, 0, none⟩), .int .i64 q] w0 fun e w' => ∃ v Rs', e = .returned v ∧ fdQ (tkIs q) ts v Rs' ∧ Mod [heapOf w0] Rs' w' ∧ Oth w0 w' :=
  (tick_get bt A c ts last q w0 hb hA hB hn hf).mono fun e w' ⟨v, Rs', h1, h2, h3, h4⟩ => by
    obtain ⟨R2, k1, k2⟩ := some_fd h2 h3
    exact ⟨v, R2, h1, k1, k2, h4⟩
theorem tick_afterU (bt : Nat) (A : Option Addr) (c : Nat) (ts : List TickM) (last q : Int) (w0 : World) (hb : w0.heap[bt]? = some (.cells #[.slice A ts.length c, .int .i64 last] 131 (0, 0))) (hA : RdW w0 A (ts.flatMap encT)) (hB : ∀ t ∈ ts, RdI w0 t.A t.op) (hn : ts.length ≤ 1000000) (hf : TkFit ts) :
    Calls Tryz.prog 97 #[.pointer (some ⟨bt, 0, none⟩), .int .i64 q] w0 fun e w' => ∃ v Rs', e = .returned v ∧ fdQ (tkAft q) ts v Rs' ∧ Mod [heapOf w0] Rs' w' ∧ Oth w0 w' :=
  (tick_after bt A c ts last q w0 hb hA hB hn hf).mono fun e w' ⟨v, Rs', h1, h2, h3, h4⟩ => by
    obtain ⟨R2, k1, k2⟩ := some_fd h2 h3
    exact ⟨v, R2, h1, k1, k2, h4⟩
def Fit1 (ts : List TickM) : Prop := ∀ t ∈ ts, (0 ≤ t.mx ∧ t.mx ≤ 9223372036854775807) ∧ t.op.length ≤ 1000
theorem Fit1.fit {ts : List TickM} (h : Fit1 ts) : TkFit ts := fun t ht => ⟨(h t ht).1, by have := (h t ht).2; omega⟩
theorem Fit1.fd {ts : List TickM} (h : Fit1 ts) (p : TickM → Bool) : (fdT p ts).op.length ≤ 1000 := by
  unfold fdT
  cases hh : ts.find? p with
  | none => simp [zeroT]
  | some t => exact (h t (List.mem_of_find?_eq_some hh)).2
end Tk

theorem qs_get (I : QI) (S : QS) (cs1 cs2 : Cu.Cs) (x : Cu.CurV) (q : Nat) (hcs : S.cs = cs1 ++ (x, q) :: cs2) (hr : aget x.name (Cu.alOf S.cs) = some q) (w0 : World) (hfs : List PH) (hm : Mod hfs (qR I S) w0) :
    Calls Tryz.prog 96 #[pv I.bc, .string x.name] w0 fun e w' => ∃ v Rs', e = .returned v ∧ (v = Cu.getV x ∧ Rs' = qR I S) ∧ Mod hfs Rs' w' ∧ Oth w0 w' := by
  obtain ⟨T, cur, tA, tc, ts, last, cs, rA, rc, xs, nx, s⟩ := S
  dsimp only at hcs hr
  subst hcs
  refine part_call (Cu.cuR I.bc I.bm (cs1 ++ (x, q) :: cs2)) ([qBI I nx] ++ (txB I.m I.b1 I.b2 s ++ (Sp.spT I.bs T cur ++ (Tk.tkR I.bt tA tc ts last ++ (Rt.rtR I.br rA rc xs))))) (by classical exact List.perm_iff_count.2 fun a => by simp only [qR, txB, Sp.spT, Sp.spR, Sp.get3, Tk.tkR, Rt.rtR, Cu.cuR, Cu.cuB, Cu.blks_mid, List.length_nil, List.cons_append, List.nil_append, List.append_nil, List.count_cons, List.count_append, List.count_nil]; omega) hm (fun hb hsp h => Cu.cuR_lift (f := 96) x rfl (fun w0 hfs h => Cu.cu_get I.bc I.bm q _ x.name x hr w0 hfs h) w0 _ h) ?_
  rintro v Rs' ⟨rfl, rfl⟩
  exact ⟨_, ⟨rfl, rfl⟩, (by classical exact List.perm_iff_count.2 fun a => by simp only [qR, txB, Sp.spT, Sp.spR, Sp.get3, Tk.tkR, Rt.rtR, Cu.cuR, Cu.cuB, Cu.blks_mid, List.length_nil, List.cons_append, List.nil_append, List.append_nil, List.count_cons, List.count_append, List.count_nil]; omega)⟩
theorem qs_get_none (I : QI) (S : QS) (name : ByteArray) (hr : aget name (Cu.alOf S.cs) = none) (w0 : World) (hfs : List PH) (hm : Mod hfs (qR I S) w0) :
    Calls Tryz.prog 96 #[pv I.bc, .string name] w0 fun e w' => ∃ v Rs', e = .returned v ∧ (v = .tuple #[Cu.mkC ⟨⟨#[]⟩, 0, 0⟩, .bool false] ∧ Rs' = qR I S) ∧ Mod hfs Rs' w' ∧ Oth w0 w' := by
  refine part_call (Cu.cuR I.bc I.bm S.cs) ([qBI I S.nx] ++ (txB I.m I.b1 I.b2 S.s ++ (Sp.spT I.bs S.T S.cur ++ (Tk.tkR I.bt S.tA S.tc S.ts S.last ++ (Rt.rtR I.br S.rA S.rc S.xs))))) (by classical exact List.perm_iff_count.2 fun a => by simp only [qR, txB, Sp.spT, Sp.spR, Sp.get3, Tk.tkR, Rt.rtR, Cu.cuR, Cu.cuB, Cu.blks_mid, List.length_nil, List.cons_append, List.nil_append, List.append_nil, List.count_cons, List.count_append, List.count_nil]; omega) hm (fun hb hsp h => Cu.cuR_none (f := 96) (fun w0 hfs h => Cu.cu_get_none I.bc I.bm _ name hr w0 hfs h) w0 _ h) ?_
  rintro v Rs' ⟨rfl, rfl⟩
  exact ⟨_, ⟨rfl, rfl⟩, (by classical exact List.perm_iff_count.2 fun a => by simp only [qR, txB, Sp.spT, Sp.spR, Sp.get3, Tk.tkR, Rt.rtR, Cu.cuR, Cu.cuB, Cu.blks_mid, List.length_nil, List.cons_append, List.nil_append, List.append_nil, List.count_cons, List.count_append, List.count_nil]; omega)⟩
theorem qs_open (I : QI) (S : QS) (next : Int) (cs1 cs2 : Cu.Cs) (x : Cu.CurV) (q : Nat) (hcs : S.cs = cs1 ++ (x, q) :: cs2) (hr : aget x.name (Cu.alOf S.cs) = some q) (w0 : World) (hfs : List PH) (hm : Mod hfs (qR I S) w0) :
    Calls Tryz.prog 98 #[pv I.bc, .string x.name, .int .i64 next] w0 fun e w' => ∃ v Rs', e = .returned v ∧ (v = .int .i64 (Cu.openE x next) ∧ Rs' = qR I { S with cs := cs1 ++ ((if Cu.openE x next = 0 then ⟨x.name, x.last, next⟩ else x), q) :: cs2 }) ∧ Mod hfs Rs' w' ∧ Oth w0 w' := by
  obtain ⟨T, cur, tA, tc, ts, last, cs, rA, rc, xs, nx, s⟩ := S
  dsimp only at hcs hr
  subst hcs
  refine part_call (Cu.cuR I.bc I.bm (cs1 ++ (x, q) :: cs2)) ([qBI I nx] ++ (txB I.m I.b1 I.b2 s ++ (Sp.spT I.bs T cur ++ (Tk.tkR I.bt tA tc ts last ++ (Rt.rtR I.br rA rc xs))))) (by classical exact List.perm_iff_count.2 fun a => by simp only [qR, txB, Sp.spT, Sp.spR, Sp.get3, Tk.tkR, Rt.rtR, Cu.cuR, Cu.cuB, Cu.blks_mid, List.length_nil, List.cons_append, List.nil_append, List.append_nil, List.count_cons, List.count_append, List.count_nil]; omega) hm (fun hb hsp h => Cu.cuR_lift (f := 98) (if Cu.openE x next = 0 then ⟨x.name, x.last, next⟩ else x) (by split <;> rfl) (fun w0 hfs h => Cu.cu_open I.bc I.bm q _ x.name x next hr w0 hfs h) w0 _ h) ?_
  rintro v Rs' ⟨rfl, rfl⟩
  exact ⟨_, ⟨rfl, rfl⟩, (by classical exact List.perm_iff_count.2 fun a => by simp only [qR, txB, Sp.spT, Sp.spR, Sp.get3, Tk.tkR, Rt.rtR, Cu.cuR, Cu.cuB, Cu.blks_mid, List.length_nil, List.cons_append, List.nil_append, List.append_nil, List.count_cons, List.count_append, List.count_nil]; omega)⟩

/-! ### Next -/
set_option maxHeartbeats 1000000 in
theorem q_next_none (I : QI) (S : QS) (name : ByteArray) (hr : aget name (Cu.alOf S.cs) = none) (w0 : World) (hfs : List PH) (hm : Mod hfs (qR I S) w0) :
    Calls Tryz.prog 34 #[pv I.q, .string name] w0 fun e w' => ∃ v Rs', e = .returned v ∧ (v = .tuple #[Tk.mkT Tk.zeroT, .int .i64 4] ∧ Rs' = qR I S) ∧ Mod hfs Rs' w' ∧ Oth w0 w' := by
  refine enterN (tab := tab) Tryz.func34 rfl Tryz.ntmps34 rfl (args := [_, _]) rfl hm ?_
  refine VC_sound tabOk 100 ?_
  intro b4 _
  refine Go_ops rfl (OpTo_pcall (v := pv I.bc) rfl rfl rfl rfl rfl (by kernel_rfl) (fun w hm _ => q_cursors I S.nx w (hm.blk_at (i := 1) rfl)) ?_)
  refine VC_sound tabOk 100 ?_
  refine Go_ops rfl (OpTo_tcall [.blk b4 44 (Tk.encT Tk.zeroT)] (qR I S) rfl rfl rfl rfl rfl rfl (by kernel_rfl) (fun w hb hm hio hsp k => qs_get_none I S name hr w _ k) ?_)
  rintro _ _ ⟨rfl, rfl⟩
  refine VC_sound tabOk 100 ?_
  intro b6 _
  (repeat (first | refine Or.inl ⟨rfl, rfl, ?_⟩ | refine Or.inl ⟨rfl, ?_⟩ | refine Or.inr ?_))
  refine ⟨fun _ => ?_, fun h => by simp at h⟩
  (repeat (first | refine Or.inl ⟨rfl, rfl, ?_⟩ | refine Or.inl ⟨rfl, ?_⟩ | refine Or.inr ?_))
  exact ⟨_, ⟨rfl, rfl⟩, fun _ _ h => h.drop (a := [_, _])⟩
/-- What Next comes to, of a consumer that there is. -/
def nextQ (I : QI) (S : QS) (cs1 cs2 : Cu.Cs) (x : Cu.CurV) (q : Nat) : Value → List Res → Prop := fun v Rs =>
  (0 < x.opn ∧ v = .tuple #[Tk.mkT Tk.zeroT, .int .i64 7] ∧ Rs = qR I S) ∨
  (¬ 0 < x.opn ∧ S.ts.find? (Tk.tkAft x.last) = none ∧ v = .tuple #[Tk.mkT Tk.zeroT, .int .i64 9] ∧ Rs = qR I S) ∨
  (¬ 0 < x.opn ∧ ∃ t A c, S.ts.find? (Tk.tkAft x.last) = some t ∧ v = .tuple #[Tk.mkT (Tk.reT t A c), .int .i64 0] ∧ Rs = own (RX.encI .i64) 1 2 A c t.op :: qR I { S with cs := cs1 ++ (⟨x.name, x.last, t.n⟩, q) :: cs2 })
set_option maxHeartbeats 2000000 in
theorem q_next (I : QI) (S : QS) (cs1 cs2 : Cu.Cs) (x : Cu.CurV) (q : Nat) (hcs : S.cs = cs1 ++ (x, q) :: cs2) (hr : aget x.name (Cu.alOf S.cs) = some q) (hf : Tk.Fit1 S.ts) (ht : S.ts.length ≤ 1000000) (w0 : World) (hfs : List PH) (hm : Mod hfs (qR I S) w0) :
    Calls Tryz.prog 34 #[pv I.q, .string x.name] w0 fun e w' => ∃ v Rs', e = .returned v ∧ nextQ I S cs1 cs2 x q v Rs' ∧ Mod hfs Rs' w' ∧ Oth w0 w' := by
  refine enterN (tab := tab) Tryz.func34 rfl Tryz.ntmps34 rfl (args := [_, _]) rfl hm ?_
  refine VC_sound tabOk 100 ?_
  intro b4 _
  refine Go_ops rfl (OpTo_pcall (v := pv I.bc) rfl rfl rfl rfl rfl (by kernel_rfl) (fun w hm _ => q_cursors I S.nx w (hm.blk_at (i := 1) rfl)) ?_)
  refine VC_sound tabOk 100 ?_
  refine Go_ops rfl (OpTo_tcall [.blk b4 44 (Tk.encT Tk.zeroT)] (qR I S) rfl rfl rfl rfl rfl rfl (by kernel_rfl) (fun w hb hm hio hsp k => qs_get I S cs1 cs2 x q hcs hr w _ k) ?_)
  rintro _ _ ⟨rfl, rfl⟩
  refine VC_sound tabOk 100 ?_
  intro b6 _
  (repeat (first | refine Or.inl ⟨rfl, rfl, ?_⟩ | refine Or.inl ⟨rfl, ?_⟩ | refine Or.inr ?_))
  refine ⟨fun h => by simp at h, fun _ => ?_⟩
  (repeat (first | refine Or.inl ⟨rfl, rfl, ?_⟩ | refine Or.inl ⟨rfl, ?_⟩ | refine Or.inr ?_))
  refine ⟨fun g => ?_, fun g => ?_⟩
  · (repeat (first | refine Or.inl ⟨rfl, rfl, ?_⟩ | refine Or.inl ⟨rfl, ?_⟩ | refine Or.inr ?_))
    exact ⟨_, .inl ⟨of_decide_eq_true g, rfl, rfl⟩, fun _ _ h => h.drop (a := [_, _])⟩
  have g0 : ¬ 0 < x.opn := of_decide_eq_false g
  refine Go_cut (σ := Option Addr × Nat × Nat) (fun u => [(0, .v (pv I.q)), (1, .v (.string x.name)), (4, .v (pv b4)), (6, .v (pv b6)), (7, .v (.bool (S.ts.find? (Tk.tkAft x.last)).isSome)), (8, .v (pv u.2.2))]) (fun u => .blk u.2.2 44 (Tk.encT (Tk.reT (Tk.fdT (Tk.tkAft x.last) S.ts) u.1 u.2.1)) :: own (RX.encI .i64) 1 2 u.1 u.2.1 (Tk.fdT (Tk.tkAft x.last) S.ts).op :: .blk b6 50 (Cu.encC x) :: .blk b4 44 (Tk.encT Tk.zeroT) :: qR I S) (fun _ => True) ?_ ?_
  · refine Go_any mixed [6, 11] [(0, false), (1, false), (2, false), (4, false), (3, false), (5, false), (99, false), (99, false), (99, false), (99, false), (99, false), (99, false), (99, false)] rfl (by kernel_rfl) (by kernel_rfl) [.blk b6 50 (Cu.encC x), qBI I S.nx] (fun _ => True) (fun _ _ _ h => h) (fun w hm _ => ⟨Holds.of_idx [0, 2] hm, trivial⟩) ?_
    refine VC_sound tabOk 100 ?_
    (repeat (first | refine Or.inl ⟨rfl, rfl, ?_⟩ | refine Or.inl ⟨rfl, ?_⟩ | refine Or.inr ?_))
    refine Go_forkA 6 10 [(7, false), (8, false), (9, false), (10, true), (11, true), (12, false)] [(6, true), (7, false), (8, false), (9, false), (11, true), (12, false)] (by kernel_rfl) rfl rfl (by kernel_rfl) (by kernel_rfl) rfl rfl rfl rfl rfl (fun R w hm _ => ⟨Holds.of_idx [1, 3] hm, trivial⟩) ?_ ?_ tabOk
    · refine OpTo_ncall rfl rfl rfl rfl rfl (by kernel_rfl) (fun w hm _ => Tk.tick_afterU I.bt S.tA S.tc S.ts S.last (x.last) w (hm.blk_at (i := 10) rfl) (hm.own_rd (i := 11) rfl) (fun t ht => hm.ro_rd (i := 12) rfl (List.mem_map.2 ⟨t, ht, rfl⟩)) (by omega) hf.fit) ?_
      rintro _ _ ⟨A, c, rfl, rfl⟩
      refine VC_sound tabOk 100 ?_
      intro b99 _
      (repeat (first | refine Or.inl ⟨rfl, rfl, ?_⟩ | refine Or.inl ⟨rfl, ?_⟩ | refine Or.inr ?_))
      exact Go_put (A, c, b99) trivial ⟨rfl, rfl, rfl, rfl, rfl, rfl, trivial⟩ (fun _ h => h)
    · intro b99 _
      refine ⟨⟨_, rfl⟩, ?_⟩
      refine Go_aloneM rfl rfl rfl (OpTo_ncall rfl rfl rfl rfl rfl (by kernel_rfl) (fun w hm _ => Tk.tick_afterU I.bt S.tA S.tc S.ts S.last (x.last) w (hm.blk_at (i := 11) rfl) (hm.own_rd (i := 12) rfl) (fun t ht => hm.ro_rd (i := 13) rfl (List.mem_map.2 ⟨t, ht, rfl⟩)) (by omega) hf.fit) ?_)
      rintro _ _ ⟨A, c, rfl, rfl⟩
      refine VC_sound tabOk 100 ?_
      (repeat (first | refine Or.inl ⟨rfl, rfl, ?_⟩ | refine Or.inl ⟨rfl, ?_⟩ | refine Or.inr ?_))
      exact Go_put (A, c, b99) trivial ⟨rfl, rfl, rfl, rfl, rfl, rfl, trivial⟩ (fun _ h => h.permRs (List.Perm.swap _ _ _))
  rintro ⟨A, c, b8⟩ _
  dsimp only
  refine VC_sound tabOk 100 ?_
  cases hfd : S.ts.find? (Tk.tkAft x.last) with
  | none =>
    refine ⟨fun _ => ?_, fun h => nomatch h⟩
    (repeat (first | refine Or.inl ⟨rfl, rfl, ?_⟩ | refine Or.inl ⟨rfl, ?_⟩ | refine Or.inr ?_))
    exact ⟨_, .inr (.inl ⟨g0, hfd, rfl, rfl⟩), fun _ _ h => h.drop (a := [_, _, _, _])⟩
  | some t =>
    refine ⟨fun h => (nomatch h), fun _ => ?_⟩
    have hX : Tk.fdT (Tk.tkAft x.last) S.ts = t := by simp only [Tk.fdT, hfd]; rfl
    have hgt : x.last < t.n := by simpa [Tk.tkAft] using List.find?_some hfd
    have h0 : Cu.openE x t.n = 0 := by rw [Cu.openE, if_neg g0, if_neg (by omega)]
    rw [hX]
    show Go _ _ _ _
    refine Go_any mixed [9] [(1, false), (2, false), (3, false), (5, false), (6, false), (0, false), (4, false), (7, false), (8, true), (9, true), (10, false)] rfl (by kernel_rfl) (by kernel_rfl) [.blk b8 44 (Tk.encT (Tk.reT t A c)), qBI I S.nx] (fun _ => True) (fun _ _ _ h => h) (fun w hm _ => ⟨Holds.of_idx [0, 4] hm, trivial⟩) ?_
    refine VC_sound tabOk 100 ?_
    (repeat (first | refine Or.inl ⟨rfl, rfl, ?_⟩ | refine Or.inl ⟨rfl, ?_⟩ | refine Or.inr ?_))
    refine Go_aloneL rfl rfl (OpTo_tcall [.blk b8 44 (Tk.encT (Tk.reT t A c)), own (RX.encI .i64) 1 2 A c t.op, .blk b6 50 (Cu.encC x), .blk b4 44 (Tk.encT Tk.zeroT)] (qR I S) rfl rfl rfl rfl rfl rfl (by kernel_rfl) (fun w hb hm hio hsp k => qs_open I S t.n cs1 cs2 x q hcs hr w _ k) ?_)
    rintro _ _ ⟨rfl, rfl⟩
    refine And.intro (fun w hm _ => ⟨Holds.of_idx [0, 4] hm, trivial⟩) ?_
    refine VC_sound tabOk 100 ?_
    (repeat (first | refine Or.inl ⟨rfl, rfl, ?_⟩ | refine Or.inl ⟨rfl, ?_⟩ | refine Or.inr ?_))
    refine ⟨_, .inr (.inr ⟨g0, t, A, c, hfd, by rw [h0]; rfl, rfl⟩), fun _ w h => ?_⟩
    simp only [h0, if_true] at h
    exact ((h.dropAt 3).dropAt 2).dropAt 0

/-! ### Batch -/
set_option maxHeartbeats 1000000 in
theorem q_batch_none (I : QI) (S : QS) (name : ByteArray) (hr : aget name (Cu.alOf S.cs) = none) (w0 : World) (hfs : List PH) (hm : Mod hfs (qR I S) w0) :
    Calls Tryz.prog 35 #[pv I.q, .string name] w0 fun e w' => ∃ v Rs', e = .returned v ∧ (v = .tuple #[.slice none 0 0, .int .i64 4] ∧ Rs' = qR I S) ∧ Mod hfs Rs' w' ∧ Oth w0 w' := by
  refine enterN (tab := tab) Tryz.func35 rfl Tryz.ntmps35 rfl (args := [_, _]) rfl hm ?_
  refine VC_sound tabOk 100 ?_
  refine Go_ops rfl (OpTo_pcall (v := pv I.bc) rfl rfl rfl rfl rfl (by kernel_rfl) (fun w hm _ => q_cursors I S.nx w (hm.blk_at (i := 0) rfl)) ?_)
  refine VC_sound tabOk 100 ?_
  refine Go_ops rfl (OpTo_tcall [] (qR I S) rfl rfl rfl rfl rfl rfl (by kernel_rfl) (fun w hb hm hio hsp k => qs_get_none I S name hr w _ k) ?_)
  rintro _ _ ⟨rfl, rfl⟩
  refine VC_sound tabOk 100 ?_
  intro b6 _
  (repeat (first | refine Or.inl ⟨rfl, rfl, ?_⟩ | refine Or.inl ⟨rfl, ?_⟩ | refine Or.inr ?_))
  refine ⟨fun _ => ?_, fun h => by simp at h⟩
  (repeat (first | refine Or.inl ⟨rfl, rfl, ?_⟩ | refine Or.inl ⟨rfl, ?_⟩ | refine Or.inr ?_))
  exact ⟨_, ⟨rfl, rfl⟩, fun _ _ h => h.drop (a := [_])⟩
/-- The events of a batch. -/
def BatE (S : QS) (x : Cu.CurV) (ys : List EventM) : Prop := ∃ zs A1 c1 A2 c2, Sp.Srt (Sp.pre3 S.T.1 S.T.2.1 S.T.2.2 3) zs ∧ Bt.Srt (zs.filter (Bt.bofP (stE S.s) ⟨(Tk.fdT (Tk.tkIs x.last) S.ts).mx, A1, c1, (Tk.fdT (Tk.tkIs x.last) S.ts).op⟩ ⟨(Tk.fdT (Tk.tkIs x.opn) S.ts).mx, A2, c2, (Tk.fdT (Tk.tkIs x.opn) S.ts).op⟩ x.name)) ys
def batQ (I : QI) (S : QS) (x : Cu.CurV) : Value → List Res → Prop := fun v Rs =>
  (x.opn = 0 ∧ v = .tuple #[.slice none 0 0, .int .i64 7] ∧ Rs = qR I S) ∨
  (x.opn ≠ 0 ∧ ∃ ys A c, BatE S x ys ∧ v = .tuple #[.slice A ys.length c, .int .i64 0] ∧ Rs = own encE 8 65 A c ys :: qR I S)
theorem sp_rd {hfs : List PH} {I : QI} {S : QS} {w : World} (i : Nat) (hm : Mod hfs (qR I S) w) : RdW w (Sp.pick3 S.T.1 S.T.2.1 S.T.2.2 i).A ((Sp.pick3 S.T.1 S.T.2.1 S.T.2.2 i).xs.flatMap encE) := by
  match i with
  | 0 => exact hm.own_rd (i := 5) rfl
  | 1 => exact hm.own_rd (i := 6) rfl
  | k + 2 => exact hm.own_rd (i := 7) rfl
theorem qs_all (I : QI) (S : QS) (hl : Sp.len3 S.T ≤ 10000) (w0 : World) (hfs : List PH) (hm : Mod hfs (qR I S) w0) :
    Calls Tryz.prog 33 #[pv I.bs] w0 fun e w' => ∃ v Rs', e = .returned v ∧ (∃ zs, Sp.Srt (Sp.pre3 S.T.1 S.T.2.1 S.T.2.2 3) zs ∧ Sp.rowEQ zs v Rs') ∧ Mod [heapOf w0] Rs' w' ∧ Oth w0 w' :=
  Sp.spool_all I.bs S.T.1 S.T.2.1 S.T.2.2 S.cur w0 (hm.blk_at (i := 4) rfl) (fun i => sp_rd i hm) (by rw [Sp.pre3_len]; omega)
set_option maxHeartbeats 4000000 in
theorem q_batch (I : QI) (S : QS) (cs1 cs2 : Cu.Cs) (x : Cu.CurV) (q : Nat) (hcs : S.cs = cs1 ++ (x, q) :: cs2) (hr : aget x.name (Cu.alOf S.cs) = some q) (hf : Tk.Fit1 S.ts) (ht : S.ts.length ≤ 1000000) (hl : Sp.len3 S.T ≤ 10000) (w0 : World) (hfs : List PH) (hm : Mod hfs (qR I S) w0) :
    Calls Tryz.prog 35 #[pv I.q, .string x.name] w0 fun e w' => ∃ v Rs', e = .returned v ∧ batQ I S x v Rs' ∧ Mod hfs Rs' w' ∧ Oth w0 w' := by
  refine enterN (tab := tab) Tryz.func35 rfl Tryz.ntmps35 rfl (args := [_, _]) rfl hm ?_
  refine VC_sound tabOk 100 ?_
  refine Go_ops rfl (OpTo_pcall (v := pv I.bc) rfl rfl rfl rfl rfl (by kernel_rfl) (fun w hm _ => q_cursors I S.nx w (hm.blk_at (i := 0) rfl)) ?_)
  refine VC_sound tabOk 100 ?_
  refine Go_ops rfl (OpTo_tcall [] (qR I S) rfl rfl rfl rfl rfl rfl (by kernel_rfl) (fun w hb hm hio hsp k => qs_get I S cs1 cs2 x q hcs hr w _ k) ?_)
  rintro _ _ ⟨rfl, rfl⟩
  refine VC_sound tabOk 100 ?_
  intro b6 _
  (repeat (first | refine Or.inl ⟨rfl, rfl, ?_⟩ | refine Or.inl ⟨rfl, ?_⟩ | refine Or.inr ?_))
  refine ⟨fun h => by simp at h, fun _ => ?_⟩
  (repeat (first | refine Or.inl ⟨rfl, rfl, ?_⟩ | refine Or.inl ⟨rfl, ?_⟩ | refine Or.inr ?_))
  refine ⟨fun g => ?_, fun g => ?_⟩
  · exact ⟨_, .inl ⟨of_decide_eq_true g, rfl, rfl⟩, fun _ _ h => h.drop (a := [_])⟩
  have g0 : ¬ x.opn = 0 := of_decide_eq_false g
  refine Go_cut (σ := Option Addr × Nat × Nat) (fun u => [(0, .v (pv I.q)), (1, .v (.string x.name)), (6, .v (pv b6)), (8, .v (pv u.2.2))]) (fun u => .blk u.2.2 44 (Tk.encT (Tk.reT (Tk.fdT (Tk.tkIs x.last) S.ts) u.1 u.2.1)) :: own (RX.encI .i64) 1 2 u.1 u.2.1 (Tk.fdT (Tk.tkIs x.last) S.ts).op :: .blk b6 50 (Cu.encC x) :: qR I S) (fun _ => True) ?_ ?_
  · refine Go_any mixed [6, 11] [(0, false), (1, false), (2, false), (4, false), (3, false), (5, false), (99, false), (99, false), (99, false), (99, false), (99, false), (99, false), (99, false)] rfl (by kernel_rfl) (by kernel_rfl) [.blk b6 50 (Cu.encC x), qBI I S.nx] (fun _ => True) (fun _ _ _ h => h) (fun w hm _ => ⟨Holds.of_idx [0, 1] hm, trivial⟩) ?_
    refine VC_sound tabOk 100 ?_
    (repeat (first | refine Or.inl ⟨rfl, rfl, ?_⟩ | refine Or.inl ⟨rfl, ?_⟩ | refine Or.inr ?_))
    refine Go_forkA 6 10 [(7, false), (8, false), (9, false), (10, true), (11, true), (12, false)] [(6, true), (7, false), (8, false), (9, false), (11, true), (12, false)] (by kernel_rfl) rfl rfl (by kernel_rfl) (by kernel_rfl) rfl rfl rfl rfl rfl (fun R w hm _ => ⟨Holds.of_idx [1, 2] hm, trivial⟩) ?_ ?_ tabOk
    · refine OpTo_ncall rfl rfl rfl rfl rfl (by kernel_rfl) (fun w hm _ => Tk.tick_getU I.bt S.tA S.tc S.ts S.last (x.last) w (hm.blk_at (i := 9) rfl) (hm.own_rd (i := 10) rfl) (fun t ht => hm.ro_rd (i := 11) rfl (List.mem_map.2 ⟨t, ht, rfl⟩)) (by omega) hf.fit) ?_
      rintro _ _ ⟨A, c, rfl, rfl⟩
      refine VC_sound tabOk 100 ?_
      intro b99 _
      (repeat (first | refine Or.inl ⟨rfl, rfl, ?_⟩ | refine Or.inl ⟨rfl, ?_⟩ | refine Or.inr ?_))
      exact Go_put (A, c, b99) trivial ⟨rfl, rfl, rfl, rfl, trivial⟩ (fun _ h => h)
    · intro b99 _
      refine ⟨⟨_, rfl⟩, ?_⟩
      refine Go_aloneM rfl rfl rfl (OpTo_ncall rfl rfl rfl rfl rfl (by kernel_rfl) (fun w hm _ => Tk.tick_getU I.bt S.tA S.tc S.ts S.last (x.last) w (hm.blk_at (i := 10) rfl) (hm.own_rd (i := 11) rfl) (fun t ht => hm.ro_rd (i := 12) rfl (List.mem_map.2 ⟨t, ht, rfl⟩)) (by omega) hf.fit) ?_)
      rintro _ _ ⟨A, c, rfl, rfl⟩
      refine VC_sound tabOk 100 ?_
      (repeat (first | refine Or.inl ⟨rfl, rfl, ?_⟩ | refine Or.inl ⟨rfl, ?_⟩ | refine Or.inr ?_))
      exact Go_put (A, c, b99) trivial ⟨rfl, rfl, rfl, rfl, trivial⟩ (fun _ h => h.permRs (List.Perm.swap _ _ _))
  rintro ⟨A1, c1, b8⟩ _
  dsimp only
  refine VC_sound tabOk 100 ?_
  refine Go_cut (σ := Option Addr × Nat × Nat) (fun u => [(0, .v (pv I.q)), (1, .v (.string x.name)), (8, .v (pv b8)), (10, .v (pv u.2.2))]) (fun u => .blk u.2.2 44 (Tk.encT (Tk.reT (Tk.fdT (Tk.tkIs x.opn) S.ts) u.1 u.2.1)) :: own (RX.encI .i64) 1 2 u.1 u.2.1 (Tk.fdT (Tk.tkIs x.opn) S.ts).op :: .blk b8 44 (Tk.encT (Tk.reT (Tk.fdT (Tk.tkIs x.last) S.ts) A1 c1)) :: own (RX.encI .i64) 1 2 A1 c1 (Tk.fdT (Tk.tkIs x.last) S.ts).op :: .blk b6 50 (Cu.encC x) :: qR I S) (fun _ => True) ?_ ?_
  · refine Go_any mixed [6, 11] [(0, false), (1, false), (2, false), (4, false), (3, false), (5, false), (99, false), (99, false), (99, false), (99, false), (99, false), (99, false), (99, false)] rfl (by kernel_rfl) (by kernel_rfl) [.blk b6 50 (Cu.encC x), qBI I S.nx] (fun _ => True) (fun _ _ _ h => h) (fun w hm _ => ⟨Holds.of_idx [2, 3] hm, trivial⟩) ?_
    refine VC_sound tabOk 100 ?_
    (repeat (first | refine Or.inl ⟨rfl, rfl, ?_⟩ | refine Or.inl ⟨rfl, ?_⟩ | refine Or.inr ?_))
    refine Go_forkA 6 10 [(7, false), (8, false), (9, false), (10, true), (11, true), (12, false)] [(6, true), (7, false), (8, false), (9, false), (11, true), (12, false)] (by kernel_rfl) rfl rfl (by kernel_rfl) (by kernel_rfl) rfl rfl rfl rfl rfl (fun R w hm _ => ⟨Holds.of_idx [3, 4] hm, trivial⟩) ?_ ?_ tabOk
    · refine OpTo_ncall rfl rfl rfl rfl rfl (by kernel_rfl) (fun w hm _ => Tk.tick_getU I.bt S.tA S.tc S.ts S.last (x.opn) w (hm.blk_at (i := 11) rfl) (hm.own_rd (i := 12) rfl) (fun t ht => hm.ro_rd (i := 13) rfl (List.mem_map.2 ⟨t, ht, rfl⟩)) (by omega) hf.fit) ?_
      rintro _ _ ⟨A, c, rfl, rfl⟩
      refine VC_sound tabOk 100 ?_
      intro b99 _
      (repeat (first | refine Or.inl ⟨rfl, rfl, ?_⟩ | refine Or.inl ⟨rfl, ?_⟩ | refine Or.inr ?_))
      exact Go_put (A, c, b99) trivial ⟨rfl, rfl, rfl, rfl, trivial⟩ (fun _ h => h)
    · intro b99 _
      refine ⟨⟨_, rfl⟩, ?_⟩
      refine Go_aloneM rfl rfl rfl (OpTo_ncall rfl rfl rfl rfl rfl (by kernel_rfl) (fun w hm _ => Tk.tick_getU I.bt S.tA S.tc S.ts S.last (x.opn) w (hm.blk_at (i := 12) rfl) (hm.own_rd (i := 13) rfl) (fun t ht => hm.ro_rd (i := 14) rfl (List.mem_map.2 ⟨t, ht, rfl⟩)) (by omega) hf.fit) ?_)
      rintro _ _ ⟨A, c, rfl, rfl⟩
      refine VC_sound tabOk 100 ?_
      (repeat (first | refine Or.inl ⟨rfl, rfl, ?_⟩ | refine Or.inl ⟨rfl, ?_⟩ | refine Or.inr ?_))
      exact Go_put (A, c, b99) trivial ⟨rfl, rfl, rfl, rfl, trivial⟩ (fun _ h => h.permRs (List.Perm.swap _ _ _))
  rintro ⟨A2, c2, b10⟩ _
  dsimp only
  refine VC_sound tabOk 100 ?_
  show Go _ _ _ _
  refine Go_any mixed [] [(0, false), (1, false), (2, false), (5, false), (6, false), (7, false), (9, false), (11, false), (13, false), (3, false), (8, false), (10, false), (12, false), (4, true), (14, true), (15, false), (16, false)] rfl (by kernel_rfl) (by kernel_rfl) [.blk b10 44 (Tk.encT (Tk.reT (Tk.fdT (Tk.tkIs x.opn) S.ts) A2 c2)), .blk b8 44 (Tk.encT (Tk.reT (Tk.fdT (Tk.tkIs x.last) S.ts) A1 c1)), qBI I S.nx] (fun _ => True) (fun _ _ _ h => h) (fun w hm _ => ⟨Holds.of_idx [0, 2, 5] hm, trivial⟩) ?_
  refine VC_sound tabOk 100 ?_
  (repeat (first | refine Or.inl ⟨rfl, rfl, ?_⟩ | refine Or.inl ⟨rfl, ?_⟩ | refine Or.inr ?_))
  refine Go_aloneL rfl rfl (OpTo_ncall rfl rfl rfl rfl rfl (by kernel_rfl) (fun w hm _ => qs_all I S hl w _ (Mod.drop (a := [_, _, _, _, _]) hm)) ?_)
  rintro _ _ ⟨zs, hz, A3, c3, rfl, rfl⟩
  refine And.intro (fun w hm _ => ⟨Holds.of_idx [1, 3, 6] hm, trivial⟩) ?_
  refine VC_sound tabOk 100 ?_
  (repeat (first | refine Or.inl ⟨rfl, rfl, ?_⟩ | refine Or.inl ⟨rfl, ?_⟩ | refine Or.inr ?_))
  have hzl : zs.length ≤ 10000 := by rw [hz.2.2, Sp.pre3_len]; omega
  have ho1 := hf.fd (Tk.tkIs x.last)
  have ho2 := hf.fd (Tk.tkIs x.opn)
  refine Go_aloneL rfl rfl (OpTo_ncall rfl rfl rfl rfl rfl (by kernel_rfl) (fun w hm _ => Bt.batch_of A3 c3 zs (.pointer (some ⟨I.m, 0, none⟩)) (stE S.s) ⟨(Tk.fdT (Tk.tkIs x.last) S.ts).mx, A1, c1, (Tk.fdT (Tk.tkIs x.last) S.ts).op⟩ ⟨(Tk.fdT (Tk.tkIs x.opn) S.ts).mx, A2, c2, (Tk.fdT (Tk.tkIs x.opn) S.ts).op⟩ x.name w (hm.own_rd (i := 0) rfl) hzl (Bt.StOk.some (s := S.s) (hm.blk_at (i := 7) rfl) (MpAt.of_mod (i := 8) hm rfl) (MpAt.of_mod (i := 9) hm rfl)) ⟨hm.own_rd (i := 4) rfl, by dsimp only; omega⟩ ⟨hm.own_rd (i := 2) rfl, by dsimp only; omega⟩) ?_)
  rintro _ _ ⟨ys, hy, A4, c4, rfl, rfl⟩
  refine And.intro (fun w hm _ => ⟨Holds.of_idx [2, 4, 7] hm, trivial⟩) ?_
  refine VC_sound tabOk 100 ?_
  exact ⟨_, .inr ⟨g0, ys, A4, c4, ⟨zs, A1, c1, A2, c2, hz, hy⟩, rfl, rfl⟩, fun _ _ h => ((((((h.dropAt 1).dropAt 1).dropAt 1).dropAt 1).dropAt 1).dropAt 1)⟩
end Go.Proofs.YthpcahgdobnljaaGreat

/- What the functions of package queue do: Retry, Maint; its manager. -/
set_option maxRecDepth 100000
set_option autoImplicit false
set_option linter.unusedVariables false
set_option linter.unusedSimpArgs false
namespace Go.Proofs.YthpcahgdobnljaaGreat
open Go.RX Go Go.RowKit


theorem BatE.mem {S : QS} {x : Cu.CurV} {ys : List EventM} (h : BatE S x ys) {e : EventM} (he : e ∈ ys) : e ∈ Sp.pre3 S.T.1 S.T.2.1 S.T.2.2 3 := by
  obtain ⟨zs, A1, c1, A2, c2, hz, hy⟩ := h
  exact (hz.1.mem e).2 (List.mem_filter.1 ((hy.1.mem e).2 he)).1
theorem BatE.len {S : QS} {x : Cu.CurV} {ys : List EventM} (h : BatE S x ys) : ys.length ≤ Sp.len3 S.T := by
  obtain ⟨zs, A1, c1, A2, c2, hz, hy⟩ := h
  rw [hy.2.2]
  refine Nat.le_trans (List.length_filter_le _ _) ?_
  rw [hz.2.2, Sp.pre3_len]
  exact Nat.le_refl _
theorem qs_retry (I : QI) (S : QS) (e : EventM) (o : ByteArray) (at_ : Int) (hl : S.xs.length ≤ 1000) (ht : 0 ≤ e.tries) (w0 : World) (hfs : List PH) (hm : Mod hfs (qR I S) w0) :
    Calls Tryz.prog 103 #[pv I.br, mkE e, .string o, .int .i64 at_] w0 fun e' w' => ∃ v Rs', e' = .returned v ∧ (∃ A' c' us, v = .int .i64 (Rt.addE S.xs e o) ∧ Rt.AddT S.xs e o at_ us ∧ Rs' = qR I { S with rA := A', rc := c', xs := us }) ∧ Mod hfs Rs' w' ∧ Oth w0 w' := by
  refine part_call (Rt.rtR I.br S.rA S.rc S.xs) ([qBI I S.nx] ++ (txB I.m I.b1 I.b2 S.s ++ (Sp.spT I.bs S.T S.cur ++ (Tk.tkR I.bt S.tA S.tc S.ts S.last ++ (Cu.cuR I.bc I.bm S.cs))))) (by classical exact List.perm_iff_count.2 fun a => by simp only [qR, txB, Sp.spT, Sp.spR, Sp.get3, Tk.tkR, Rt.rtR, Cu.cuR, Cu.cuB, Cu.blks_mid, List.length_nil, List.cons_append, List.nil_append, List.append_nil, List.count_cons, List.count_append, List.count_nil]; omega) hm (fun hb hsp h => Rt.retry_add I.br S.rA S.rc S.xs e o at_ hl ht w0 _ h) ?_
  rintro v Rs' ⟨A', c', us, rfl, hA, rfl⟩
  exact ⟨_, ⟨A', c', us, rfl, hA, rfl⟩, (by classical exact List.perm_iff_count.2 fun a => by simp only [qR, txB, Sp.spT, Sp.spR, Sp.get3, Tk.tkR, Rt.rtR, Cu.cuR, Cu.cuB, Cu.blks_mid, List.length_nil, List.cons_append, List.nil_append, List.append_nil, List.count_cons, List.count_append, List.count_nil]; omega)⟩
theorem qs_take (I : QI) (S : QS) (now : Int) (hl : S.xs.length ≤ 1000) (w0 : World) (hfs : List PH) (hm : Mod hfs (qR I S) w0) :
    Calls Tryz.prog 104 #[pv I.br, .int .i64 now] w0 fun e' w' => ∃ v Rs', e' = .returned v ∧ (∃ A1 c1 A' c', v = .slice A1 (Rt.dueL now S.xs).length c1 ∧ Rs' = own encE 8 65 A1 c1 (Rt.dueL now S.xs) :: qR I { S with rA := A', rc := c', xs := S.xs.drop (Rt.dueL now S.xs).length }) ∧ Mod hfs Rs' w' ∧ Oth w0 w' := by
  refine part_call (Rt.rtR I.br S.rA S.rc S.xs) ([qBI I S.nx] ++ (txB I.m I.b1 I.b2 S.s ++ (Sp.spT I.bs S.T S.cur ++ (Tk.tkR I.bt S.tA S.tc S.ts S.last ++ (Cu.cuR I.bc I.bm S.cs))))) (by classical exact List.perm_iff_count.2 fun a => by simp only [qR, txB, Sp.spT, Sp.spR, Sp.get3, Tk.tkR, Rt.rtR, Cu.cuR, Cu.cuB, Cu.blks_mid, List.length_nil, List.cons_append, List.nil_append, List.append_nil, List.count_cons, List.count_append, List.count_nil]; omega) hm (fun hb hsp h => Rt.retry_take I.br S.rA S.rc S.xs now (by omega) w0 _ h) ?_
  rintro v Rs' ⟨A1, c1, A', c', rfl, rfl⟩
  exact ⟨_, ⟨A1, c1, A', c', rfl, rfl⟩, (by classical exact List.perm_iff_count.2 fun a => by simp only [qR, txB, Sp.spT, Sp.spR, Sp.get3, Tk.tkR, Rt.rtR, Cu.cuR, Cu.cuB, Cu.blks_mid, List.length_nil, List.cons_append, List.nil_append, List.append_nil, List.count_cons, List.count_append, List.count_nil]; omega)⟩

def idP (id : Int) (e : EventM) : Bool := decide (e.id = id)
theorem q_retry1 (b6 : Nat) (id : Int) (e : EventM) (w0 : World) (hb : w0.heap[b6]? = some (.cells #[.int .i64 id] 2 (0, 0))) :
    Calls Tryz.prog 102 #[mkE e, .pointer (some ⟨b6, 0, none⟩)] w0 fun r w' => r = .returned (.bool (idP id e)) ∧ BelowD w0.heap.size w0 w' := by
  refine enterP (tab := tab) Tryz.func102 rfl Tryz.ntmps102 rfl (args := [_, _]) rfl ?_
  refine VC_sound tabOk 100 ?_
  intro b2 _
  (repeat (first | refine Or.inl ⟨rfl, rfl, ?_⟩ | refine Or.inl ⟨rfl, ?_⟩ | refine Or.inr ?_))
  refine Go_ops rfl (OpTo_loadBlk tabOk (cs := [.int .i64 id]) (.int .i64 id) rfl rfl rfl (fun w hm _ => hm.block_old hb) rfl ?_)
  refine VC_sound tabOk 100 ?_
  rfl
/-- What Retry comes to. -/
def retQ (I : QI) (S : QS) (x : Cu.CurV) (id at_ : Int) : Value → List Res → Prop := fun v Rs =>
  (x.opn = 0 ∧ v = .int .i64 7 ∧ Rs = qR I S) ∨
  (x.opn ≠ 0 ∧ ∃ ys, BatE S x ys ∧ (((∀ e ∈ ys, e.id ≠ id) ∧ v = .int .i64 4 ∧ Rs = qR I S) ∨
    ∃ (i : Nat) (e : EventM) (A : Option Addr) (c : Nat) (us : List Rt.ItemM), ys[i]? = some e ∧ e.id = id ∧ (∀ z ∈ ys.take i, z.id ≠ id) ∧ v = .int .i64 (Rt.addE S.xs e x.name) ∧ Rt.AddT S.xs e x.name at_ us ∧ Rs = qR I { S with rA := A, rc := c, xs := us }))
set_option maxHeartbeats 2000000 in
theorem q_retry (I : QI) (S : QS) (id at_ : Int) (cs1 cs2 : Cu.Cs) (x : Cu.CurV) (q : Nat) (hcs : S.cs = cs1 ++ (x, q) :: cs2) (hr : aget x.name (Cu.alOf S.cs) = some q) (hf : Tk.Fit1 S.ts) (ht : S.ts.length ≤ 1000000) (hl : Sp.len3 S.T ≤ 10000) (hxl : S.xs.length ≤ 1000) (htr : ∀ e ∈ Sp.pre3 S.T.1 S.T.2.1 S.T.2.2 3, 0 ≤ e.tries) (w0 : World) (hfs : List PH) (hm : Mod hfs (qR I S) w0) :
    Calls Tryz.prog 37 #[pv I.q, .string x.name, .int .i64 id, .int .i64 at_] w0 fun e w' => ∃ v Rs', e = .returned v ∧ retQ I S x id at_ v Rs' ∧ Mod hfs Rs' w' ∧ Oth w0 w' := by
  refine enterN (tab := tab) Tryz.func37 rfl Tryz.ntmps37 rfl (args := [_, _, _, _]) rfl hm ?_
  refine VC_sound tabOk 100 ?_
  intro b6 _
  refine Go_ops rfl (OpTo_tcall [.blk b6 2 [.int .i64 id]] (qR I S) rfl rfl rfl rfl rfl rfl (by kernel_rfl) (fun w hb hm hio hsp k => q_batch I S cs1 cs2 x q hcs hr hf ht hl w _ k) ?_)
  rintro _ _ (⟨g0, rfl, rfl⟩ | ⟨g0, ys, A, c, hB, rfl, rfl⟩)
  · refine VC_sound tabOk 100 ?_
    refine ⟨fun _ => ?_, fun h => by first | (simp at h; done) | (simp at h; omega) | (simp_all; done)⟩
    exact ⟨_, .inl ⟨g0, rfl, rfl⟩, fun _ _ h => h.drop (a := [_])⟩
  have hyl := hB.len
  refine VC_sound tabOk 100 ?_
  refine ⟨fun h => by first | (simp at h; done) | (simp at h; omega) | (simp_all; done), fun _ => ?_⟩
  refine Go_ops rfl (OpTo_pcall (v := .int .i64 (idxF (idP id) ys)) rfl rfl rfl rfl rfl (by kernel_rfl) (fun w hm hio => sl_indexFunc_E A c ys 102 #[] #[.pointer (some ⟨b6, 0, none⟩)] (idP id) w (hm.own_rd (i := 1) rfl) (by omega) (by kernel_rfl) (fun e he w2 h2 => q_retry1 b6 id e w2 (blk_below h2 (hm.blk_at (i := 0) rfl)))) ?_)
  refine VC_sound tabOk 100 ?_
  rcases idxF_spec (idP id) ys with ⟨h0, hall⟩ | ⟨i, hi, h0, hpi, hne⟩
  · rw [h0]
    refine ⟨fun _ => ?_, fun h => nomatch h⟩
    exact ⟨_, .inr ⟨g0, ys, hB, .inl ⟨fun e he => by have := hall e he; simpa [idP] using this, rfl, rfl⟩⟩, fun _ _ h => h.drop (a := [_, _])⟩
  rw [h0]
  refine ⟨fun h => by (have := of_decide_eq_true h; omega), fun _ => ?_⟩
  refine Go_with _ (fun w hm _ => hm.own_some (i := 1) rfl (ne_nil_of_lt hi)) ?_
  rintro ⟨bv, ov, rfl⟩
  obtain ⟨e, hei⟩ : ∃ e, ys[i] = e := ⟨_, rfl⟩
  have hgi : ys[i]? = some e := by rw [List.getElem?_eq_getElem hi, hei]
  have hem : e ∈ ys := hei ▸ List.getElem_mem hi
  rw [hei] at hpi
  show Go _ _ _ _
  refine Go_any mixed [10] [(0, false), (1, false), (2, false), (4, false), (5, false), (6, false), (8, false), (9, false), (3, false), (7, false), (10, true), (11, false)] rfl (by kernel_rfl) (by kernel_rfl) [qBI I S.nx] (fun w => RdW w (some ⟨bv, ov, none⟩) (ys.flatMap encE)) (fun w w' hk h => h.old hk) (fun w hm _ => ⟨Holds.of_idx [2] hm, by exact Mod.own_rd (k := 8) (T := 65) (c := c) (i := 1) hm rfl⟩) ?_
  refine VC_sound tabOk 100 ?_
  refine ⟨⟨by omega, by omega⟩, ?_⟩
  (repeat (first | refine Or.inl ⟨rfl, rfl, ?_⟩ | refine Or.inl ⟨rfl, ?_⟩ | refine Or.inr ?_))
  refine Go_first (v := mkE e) rfl rfl rfl rfl (fun w _ hw => rxLoadRow tabOk rfl encE_is rfl (fun h => by first | rfl | cases h) hw hgi (by simp only [addA]; rfl) rfl) ?_
  refine VC_sound tabOk 100 ?_
  refine Go_aloneM rfl rfl rfl (OpTo_tcall [.blk b6 2 [.int .i64 id], own encE 8 65 (some ⟨bv, ov, none⟩) c ys] (qR I S) rfl rfl rfl rfl rfl rfl (by kernel_rfl) (fun w hb hm hio hsp k => qs_retry I S e x.name at_ hxl (htr _ (hB.mem hem)) w _ k) ?_)
  rintro _ _ ⟨A', c', us, rfl, hA, rfl⟩
  refine VC_sound tabOk 100 ?_
  exact ⟨_, .inr ⟨g0, ys, hB, .inr ⟨i, e, A', c', us, hgi, by simpa [idP] using hpi, fun z hz => by have := hne z hz; simpa [idP] using this, rfl, hA, rfl⟩⟩, fun _ _ h => h.drop (a := [_, _])⟩
set_option maxHeartbeats 1000000 in
theorem q_retry_none (I : QI) (S : QS) (name : ByteArray) (id at_ : Int) (hr : aget name (Cu.alOf S.cs) = none) (w0 : World) (hfs : List PH) (hm : Mod hfs (qR I S) w0) :
    Calls Tryz.prog 37 #[pv I.q, .string name, .int .i64 id, .int .i64 at_] w0 fun e w' => ∃ v Rs', e = .returned v ∧ (v = .int .i64 4 ∧ Rs' = qR I S) ∧ Mod hfs Rs' w' ∧ Oth w0 w' := by
  refine enterN (tab := tab) Tryz.func37 rfl Tryz.ntmps37 rfl (args := [_, _, _, _]) rfl hm ?_
  refine VC_sound tabOk 100 ?_
  intro b6 _
  refine Go_ops rfl (OpTo_tcall [.blk b6 2 [.int .i64 id]] (qR I S) rfl rfl rfl rfl rfl rfl (by kernel_rfl) (fun w hb hm hio hsp k => q_batch_none I S name hr w _ k) ?_)
  rintro _ _ ⟨rfl, rfl⟩
  refine VC_sound tabOk 100 ?_
  refine ⟨fun _ => ?_, fun h => by first | (simp at h; done) | (simp at h; omega) | (simp_all; done)⟩
  exact ⟨_, ⟨rfl, rfl⟩, fun _ _ h => h.drop (a := [_])⟩

/-! ### Maint -/
def mtL (x : Int) (l : List EventM) : List EventM := l.map fun e => { e with tx := x }
theorem mtL_len (x : Int) (l : List EventM) : (mtL x l).length = l.length := by simp [mtL]
theorem set3_self (T : Sp.Tbs) (k : Nat) (h : k < 3) : Sp.set3 T k ⟨(Sp.get3 T k).A, (Sp.get3 T k).c, (Sp.get3 T k).xs⟩ = T := by
  have hk' : k = 0 ∨ k = 1 ∨ k = 2 := by omega
  rcases hk' with rfl | rfl | rfl <;> rfl
theorem set3_set3 (T : Sp.Tbs) (k : Nat) (t u : Sp.Tb) : Sp.set3 (Sp.set3 T k t) k u = Sp.set3 T k u := by
  match k with
  | 0 => rfl
  | 1 => rfl
  | k + 2 => rfl
abbrev mtX (x : Int) (l : List EventM) (i : Nat) : List EventM := (mtL x l).take i ++ l.drop i
theorem mtX_at (x : Int) {l : List EventM} {i : Nat} {e : EventM} (h : l[i]? = some e) : (mtX x l i)[i]? = some e ∧ (mtX x l i).set i { e with tx := x } = mtX x l (i + 1) ∧ (mtL x l)[i]? = some { e with tx := x } := by
  obtain ⟨hi, rfl⟩ := List.getElem?_eq_some_iff.1 h
  have hl := mtL_len x l
  have ht : ((mtL x l).take i).length = i := by simp; omega
  have hm : (mtL x l)[i]? = some { l[i] with tx := x } := by simp [mtL, hi]
  refine ⟨?_, ?_, hm⟩
  · rw [mtX, List.getElem?_append_right (by omega), ht]; simp
  · rw [mtX, mtX, List.set_append_right _ _ (by omega), ht, Nat.sub_self, List.drop_eq_getElem_cons hi, List.set_cons_zero, List.take_add_one, hm]; simp
abbrev QS.mt (S : QS) (x now : Int) (A' : Option Addr) (c' : Nat) (A2 : Option Addr) (c2 : Nat) : QS := { S with T := Sp.set3 S.T S.cur ⟨A2, c2, (Sp.get3 S.T S.cur).xs ++ mtL x (Rt.dueL now S.xs)⟩, rA := A', rc := c', xs := S.xs.drop (Rt.dueL now S.xs).length }
set_option maxHeartbeats 4000000 in
theorem q_maint (I : QI) (S : QS) (x now : Int) (hc : S.cur < 3) (hl : Sp.len3 S.T ≤ 10000) (hxl : S.xs.length ≤ 1000) (w0 : World) (hfs : List PH) (hm : Mod hfs (qR I S) w0) :
    Calls Tryz.prog 38 #[pv I.q, .int .i64 x, .int .i64 now] w0 fun e w' => ∃ v Rs', e = .returned v ∧ (∃ A1 c1 A' c' A2 c2, v = .slice A1 (mtL x (Rt.dueL now S.xs)).length c1 ∧ Rs' = own encE 8 65 A1 c1 (mtL x (Rt.dueL now S.xs)) :: qR I (S.mt x now A' c' A2 c2)) ∧ Mod hfs Rs' w' ∧ Oth w0 w' := by
  have hdl := Rt.dueL_len now S.xs
  refine enterN (tab := tab) Tryz.func38 rfl Tryz.ntmps38 rfl (args := [_, _, _]) rfl hm ?_
  refine VC_sound tabOk 100 ?_
  (repeat (first | refine Or.inl ⟨rfl, rfl, ?_⟩ | refine Or.inl ⟨rfl, ?_⟩ | refine Or.inr ?_))
  refine Go_ops rfl (OpTo_tcall [] (qR I S) rfl rfl rfl rfl rfl rfl (by kernel_rfl) (fun w hb hm hio hsp k => qs_take I S now hxl w _ k) ?_)
  rintro _ _ ⟨A1, c1, A', c', rfl, rfl⟩
  obtain ⟨dl, hdl2⟩ : ∃ dl, Rt.dueL now S.xs = dl := ⟨_, rfl⟩
  simp only [QS.mt, hdl2] at hdl ⊢
  refine VC_sound tabOk 100 ?_
  refine Go_loop (σ := Nat × Option Addr × Nat) (fun u => [(0, .v (pv I.q)), (1, .v (.int .i64 x)), (7, .v (.slice A1 dl.length c1)), (18, .v (.int .i64 dl.length)), (19, .v (.int .i64 u.1))]) (fun u => own encE 8 65 A1 c1 (mtX x dl u.1) :: qR I { S with T := Sp.set3 S.T S.cur ⟨u.2.1, u.2.2, (Sp.get3 S.T S.cur).xs ++ (mtL x dl).take u.1⟩, rA := A', rc := c', xs := S.xs.drop dl.length }) (fun u => u.1 ≤ dl.length) (fun u => dl.length - u.1) (0, (Sp.get3 S.T S.cur).A, (Sp.get3 S.T S.cur).c) (Nat.zero_le _) ⟨rfl, rfl, rfl, rfl, rfl, trivial⟩ (fun _ h => by
    have e1 : Sp.set3 S.T S.cur ⟨(Sp.get3 S.T S.cur).A, (Sp.get3 S.T S.cur).c, (Sp.get3 S.T S.cur).xs ++ (mtL x dl).take 0⟩ = S.T := by rw [List.take_zero, List.append_nil]; exact set3_self _ _ hc
    dsimp only
    rw [e1]
    exact h) ?_
  rintro ⟨i, A2, c2⟩ hi
  dsimp only at hi ⊢
  by_cases hlt : i < dl.length
  rotate_left
  · have he : i = dl.length := by omega
    subst he
    refine VC_sound tabOk 100 ?_
    refine ⟨fun h => by first | (simp at h; done) | (simp at h; omega) | (simp_all; done), fun _ => ?_⟩
    have e1 : (mtL x dl).take dl.length = mtL x dl := List.take_of_length_le (by rw [mtL_len]; exact Nat.le_refl _)
    refine ⟨_, ⟨A1, c1, A', c', A2, c2, by rw [mtL_len]; rfl, rfl⟩, fun _ _ h => ?_⟩
    have e2 : mtX x dl dl.length = mtL x dl := by simp [mtX, e1]
    rw [e1, e2] at h
    exact h
  obtain ⟨e, hge⟩ : ∃ e, dl[i]? = some e := ⟨_, List.getElem?_eq_getElem hlt⟩
  obtain ⟨k1, k2, k3⟩ := mtX_at x hge
  have hml : (mtX x dl i).length = dl.length := by simp [mtX, mtL]; omega
  have hml2 : (mtX x dl (i + 1)).length = dl.length := by simp [mtX, mtL]; omega
  refine Go_with _ (fun w hm _ => hm.own_some (i := 0) rfl (ne_nil_of_lt (by omega : 0 < (mtX x dl i).length))) ?_
  rintro ⟨bv, ov, rfl⟩
  refine VC_sound tabOk 100 ?_
  refine ⟨fun _ => ?_, fun h => by first | (simp at h; done) | (simp at h; omega) | (simp_all; done)⟩
  refine ⟨⟨by omega, by omega⟩, ?_⟩
  refine Or.inr (findR_E ?_)
  refine Go_ops rfl (OpTo_storePart tabOk encE_is (n := i) (j := 1) (u := e) (u' := { e with tx := x }) 0 rfl rfl rfl rfl rfl rfl k1 rfl rfl rfl (by simp only [addA]; rfl) ?_)
  have e3 : ({ e with tx := x } : EventM) = { e with tx := x } := rfl
  simp only [List.set_cons_zero, k2]
  have hk4 : (mtX x dl (i + 1))[i]? = some { e with tx := x } := by
    rw [← k2, List.getElem?_set, if_pos rfl, if_pos (by omega)]
  refine VC_sound tabOk 100 ?_
  show Go _ _ _ _
  refine Go_any mixed [8] [(0, false), (1, false), (2, false), (4, false), (5, false), (6, false), (3, false), (7, false), (8, true)] rfl (by kernel_rfl) (by kernel_rfl) [qBI I S.nx] (fun w => RdW w (some ⟨bv, ov, none⟩) ((mtX x dl (i + 1)).flatMap encE)) (fun w w' hk h => h.old hk) (fun w hm _ => ⟨Holds.of_idx [1] hm, by exact Mod.own_rd (k := 8) (T := 65) (c := c1) (i := 0) hm rfl⟩) ?_
  refine VC_sound tabOk 100 ?_
  refine ⟨⟨by omega, by omega⟩, ?_⟩
  (repeat (first | refine Or.inl ⟨rfl, rfl, ?_⟩ | refine Or.inl ⟨rfl, ?_⟩ | refine Or.inr ?_))
  refine Go_first (v := mkE { e with tx := x }) rfl rfl rfl rfl (fun w _ hw => rxLoadRow tabOk rfl encE_is rfl (fun h => by first | rfl | cases h) hw hk4 (by simp only [addA]; rfl) rfl) ?_
  refine VC_sound tabOk 100 ?_
  have hq3 : Sp.get3 (Sp.set3 S.T S.cur ⟨A2, c2, (Sp.get3 S.T S.cur).xs ++ (mtL x dl).take i⟩) S.cur = ⟨A2, c2, (Sp.get3 S.T S.cur).xs ++ (mtL x dl).take i⟩ := by rw [Sp.get_set3 _ _ _ _ hc hc, if_pos rfl]
  have hl3 : Sp.len3 (Sp.set3 S.T S.cur ⟨A2, c2, (Sp.get3 S.T S.cur).xs ++ (mtL x dl).take i⟩) = Sp.len3 S.T + i := Sp.sum_set3 _ S.T S.cur _ i hc (by simp [mtL]; omega)
  refine Go_aloneM rfl rfl rfl (OpTo_tcall [own encE 8 65 (some ⟨bv, ov, none⟩) c1 (mtX x dl (i + 1))] (qR I { S with T := Sp.set3 S.T S.cur ⟨A2, c2, (Sp.get3 S.T S.cur).xs ++ (mtL x dl).take i⟩, rA := A', rc := c', xs := S.xs.drop dl.length }) rfl rfl rfl rfl rfl rfl (by kernel_rfl) (fun w hb hm hio hsp k => qs_add I { S with T := Sp.set3 S.T S.cur ⟨A2, c2, (Sp.get3 S.T S.cur).xs ++ (mtL x dl).take i⟩, rA := A', rc := c', xs := S.xs.drop dl.length } { e with tx := x } hc (by dsimp only; omega) w _ k) ?_)
  rintro _ _ ⟨rfl, A3, c3, rfl⟩
  refine VC_sound tabOk 100 ?_
  refine ⟨_, wrap_i64 (n := (i : Int) + 1) (by omega) (by omega), ?_⟩
  refine Go_fin (i + 1, A3, c3) (by dsimp only; omega) (by dsimp only; omega) ⟨rfl, rfl, rfl, rfl, rfl, trivial⟩ (fun _ h => ?_)
  dsimp only at h ⊢
  rw [hq3, set3_set3] at h
  have e4 : (mtL x dl).take (i + 1) = (mtL x dl).take i ++ [{ e with tx := x }] := by rw [List.take_add_one, k3]; rfl
  rw [e4, ← List.append_assoc]
  exact h

/-! ### the manager -/
abbrev OTX (I : QI) (S : QS) : List Res := [qBI I S.nx] ++ (Sp.spT I.bs S.T S.cur ++ (Tk.tkR I.bt S.tA S.tc S.ts S.last ++ (Rt.rtR I.br S.rA S.rc S.xs ++ Cu.cuR I.bc I.bm S.cs)))
theorem qs_begin_ok (I : QI) (S : QS) (R : List Int) (hal : Alike S.s R) (h6 : (pos 1 R).length < 6) (hR : R.length ≤ 10000) (w0 : World) (hfs : List PH) (hm : Mod hfs (qR I S) w0) :
    Calls Tryz.prog 24 #[pv I.m] w0 fun e' w' => ∃ v Rs', e' = .returned v ∧ (v = .tuple #[.int .i64 ((R.length : Int) + 1), .int .i64 0] ∧ Rs' = qR I { S with s := begS S.s }) ∧ Mod hfs Rs' w' ∧ Oth w0 w' := by
  have hnx := hal.next
  refine part_call (txB I.m I.b1 I.b2 S.s) (OTX I S) (by classical exact List.perm_iff_count.2 fun a => by simp only [qR, txB, Sp.spT, Sp.spR, Sp.get3, Tk.tkR, Rt.rtR, Cu.cuR, Cu.cuB, Cu.blks_mid, List.length_nil, List.cons_append, List.nil_append, List.append_nil, List.count_cons, List.count_append, List.count_nil]; omega) hm (fun hb hsp h => txn_begin_ok I.m I.b1 I.b2 S.s ⟨by rw [hal.O]; exact h6, by omega⟩ (by omega) hal.notO w0 _ h) ?_
  rintro v Rs' ⟨rfl, rfl⟩
  exact ⟨_, ⟨by rw [hnx], rfl⟩, (by classical exact List.perm_iff_count.2 fun a => by simp only [qR, txB, Sp.spT, Sp.spR, Sp.get3, Tk.tkR, Rt.rtR, Cu.cuR, Cu.cuB, Cu.blks_mid, List.length_nil, List.cons_append, List.nil_append, List.append_nil, List.count_cons, List.count_append, List.count_nil]; omega)⟩
theorem qs_begin_full (I : QI) (S : QS) (R : List Int) (hal : Alike S.s R) (h6 : ¬ (pos 1 R).length < 6) (w0 : World) (hfs : List PH) (hm : Mod hfs (qR I S) w0) :
    Calls Tryz.prog 24 #[pv I.m] w0 fun e' w' => ∃ v Rs', e' = .returned v ∧ (v = .tuple #[.int .i64 0, .int .i64 8] ∧ Rs' = qR I S) ∧ Mod hfs Rs' w' ∧ Oth w0 w' := by
  refine part_call (txB I.m I.b1 I.b2 S.s) (OTX I S) (by classical exact List.perm_iff_count.2 fun a => by simp only [qR, txB, Sp.spT, Sp.spR, Sp.get3, Tk.tkR, Rt.rtR, Cu.cuR, Cu.cuB, Cu.blks_mid, List.length_nil, List.cons_append, List.nil_append, List.append_nil, List.count_cons, List.count_append, List.count_nil]; omega) hm (fun hb hsp h => txn_begin_full I.m I.b1 I.b2 S.s (.inl (by rw [hal.O]; omega)) w0 _ h) ?_
  rintro v Rs' ⟨rfl, rfl⟩
  exact ⟨_, ⟨rfl, rfl⟩, (by classical exact List.perm_iff_count.2 fun a => by simp only [qR, txB, Sp.spT, Sp.spR, Sp.get3, Tk.tkR, Rt.rtR, Cu.cuR, Cu.cuB, Cu.blks_mid, List.length_nil, List.cons_append, List.nil_append, List.append_nil, List.count_cons, List.count_append, List.count_nil]; omega)⟩
abbrev comS (s : TxS) (x : Int) : TxS := ⟨s.next, del x s.O, ins x s.D⟩
abbrev aboS (s : TxS) (x : Int) : TxS := ⟨s.next, del x s.O, s.D⟩
theorem qs_commit_ok (I : QI) (S : QS) (x : Int) (h : x ∈ S.s.O) (w0 : World) (hfs : List PH) (hm : Mod hfs (qR I S) w0) :
    Calls Tryz.prog 27 #[pv I.m, .int .i64 x] w0 fun e' w' => ∃ v Rs', e' = .returned v ∧ (v = .int .i64 0 ∧ Rs' = qR I { S with s := comS S.s x }) ∧ Mod hfs Rs' w' ∧ Oth w0 w' := by
  refine part_call (txB I.m I.b1 I.b2 S.s) (OTX I S) (by classical exact List.perm_iff_count.2 fun a => by simp only [qR, txB, Sp.spT, Sp.spR, Sp.get3, Tk.tkR, Rt.rtR, Cu.cuR, Cu.cuB, Cu.blks_mid, List.length_nil, List.cons_append, List.nil_append, List.append_nil, List.count_cons, List.count_append, List.count_nil]; omega) hm (fun hb hsp h1 => txn_commit_ok I.m I.b1 I.b2 S.s x h w0 _ h1) ?_
  rintro v Rs' ⟨rfl, rfl⟩
  exact ⟨_, ⟨rfl, rfl⟩, (by classical exact List.perm_iff_count.2 fun a => by simp only [qR, txB, Sp.spT, Sp.spR, Sp.get3, Tk.tkR, Rt.rtR, Cu.cuR, Cu.cuB, Cu.blks_mid, List.length_nil, List.cons_append, List.nil_append, List.append_nil, List.count_cons, List.count_append, List.count_nil]; omega)⟩
theorem qs_commit_no (I : QI) (S : QS) (x : Int) (h : ¬ x ∈ S.s.O) (w0 : World) (hfs : List PH) (hm : Mod hfs (qR I S) w0) :
    Calls Tryz.prog 27 #[pv I.m, .int .i64 x] w0 fun e' w' => ∃ v Rs', e' = .returned v ∧ (v = .int .i64 7 ∧ Rs' = qR I S) ∧ Mod hfs Rs' w' ∧ Oth w0 w' := by
  refine part_call (txB I.m I.b1 I.b2 S.s) (OTX I S) (by classical exact List.perm_iff_count.2 fun a => by simp only [qR, txB, Sp.spT, Sp.spR, Sp.get3, Tk.tkR, Rt.rtR, Cu.cuR, Cu.cuB, Cu.blks_mid, List.length_nil, List.cons_append, List.nil_append, List.append_nil, List.count_cons, List.count_append, List.count_nil]; omega) hm (fun hb hsp h1 => txn_commit_no I.m I.b1 I.b2 S.s x h w0 _ h1) ?_
  rintro v Rs' ⟨rfl, rfl⟩
  exact ⟨_, ⟨rfl, rfl⟩, (by classical exact List.perm_iff_count.2 fun a => by simp only [qR, txB, Sp.spT, Sp.spR, Sp.get3, Tk.tkR, Rt.rtR, Cu.cuR, Cu.cuB, Cu.blks_mid, List.length_nil, List.cons_append, List.nil_append, List.append_nil, List.count_cons, List.count_append, List.count_nil]; omega)⟩
theorem qs_abort_ok (I : QI) (S : QS) (x : Int) (h : x ∈ S.s.O) (w0 : World) (hfs : List PH) (hm : Mod hfs (qR I S) w0) :
    Calls Tryz.prog 28 #[pv I.m, .int .i64 x] w0 fun e' w' => ∃ v Rs', e' = .returned v ∧ (v = .int .i64 0 ∧ Rs' = qR I { S with s := aboS S.s x }) ∧ Mod hfs Rs' w' ∧ Oth w0 w' := by
  refine part_call (txB I.m I.b1 I.b2 S.s) (OTX I S) (by classical exact List.perm_iff_count.2 fun a => by simp only [qR, txB, Sp.spT, Sp.spR, Sp.get3, Tk.tkR, Rt.rtR, Cu.cuR, Cu.cuB, Cu.blks_mid, List.length_nil, List.cons_append, List.nil_append, List.append_nil, List.count_cons, List.count_append, List.count_nil]; omega) hm (fun hb hsp h1 => txn_abort_ok I.m I.b1 I.b2 S.s x h w0 _ h1) ?_
  rintro v Rs' ⟨rfl, rfl⟩
  exact ⟨_, ⟨rfl, rfl⟩, (by classical exact List.perm_iff_count.2 fun a => by simp only [qR, txB, Sp.spT, Sp.spR, Sp.get3, Tk.tkR, Rt.rtR, Cu.cuR, Cu.cuB, Cu.blks_mid, List.length_nil, List.cons_append, List.nil_append, List.append_nil, List.count_cons, List.count_append, List.count_nil]; omega)⟩
theorem qs_abort_no (I : QI) (S : QS) (x : Int) (h : ¬ x ∈ S.s.O) (w0 : World) (hfs : List PH) (hm : Mod hfs (qR I S) w0) :
    Calls Tryz.prog 28 #[pv I.m, .int .i64 x] w0 fun e' w' => ∃ v Rs', e' = .returned v ∧ (v = .int .i64 7 ∧ Rs' = qR I S) ∧ Mod hfs Rs' w' ∧ Oth w0 w' := by
  refine part_call (txB I.m I.b1 I.b2 S.s) (OTX I S) (by classical exact List.perm_iff_count.2 fun a => by simp only [qR, txB, Sp.spT, Sp.spR, Sp.get3, Tk.tkR, Rt.rtR, Cu.cuR, Cu.cuB, Cu.blks_mid, List.length_nil, List.cons_append, List.nil_append, List.append_nil, List.count_cons, List.count_append, List.count_nil]; omega) hm (fun hb hsp h1 => txn_abort_no I.m I.b1 I.b2 S.s x h w0 _ h1) ?_
  rintro v Rs' ⟨rfl, rfl⟩
  exact ⟨_, ⟨rfl, rfl⟩, (by classical exact List.perm_iff_count.2 fun a => by simp only [qR, txB, Sp.spT, Sp.spR, Sp.get3, Tk.tkR, Rt.rtR, Cu.cuR, Cu.cuB, Cu.blks_mid, List.length_nil, List.cons_append, List.nil_append, List.append_nil, List.count_cons, List.count_append, List.count_nil]; omega)⟩
end Go.Proofs.YthpcahgdobnljaaGreat

/- What the functions of package queue do: what consumers want; Free, Rotate, Trim. -/
set_option maxRecDepth 100000
set_option autoImplicit false
set_option linter.unusedVariables false
set_option linter.unusedSimpArgs false
namespace Go.RX
open Go Go.RowKit
/-- A call that keeps the condition, and a new variable, in either order. -/
theorem Go_forkL {E : Env} {ops : Array Oper} {M : List Nat} {LBR : List Res} {LX : World → Prop} {listed : Array Bool} {p : List (Nat × Bool)} {k : List KI} {l : L} {Rs : List Res} (i j : Nat) (p1 p2 : List (Nat × Bool)) {oi oj : Oper}
    (hr : (Region.ready .any ops listed == [i, j]) = true) (n1 : Nat.beq (p1.length + 1) p.length = true) (n2 : Nat.beq (p2.length + 1) p.length = true) (c1 : chk ops M (listed.setIfInBounds i true) p1 = true) (c2 : chk ops M (listed.setIfInBounds j true) p2 = true)
    (hoi : nth ops.toList i = some oi) (hoj : nth ops.toList j = some oj) (gi : wantB ops.toList l oi = true) (gj : wantB ops.toList l oj = true) (sj : ∀ R w, Mod E.hfs (R :: Rs) w → Oth E.w0 w → LBof LBR LX w)
    (hi : OpTo E l Rs oi fun l' Rs' => (∀ w, Mod E.hfs Rs' w → Oth E.w0 w → LBof LBR LX w) ∧ Go E (.any ops M LBR LX (listed.setIfInBounds i true) p1 :: k) l' Rs') (hj : vcDo E.tab E.N E.w0.heap.size l Rs oj (fun l' Rs' => (∃ R, Rs' = R :: Rs) ∧ Go E (.any ops M LBR LX (listed.setIfInBounds j true) p2 :: k) l' Rs') False) (ht : TabOk E.P E.tab) :
    Go E (.any ops M LBR LX listed p :: k) l Rs :=
  Go_fork (Ki := fun l' Rs' => (∀ w, Mod E.hfs Rs' w → Oth E.w0 w → LBof LBR LX w) ∧ Go E (.any ops M LBR LX (listed.setIfInBounds i true) p1 :: k) l' Rs') (Kj := fun l' Rs' => (∃ R, Rs' = R :: Rs) ∧ Go E (.any ops M LBR LX (listed.setIfInBounds j true) p2 :: k) l' Rs') i j p1 p2 hr n1 n2 c1 c2 hoi hoj gi gj
    (.inr fun l' Rs' h w => h.1 w) (.inr fun l' Rs' ⟨⟨R, h⟩, _⟩ w hm hio => sj R w (h ▸ hm) hio) hi (OpTo_do ht hj) (fun _ _ h => h.2) (fun _ _ h => h.2)
end Go.RX
namespace Go.Proofs.YthpcahgdobnljaaGreat
open Go.RX Go Go.RowKit


theorem qs_cuAll (I : QI) (S : QS) (hc : S.cs.length ≤ 12) (w0 : World) (hfs : List PH) (hm : Mod hfs (qR I S) w0) :
    Calls Tryz.prog 14 #[pv I.bc] w0 fun e' w' => ∃ v Rs', e' = .returned v ∧ (∃ A c ys, v = .slice A ys.length c ∧ ys.Perm (S.cs.map (·.1)) ∧ Rise ltS Cu.CurV.name ys ∧ Rs' = own Cu.encC 3 50 A c ys :: qR I S) ∧ Mod hfs Rs' w' ∧ Oth w0 w' := by
  refine part_call (Cu.cuR I.bc I.bm S.cs) ([qBI I S.nx] ++ (txB I.m I.b1 I.b2 S.s ++ (Sp.spT I.bs S.T S.cur ++ (Tk.tkR I.bt S.tA S.tc S.ts S.last ++ (Rt.rtR I.br S.rA S.rc S.xs))))) (by classical exact List.perm_iff_count.2 fun a => by simp only [qR, txB, Sp.spT, Sp.spR, Sp.get3, Tk.tkR, Rt.rtR, Cu.cuR, Cu.cuB, Cu.blks_mid, List.length_nil, List.cons_append, List.nil_append, List.append_nil, List.count_cons, List.count_append, List.count_nil]; omega) hm (fun hb hsp h => Cu.cu_all I.bc I.bm S.cs hc w0 _ h) ?_
  rintro v Rs' ⟨A, c, ys, rfl, h1, h2, rfl⟩
  exact ⟨_, ⟨A, c, ys, rfl, h1, h2, rfl⟩, (by classical exact List.perm_iff_count.2 fun a => by simp only [qR, txB, Sp.spT, Sp.spR, Sp.get3, Tk.tkR, Rt.rtR, Cu.cuR, Cu.cuB, Cu.blks_mid, List.length_nil, List.cons_append, List.nil_append, List.append_nil, List.count_cons, List.count_append, List.count_nil]; omega)⟩
theorem qs_least (I : QI) (S : QS) (hc : S.cs.length ≤ 12) (w0 : World) (hfs : List PH) (hm : Mod hfs (qR I S) w0) :
    Calls Tryz.prog 70 #[pv I.bc] w0 fun e' w' => ∃ v Rs', e' = .returned v ∧ ((∃ ys, v = Cu.leastT ys ∧ ys.Perm (S.cs.map (·.1)) ∧ Rise ltS Cu.CurV.name ys) ∧ Rs' = qR I S) ∧ Mod hfs Rs' w' ∧ Oth w0 w' := by
  refine part_call (Cu.cuR I.bc I.bm S.cs) ([qBI I S.nx] ++ (txB I.m I.b1 I.b2 S.s ++ (Sp.spT I.bs S.T S.cur ++ (Tk.tkR I.bt S.tA S.tc S.ts S.last ++ (Rt.rtR I.br S.rA S.rc S.xs))))) (by classical exact List.perm_iff_count.2 fun a => by simp only [qR, txB, Sp.spT, Sp.spR, Sp.get3, Tk.tkR, Rt.rtR, Cu.cuR, Cu.cuB, Cu.blks_mid, List.length_nil, List.cons_append, List.nil_append, List.append_nil, List.count_cons, List.count_append, List.count_nil]; omega) hm (fun hb hsp h => Cu.cu_least I.bc I.bm S.cs hc w0 _ h) ?_
  rintro v Rs' ⟨⟨ys, rfl, h1, h2⟩, rfl⟩
  exact ⟨_, ⟨⟨ys, rfl, h1, h2⟩, rfl⟩, (by classical exact List.perm_iff_count.2 fun a => by simp only [qR, txB, Sp.spT, Sp.spR, Sp.get3, Tk.tkR, Rt.rtR, Cu.cuR, Cu.cuB, Cu.blks_mid, List.length_nil, List.cons_append, List.nil_append, List.append_nil, List.count_cons, List.count_append, List.count_nil]; omega)⟩
abbrev OSP (I : QI) (S : QS) : List Res := [qBI I S.nx] ++ (txB I.m I.b1 I.b2 S.s ++ (Tk.tkR I.bt S.tA S.tc S.ts S.last ++ (Rt.rtR I.br S.rA S.rc S.xs ++ Cu.cuR I.bc I.bm S.cs)))
/-- What Rotate comes to. -/
def rotQ (I : QI) (S : QS) (free : Bool) : Value → List Res → Prop := fun v Rs =>
  ((Sp.get3 S.T (Sp.nxt S.cur)).xs = [] ∧ v = .tuple #[.int .u8 2, .int .i64 0] ∧ Rs = qR I { S with cur := Sp.nxt S.cur }) ∨
  ((Sp.get3 S.T (Sp.nxt S.cur)).xs ≠ [] ∧ free = false ∧ v = .tuple #[.int .u8 0, .int .i64 9] ∧ Rs = qR I S) ∨
  ((Sp.get3 S.T (Sp.nxt S.cur)).xs ≠ [] ∧ free = true ∧ v = .tuple #[.int .u8 1, .int .i64 0] ∧ Rs = qR I { S with T := Sp.set3 S.T (Sp.nxt S.cur) Sp.noTb })
theorem qs_rotate (I : QI) (S : QS) (free : Bool) (hi : S.cur < 3) (w0 : World) (hfs : List PH) (hm : Mod hfs (qR I S) w0) :
    Calls Tryz.prog 89 #[pv I.bs, .bool free] w0 fun e' w' => ∃ v Rs', e' = .returned v ∧ rotQ I S free v Rs' ∧ Mod hfs Rs' w' ∧ Oth w0 w' := by
  refine part_call (Sp.spT I.bs S.T S.cur) (OSP I S) (by classical exact List.perm_iff_count.2 fun a => by simp only [qR, txB, Sp.spT, Sp.spR, Sp.get3, Tk.tkR, Rt.rtR, Cu.cuR, Cu.cuB, Cu.blks_mid, List.length_nil, List.cons_append, List.nil_append, List.append_nil, List.count_cons, List.count_append, List.count_nil]; omega) hm (fun hb hsp h => Sp.spool_rotate I.bs S.T.1 S.T.2.1 S.T.2.2 S.cur free w0 _ h hi) ?_
  rintro v Rs' (⟨h0, rfl, rfl⟩ | ⟨h0, h1, rfl, rfl⟩ | ⟨h0, h1, rfl, rfl⟩)
  · exact ⟨_, .inl ⟨h0, rfl, rfl⟩, (by classical exact List.perm_iff_count.2 fun a => by simp only [qR, txB, Sp.spT, Sp.spR, Sp.get3, Tk.tkR, Rt.rtR, Cu.cuR, Cu.cuB, Cu.blks_mid, List.length_nil, List.cons_append, List.nil_append, List.append_nil, List.count_cons, List.count_append, List.count_nil]; omega)⟩
  · exact ⟨_, .inr (.inl ⟨h0, h1, rfl, rfl⟩), (by classical exact List.perm_iff_count.2 fun a => by simp only [qR, txB, Sp.spT, Sp.spR, Sp.get3, Tk.tkR, Rt.rtR, Cu.cuR, Cu.cuB, Cu.blks_mid, List.length_nil, List.cons_append, List.nil_append, List.append_nil, List.count_cons, List.count_append, List.count_nil]; omega)⟩
  · refine ⟨_, .inr (.inr ⟨h0, h1, rfl, rfl⟩), ?_⟩
    rw [Sp.spSet_eq]
    exact (by classical exact List.perm_iff_count.2 fun a => by simp only [qR, txB, Sp.spT, Sp.spR, Sp.get3, Tk.tkR, Rt.rtR, Cu.cuR, Cu.cuB, Cu.blks_mid, List.length_nil, List.cons_append, List.nil_append, List.append_nil, List.count_cons, List.count_append, List.count_nil]; omega)
theorem qs_trim (I : QI) (S : QS) (below : Int) (hn : S.ts.length ≤ 1000000) (w0 : World) (hfs : List PH) (hm : Mod hfs (qR I S) w0) :
    Calls Tryz.prog 71 #[pv I.bt, .int .i64 below] w0 fun e' w' => ∃ v Rs', e' = .returned v ∧ (v = .int .i64 ((S.ts.length : Int) - (S.ts.filter fun x => !Tk.tkGone below S.last x).length) ∧ Rs' = qR I { S with ts := S.ts.filter fun x => !Tk.tkGone below S.last x }) ∧ Mod hfs Rs' w' ∧ Oth w0 w' := by
  refine part_call (Tk.tkR I.bt S.tA S.tc S.ts S.last) ([qBI I S.nx] ++ (txB I.m I.b1 I.b2 S.s ++ (Sp.spT I.bs S.T S.cur ++ (Rt.rtR I.br S.rA S.rc S.xs ++ Cu.cuR I.bc I.bm S.cs)))) (by classical exact List.perm_iff_count.2 fun a => by simp only [qR, txB, Sp.spT, Sp.spR, Sp.get3, Tk.tkR, Rt.rtR, Cu.cuR, Cu.cuB, Cu.blks_mid, List.length_nil, List.cons_append, List.nil_append, List.append_nil, List.count_cons, List.count_append, List.count_nil]; omega) hm (fun hb hsp h => Tk.tick_trim I.bt S.tA S.tc S.ts S.last below w0 _ h hn) ?_
  rintro v Rs' ⟨rfl, rfl⟩
  exact ⟨_, ⟨rfl, rfl⟩, (by classical exact List.perm_iff_count.2 fun a => by simp only [qR, txB, Sp.spT, Sp.spR, Sp.get3, Tk.tkR, Rt.rtR, Cu.cuR, Cu.cuB, Cu.blks_mid, List.length_nil, List.cons_append, List.nil_append, List.append_nil, List.count_cons, List.count_append, List.count_nil]; omega)⟩

/-! ### what consumers want -/
abbrev snk (s : Bt.SnM) : Int × List Int := (s.mx, s.op)
abbrev tkk (t : Tk.TickM) : Int × List Int := (t.mx, t.op)
/-- The snapshots from which somebody goes on. -/
def wantL (ts : List Tk.TickM) (last : Int) (ys : List Cu.CurV) : List (Int × List Int) := (ys.map fun y => tkk (Tk.fdT (Tk.tkIs y.last) ts)) ++ if (ts.find? (Tk.tkIs last)).isSome = true then [tkk (Tk.fdT (Tk.tkIs last) ts)] else []
def BagS (sn : List Bt.SnM) (L : List (Option Addr × List Value)) : Prop := ∀ s ∈ sn, (s.A, s.op.flatMap (RX.encI .i64)) ∈ L ∧ s.op.length ≤ 1000
theorem BagS.put {sn : List Bt.SnM} {L : List (Option Addr × List Value)} (h : BagS sn L) {s : Bt.SnM} (hs : s.op.length ≤ 1000) : BagS (sn ++ [s]) ((s.A, s.op.flatMap (RX.encI .i64)) :: L) := fun u hu => by
  rcases List.mem_append.1 hu with hu | hu
  · exact ⟨List.mem_cons_of_mem _ (h u hu).1, (h u hu).2⟩
  · simp at hu; subst hu; exact ⟨List.mem_cons_self, hs⟩
def wantQ (I : QI) (S : QS) : Value → List Res → Prop := fun v Rs => ∃ ys A c sn L, ys.Perm (S.cs.map (·.1)) ∧ Rise ltS Cu.CurV.name ys ∧ v = .slice A sn.length c ∧ sn.map snk = wantL S.ts S.last ys ∧ BagS sn L ∧ Rs = own Bt.encS 2 42 A c sn :: ro L :: qR I S
set_option maxHeartbeats 4000000 in
theorem q_wanted (I : QI) (S : QS) (hc : S.cs.length ≤ 12) (hf : Tk.Fit1 S.ts) (ht : S.ts.length ≤ 1000000) (w0 : World) (hfs : List PH) (hm : Mod hfs (qR I S) w0) :
    Calls Tryz.prog 109 #[pv I.q] w0 fun e w' => ∃ v Rs', e = .returned v ∧ wantQ I S v Rs' ∧ Mod hfs Rs' w' ∧ Oth w0 w' := by
  refine enterN (tab := tab) Tryz.func109 rfl Tryz.ntmps109 rfl (args := [_]) rfl hm ?_
  refine VC_sound tabOk 100 ?_
  (repeat (first | refine Or.inl ⟨rfl, rfl, ?_⟩ | refine Or.inl ⟨rfl, ?_⟩ | refine Or.inr ?_))
  refine Go_ops rfl (OpTo_tcall [] (qR I S) rfl rfl rfl rfl rfl rfl (by kernel_rfl) (fun w hb hm hio hsp k => qs_cuAll I S hc w _ k) ?_)
  rintro _ _ ⟨Ac, cc, ys, rfl, hp, hr, rfl⟩
  have hyl : ys.length = S.cs.length := by have := hp.length_eq; simpa using this
  refine VC_sound tabOk 100 ?_
  refine Go_loop (σ := Nat × Option Addr × Nat × List Bt.SnM × List (Option Addr × List Value)) (fun ⟨i, Al, cl, sn, L⟩ => [(0, .v (pv I.q)), (3, .v (.slice Al sn.length cl)), (14, .v (.slice Ac ys.length cc)), (15, .v (.int .i64 ys.length)), (16, .v (.int .i64 i))]) (fun ⟨i, Al, cl, sn, L⟩ => own Bt.encS 2 42 Al cl sn :: ro L :: own Cu.encC 3 50 Ac cc ys :: qR I S) (fun ⟨i, Al, cl, sn, L⟩ => i ≤ ys.length ∧ sn.map snk = ((ys.take i).map fun y => tkk (Tk.fdT (Tk.tkIs y.last) S.ts)) ∧ BagS sn L) (fun u => ys.length - u.1) (0, none, 0, [], []) ⟨Nat.zero_le _, rfl, fun s hs => by simp at hs⟩ ⟨rfl, rfl, rfl, rfl, rfl, trivial⟩ (fun w h => (h.ro_nil).own_nil (enc := Bt.encS) (k := 2) (T := 42) none) ?_
  rintro ⟨i, Al, cl, sn, L⟩ ⟨hi, hsn, hB⟩
  dsimp only at hi hsn hB ⊢
  have hsl : sn.length = i := by have := congrArg List.length hsn; simpa [Nat.min_eq_left hi] using this
  by_cases hlt : i < ys.length
  · obtain ⟨y, hgy⟩ : ∃ y, ys[i]? = some y := ⟨_, List.getElem?_eq_getElem hlt⟩
    refine Go_with _ (fun w hm _ => hm.own_some (i := 2) rfl (ne_nil_of_lt hlt)) ?_
    rintro ⟨bc9, oc9, rfl⟩
    refine VC_sound tabOk 100 ?_
    refine ⟨fun _ => ?_, fun h => by first | (simp at h; done) | (simp at h; omega) | (simp_all; done)⟩
    refine ⟨⟨by omega, by omega⟩, ?_⟩
    refine Or.inr (findR_E ?_)
    refine Go_ops rfl (OpTo_loadRow tabOk Cu.encC_is (Cu.mkC y) rfl rfl rfl rfl rfl (fun h => by first | rfl | cases h) (fun w hm _ => hm.own_rd (i := 2) rfl) hgy (by simp only [addA]; rfl) ?_)
    refine VC_sound tabOk 100 ?_
    intro b5 _
    (repeat (first | refine Or.inl ⟨rfl, rfl, ?_⟩ | refine Or.inl ⟨rfl, ?_⟩ | refine Or.inr ?_))
    refine Go_res (.blk b5 50 (Cu.encC y) :: own Bt.encS 2 42 Al cl sn :: ro L :: own Cu.encC 3 50 (some ⟨bc9, oc9, none⟩) cc ys :: qR I S) (fun _ h => h) ?_
    refine Go_cut (σ := Option Addr × Nat × Nat) (fun u => [(0, .v (pv I.q)), (3, .v (.slice Al sn.length cl)), (6, .v (pv u.2.2)), (14, .v (.slice (some ⟨bc9, oc9, none⟩) ys.length cc)), (15, .v (.int .i64 ys.length)), (16, .v (.int .i64 i))]) (fun u => .blk u.2.2 44 (Tk.encT (Tk.reT (Tk.fdT (Tk.tkIs y.last) S.ts) u.1 u.2.1)) :: own (RX.encI .i64) 1 2 u.1 u.2.1 (Tk.fdT (Tk.tkIs y.last) S.ts).op :: .blk b5 50 (Cu.encC y) :: own Bt.encS 2 42 Al cl sn :: ro L :: own Cu.encC 3 50 (some ⟨bc9, oc9, none⟩) cc ys :: qR I S) (fun _ => True) ?_ ?_
    · refine Go_any mixed [6, 11] [(0, false), (1, false), (2, false), (4, false), (3, false), (5, false), (99, false), (99, false), (99, false), (99, false), (99, false), (99, false), (99, false)] rfl (by kernel_rfl) (by kernel_rfl) [.blk b5 50 (Cu.encC y), qBI I S.nx] (fun _ => True) (fun _ _ _ h => h) (fun w hm _ => ⟨Holds.of_idx [0, 4] hm, trivial⟩) ?_
      refine VC_sound tabOk 100 ?_
      (repeat (first | refine Or.inl ⟨rfl, rfl, ?_⟩ | refine Or.inl ⟨rfl, ?_⟩ | refine Or.inr ?_))
      refine Go_forkA 6 10 [(7, false), (8, false), (9, false), (10, true), (11, true), (12, false)] [(6, true), (7, false), (8, false), (9, false), (11, true), (12, false)] (by kernel_rfl) rfl rfl (by kernel_rfl) (by kernel_rfl) rfl rfl rfl rfl rfl (fun R w hm _ => ⟨Holds.of_idx [1, 5] hm, trivial⟩) ?_ ?_ tabOk
      · refine OpTo_ncall rfl rfl rfl rfl rfl (by kernel_rfl) (fun w hm _ => Tk.tick_getU I.bt S.tA S.tc S.ts S.last (y.last) w (hm.blk_at (i := 12) rfl) (hm.own_rd (i := 13) rfl) (fun t ht => hm.ro_rd (i := 14) rfl (List.mem_map.2 ⟨t, ht, rfl⟩)) (by omega) hf.fit) ?_
        rintro _ _ ⟨A, c, rfl, rfl⟩
        refine VC_sound tabOk 100 ?_
        intro b99 _
        (repeat (first | refine Or.inl ⟨rfl, rfl, ?_⟩ | refine Or.inl ⟨rfl, ?_⟩ | refine Or.inr ?_))
        exact Go_put (A, c, b99) trivial ⟨rfl, rfl, rfl, rfl, rfl, rfl, trivial⟩ (fun _ h => h)
      · intro b99 _
        refine ⟨⟨_, rfl⟩, ?_⟩
        refine Go_aloneM rfl rfl rfl (OpTo_ncall rfl rfl rfl rfl rfl (by kernel_rfl) (fun w hm _ => Tk.tick_getU I.bt S.tA S.tc S.ts S.last (y.last) w (hm.blk_at (i := 13) rfl) (hm.own_rd (i := 14) rfl) (fun t ht => hm.ro_rd (i := 15) rfl (List.mem_map.2 ⟨t, ht, rfl⟩)) (by omega) hf.fit) ?_)
        rintro _ _ ⟨A, c, rfl, rfl⟩
        refine VC_sound tabOk 100 ?_
        (repeat (first | refine Or.inl ⟨rfl, rfl, ?_⟩ | refine Or.inl ⟨rfl, ?_⟩ | refine Or.inr ?_))
        exact Go_put (A, c, b99) trivial ⟨rfl, rfl, rfl, rfl, rfl, rfl, trivial⟩ (fun _ h => h.permRs (List.Perm.swap _ _ _))
    rintro ⟨A, c, b6⟩ _
    dsimp only
    refine VC_sound tabOk 100 ?_
    (repeat (first | refine Or.inl ⟨rfl, rfl, ?_⟩ | refine Or.inl ⟨rfl, ?_⟩ | refine Or.inr ?_))
    intro b33 _
    show Go _ _ _ _
    refine Go_ops rfl (OpTo_append tabOk Bt.encS_is (ys := [(⟨(Tk.fdT (Tk.tkIs y.last) S.ts).mx, A, c, (Tk.fdT (Tk.tkIs y.last) S.ts).op⟩ : Bt.SnM)]) (i := 4) rfl rfl rfl rfl rfl rfl rfl rfl rfl rfl rfl (fun w hm _ => hm.blk_rd (i := 0) rfl) (by simp; omega) (by simp; omega) (fun A5 c5 => ?_))
    refine VC_sound tabOk 100 ?_
    refine ⟨_, wrap_i64 (n := (i : Int) + 1) (by omega) (by omega), ?_⟩
    have htk : ys.take (i + 1) = ys.take i ++ [y] := by rw [List.take_add_one, hgy]; rfl
    refine Go_fin (i + 1, A5, c5, sn ++ [(⟨(Tk.fdT (Tk.tkIs y.last) S.ts).mx, A, c, (Tk.fdT (Tk.tkIs y.last) S.ts).op⟩ : Bt.SnM)], (A, (Tk.fdT (Tk.tkIs y.last) S.ts).op.flatMap (RX.encI .i64)) :: L) ⟨by omega, by rw [htk, List.map_append, List.map_append, hsn]; rfl, hB.put (s := ⟨(Tk.fdT (Tk.tkIs y.last) S.ts).mx, A, c, (Tk.fdT (Tk.tkIs y.last) S.ts).op⟩) (hf.fd _)⟩ (by dsimp only; omega) ⟨rfl, ?_, rfl, rfl, rfl, trivial⟩ (fun w h => ?_)
    · show Value.slice _ _ _ = Value.slice _ _ _
      congr 1
      simp
    · have h2 := ((h.dropAt 0).dropAt 0).dropAt 1
      have h3 := (h2.permRs (b := own (RX.encI .i64) 1 2 A c (Tk.fdT (Tk.tkIs y.last) S.ts).op :: ro L :: own Bt.encS 2 42 A5 c5 (sn ++ [(⟨(Tk.fdT (Tk.tkIs y.last) S.ts).mx, A, c, (Tk.fdT (Tk.tkIs y.last) S.ts).op⟩ : Bt.SnM)]) :: own Cu.encC 3 50 (some ⟨bc9, oc9, none⟩) cc ys :: qR I S) ((List.Perm.swap _ _ _).cons _)).ro_add
      exact h3.permRs (List.Perm.swap _ _ _)
  have he : i = ys.length := by omega
  subst he
  rw [List.take_length] at hsn
  refine VC_sound tabOk 100 ?_
  refine ⟨fun h => by first | (simp at h; done) | (simp at h; omega) | (simp_all; done), fun _ => ?_⟩
  refine Go_cut (σ := Option Addr × Nat × Nat) (fun u => [(0, .v (pv I.q)), (3, .v (.slice Al sn.length cl)), (8, .v (pv u.2.2)), (9, .v (.bool (S.ts.find? (Tk.tkIs S.last)).isSome))]) (fun u => .blk u.2.2 44 (Tk.encT (Tk.reT (Tk.fdT (Tk.tkIs S.last) S.ts) u.1 u.2.1)) :: own (RX.encI .i64) 1 2 u.1 u.2.1 (Tk.fdT (Tk.tkIs S.last) S.ts).op :: own Bt.encS 2 42 Al cl sn :: ro L :: own Cu.encC 3 50 Ac cc ys :: qR I S) (fun _ => True) ?_ ?_
  · refine Go_any mixed [9, 14] [(0, false), (1, false), (2, false), (4, false), (5, false), (6, false), (3, false), (7, false), (99, false), (99, false), (99, false), (99, false), (99, false), (99, false), (99, false), (99, false)] rfl (by kernel_rfl) (by kernel_rfl) [qBI I S.nx] (fun _ => True) (fun _ _ _ h => h) (fun w hm _ => ⟨Holds.of_idx [3] hm, trivial⟩) ?_
    refine VC_sound tabOk 100 ?_
    (repeat (first | refine Or.inl ⟨rfl, rfl, ?_⟩ | refine Or.inl ⟨rfl, ?_⟩ | refine Or.inr ?_))
    refine Go_forkL 8 13 [(99, false), (99, false), (99, false), (99, false), (99, false), (99, false), (99, false)] [(8, true), (9, true), (10, false), (11, false), (12, false), (14, true), (15, false)] (by kernel_rfl) rfl rfl (by kernel_rfl) (by kernel_rfl) rfl rfl rfl rfl (fun R w hm _ => ⟨Holds.of_idx [4] hm, trivial⟩) ?_ ?_ tabOk
    · refine OpTo_pcall (v := .int .i64 S.last) rfl rfl rfl rfl rfl (by kernel_rfl) (fun w hm _ => Tk.tick_last I.bt S.tA S.ts.length S.tc S.last w (hm.blk_at (i := 11) rfl)) ?_
      refine And.intro (fun w hm _ => ⟨Holds.of_idx [3] hm, trivial⟩) ?_
      refine Go_forkA 9 13 [(10, false), (11, false), (12, false), (13, true), (14, true), (15, false)] [(9, true), (10, false), (11, false), (12, false), (14, true), (15, false)] (by kernel_rfl) rfl rfl (by kernel_rfl) (by kernel_rfl) rfl rfl rfl rfl rfl (fun R w hm _ => ⟨Holds.of_idx [4] hm, trivial⟩) ?_ ?_ tabOk
      · refine OpTo_ncall rfl rfl rfl rfl rfl (by kernel_rfl) (fun w hm _ => Tk.tick_getU I.bt S.tA S.tc S.ts S.last (S.last) w (hm.blk_at (i := 11) rfl) (hm.own_rd (i := 12) rfl) (fun t ht => hm.ro_rd (i := 13) rfl (List.mem_map.2 ⟨t, ht, rfl⟩)) (by omega) hf.fit) ?_
        rintro _ _ ⟨A, c, rfl, rfl⟩
        refine VC_sound tabOk 100 ?_
        intro b99 _
        (repeat (first | refine Or.inl ⟨rfl, rfl, ?_⟩ | refine Or.inl ⟨rfl, ?_⟩ | refine Or.inr ?_))
        exact Go_put (A, c, b99) trivial ⟨rfl, rfl, rfl, rfl, trivial⟩ (fun _ h => h)
      · intro b99 _
        refine ⟨⟨_, rfl⟩, ?_⟩
        refine Go_aloneM rfl rfl rfl (OpTo_ncall rfl rfl rfl rfl rfl (by kernel_rfl) (fun w hm _ => Tk.tick_getU I.bt S.tA S.tc S.ts S.last (S.last) w (hm.blk_at (i := 12) rfl) (hm.own_rd (i := 13) rfl) (fun t ht => hm.ro_rd (i := 14) rfl (List.mem_map.2 ⟨t, ht, rfl⟩)) (by omega) hf.fit) ?_)
        rintro _ _ ⟨A, c, rfl, rfl⟩
        refine VC_sound tabOk 100 ?_
        (repeat (first | refine Or.inl ⟨rfl, rfl, ?_⟩ | refine Or.inl ⟨rfl, ?_⟩ | refine Or.inr ?_))
        exact Go_put (A, c, b99) trivial ⟨rfl, rfl, rfl, rfl, trivial⟩ (fun _ h => h.permRs (List.Perm.swap _ _ _))
    · intro b99 _
      refine ⟨⟨_, rfl⟩, ?_⟩
      refine Go_aloneL rfl rfl (OpTo_pcall (v := .int .i64 S.last) rfl rfl rfl rfl rfl (by kernel_rfl) (fun w hm _ => Tk.tick_last I.bt S.tA S.ts.length S.tc S.last w (hm.blk_at (i := 12) rfl)) ?_)
      refine And.intro (fun w hm _ => ⟨Holds.of_idx [4] hm, trivial⟩) ?_
      refine VC_sound tabOk 100 ?_
      refine Go_aloneM rfl rfl rfl (OpTo_ncall rfl rfl rfl rfl rfl (by kernel_rfl) (fun w hm _ => Tk.tick_getU I.bt S.tA S.tc S.ts S.last (S.last) w (hm.blk_at (i := 12) rfl) (hm.own_rd (i := 13) rfl) (fun t ht => hm.ro_rd (i := 14) rfl (List.mem_map.2 ⟨t, ht, rfl⟩)) (by omega) hf.fit) ?_)
      rintro _ _ ⟨A, c, rfl, rfl⟩
      refine VC_sound tabOk 100 ?_
      (repeat (first | refine Or.inl ⟨rfl, rfl, ?_⟩ | refine Or.inl ⟨rfl, ?_⟩ | refine Or.inr ?_))
      exact Go_put (A, c, b99) trivial ⟨rfl, rfl, rfl, rfl, trivial⟩ (fun _ h => h.permRs (List.Perm.swap _ _ _))
  rintro ⟨A, c, b8⟩ _
  dsimp only
  cases hfd : (S.ts.find? (Tk.tkIs S.last)).isSome with
  | false =>
    refine VC_sound tabOk 100 ?_
    refine ⟨fun h => by first | (simp at h; done) | (simp at h; omega) | (simp_all; done), fun _ => ?_⟩
    refine ⟨_, ⟨ys, Al, cl, sn, L, hp, hr, rfl, by rw [wantL, if_neg (by rw [hfd]; simp), List.append_nil]; exact hsn, hB, rfl⟩, fun _ w h => ?_⟩
    exact ((h.dropAt 0).dropAt 0).dropAt 2
  | true =>
    refine VC_sound tabOk 100 ?_
    refine ⟨fun _ => ?_, fun h => by first | (simp at h; done) | (simp at h; omega) | (simp_all; done)⟩
    (repeat (first | refine Or.inl ⟨rfl, rfl, ?_⟩ | refine Or.inl ⟨rfl, ?_⟩ | refine Or.inr ?_))
    intro b33 _
    show Go _ _ _ _
    refine Go_ops rfl (OpTo_append tabOk Bt.encS_is (ys := [(⟨(Tk.fdT (Tk.tkIs S.last) S.ts).mx, A, c, (Tk.fdT (Tk.tkIs S.last) S.ts).op⟩ : Bt.SnM)]) (i := 3) rfl rfl rfl rfl rfl rfl rfl rfl rfl rfl rfl (fun w hm _ => hm.blk_rd (i := 0) rfl) (by simp; omega) (by simp; omega) (fun A5 c5 => ?_))
    refine VC_sound tabOk 100 ?_
    refine ⟨_, ⟨ys, A5, c5, sn ++ [(⟨(Tk.fdT (Tk.tkIs S.last) S.ts).mx, A, c, (Tk.fdT (Tk.tkIs S.last) S.ts).op⟩ : Bt.SnM)], (A, (Tk.fdT (Tk.tkIs S.last) S.ts).op.flatMap (RX.encI .i64)) :: L, hp, hr, ?_, by rw [wantL, if_pos hfd, List.map_append, hsn]; rfl, hB.put (s := ⟨(Tk.fdT (Tk.tkIs S.last) S.ts).mx, A, c, (Tk.fdT (Tk.tkIs S.last) S.ts).op⟩) (hf.fd _), rfl⟩, fun _ w h => ?_⟩
    · show Value.slice _ _ _ = Value.slice _ _ _
      congr 1
      simp
    · have h2 := ((h.dropAt 0).dropAt 0).dropAt 3
      have h3 := (h2.permRs (b := own (RX.encI .i64) 1 2 A c (Tk.fdT (Tk.tkIs S.last) S.ts).op :: ro L :: own Bt.encS 2 42 A5 c5 (sn ++ [(⟨(Tk.fdT (Tk.tkIs S.last) S.ts).mx, A, c, (Tk.fdT (Tk.tkIs S.last) S.ts).op⟩ : Bt.SnM)]) :: qR I S) ((List.Perm.swap _ _ _).cons _)).ro_add
      exact h3.permRs (List.Perm.swap _ _ _)

/-! ### Free, Rotate, Trim -/
/-- What Free answers. -/
def FreeV (S : QS) (b : Bool) : Prop := ∃ ys sn, ys.Perm (S.cs.map (·.1)) ∧ Rise ltS Cu.CurV.name ys ∧ sn.map snk = wantL S.ts S.last ys ∧ b = Bt.freeB (stE S.s) sn (Sp.get3 S.T (Sp.nxt S.cur)).xs
set_option maxHeartbeats 4000000 in
theorem q_free (I : QI) (S : QS) (hc : S.cs.length ≤ 12) (hf : Tk.Fit1 S.ts) (ht : S.ts.length ≤ 1000000) (hi : S.cur < 3) (hl : Sp.len3 S.T ≤ 10000) (w0 : World) (hfs : List PH) (hm : Mod hfs (qR I S) w0) :
    Calls Tryz.prog 41 #[pv I.q] w0 fun e w' => ∃ v Rs', e = .returned v ∧ (∃ b, FreeV S b ∧ v = .bool b ∧ Rs' = qR I S) ∧ Mod hfs Rs' w' ∧ Oth w0 w' := by
  have hn3 : Sp.nxt S.cur < 3 := by unfold Sp.nxt; omega
  have hl3 := Sp.len3_le S.T (Sp.nxt S.cur) hn3
  refine enterN (tab := tab) Tryz.func41 rfl Tryz.ntmps41 rfl (args := [_]) rfl hm ?_
  refine VC_sound tabOk 100 ?_
  show Go _ _ _ _
  refine Go_any mixed [] [(0, false), (1, false), (2, false), (3, false), (4, false), (5, false), (8, false), (9, false), (10, false), (12, false), (6, false), (11, false), (7, true), (13, true), (14, true), (15, false), (16, false)] rfl (by kernel_rfl) (by kernel_rfl) [qBI I S.nx] (fun _ => True) (fun _ _ _ h => h) (fun w hm _ => ⟨Holds.of_idx [0] hm, trivial⟩) ?_
  refine VC_sound tabOk 100 ?_
  (repeat (first | refine Or.inl ⟨rfl, rfl, ?_⟩ | refine Or.inl ⟨rfl, ?_⟩ | refine Or.inr ?_))
  refine Go_aloneL rfl rfl (OpTo_ncall rfl rfl rfl rfl rfl (by kernel_rfl) (fun w hm _ => Sp.spool_next I.bs S.T.1 S.T.2.1 S.T.2.2 S.cur w (hm.blk_at (i := 4) rfl) (sp_rd _ hm) hi (Nat.le_trans hl3 hl)) ?_)
  rintro _ _ ⟨A1, c1, rfl, rfl⟩
  refine And.intro (fun w hm _ => ⟨Holds.of_idx [1] hm, trivial⟩) ?_
  refine VC_sound tabOk 100 ?_
  (repeat (first | refine Or.inl ⟨rfl, rfl, ?_⟩ | refine Or.inl ⟨rfl, ?_⟩ | refine Or.inr ?_))
  refine Go_aloneL rfl rfl (OpTo_tcall [own encE 8 65 A1 c1 (Sp.pick3 S.T.1 S.T.2.1 S.T.2.2 (Sp.nxt S.cur)).xs] (qR I S) rfl rfl rfl rfl rfl rfl (by kernel_rfl) (fun w hb hm hio hsp k => q_wanted I S hc hf ht w _ k) ?_)
  rintro _ _ ⟨ys, A2, c2, sn, L, hp, hr, rfl, hsn, hB, rfl⟩
  have hsl : sn.length ≤ 13 := by
    have h1 := congrArg List.length hsn
    have h2 : ys.length = S.cs.length := by have := hp.length_eq; simpa using this
    simp only [wantL, List.length_map, List.length_append] at h1
    split at h1 <;> simp at h1 <;> omega
  refine And.intro (fun w hm _ => ⟨Holds.of_idx [3] hm, trivial⟩) ?_
  refine VC_sound tabOk 100 ?_
  (repeat (first | refine Or.inl ⟨rfl, rfl, ?_⟩ | refine Or.inl ⟨rfl, ?_⟩ | refine Or.inr ?_))
  refine Go_aloneL rfl rfl (OpTo_pcall (v := .bool (Bt.freeB (stE S.s) sn (Sp.get3 S.T (Sp.nxt S.cur)).xs)) rfl rfl rfl rfl rfl (by kernel_rfl) (fun w hm _ => Bt.batch_free A1 c1 _ (some ⟨I.m, 0, none⟩) (stE S.s) A2 c2 sn w (hm.own_rd (i := 0) rfl) (by show (Sp.get3 S.T (Sp.nxt S.cur)).xs.length ≤ 10000; omega) (Bt.StOk.some (s := S.s) (hm.blk_at (i := 4) rfl) (MpAt.of_mod (i := 5) hm rfl) (MpAt.of_mod (i := 6) hm rfl)) (hm.own_rd (i := 1) rfl) (by omega) (fun s hs => ⟨hm.ro_rd (i := 2) rfl (hB s hs).1, by have := (hB s hs).2; omega⟩)) ?_)
  refine And.intro (fun w hm _ => ⟨Holds.of_idx [3] hm, trivial⟩) ?_
  refine VC_sound tabOk 100 ?_
  exact ⟨_, ⟨_, ⟨ys, sn, hp, hr, hsn, rfl⟩, rfl, rfl⟩, fun _ _ h => h.drop (a := [_, _, _])⟩
theorem q_rotate (I : QI) (S : QS) (hc : S.cs.length ≤ 12) (hf : Tk.Fit1 S.ts) (ht : S.ts.length ≤ 1000000) (hi : S.cur < 3) (hl : Sp.len3 S.T ≤ 10000) (w0 : World) (hfs : List PH) (hm : Mod hfs (qR I S) w0) :
    Calls Tryz.prog 30 #[pv I.q] w0 fun e w' => ∃ v Rs', e = .returned v ∧ (∃ b, FreeV S b ∧ rotQ I S b v Rs') ∧ Mod hfs Rs' w' ∧ Oth w0 w' := by
  refine enterN (tab := tab) Tryz.func30 rfl Tryz.ntmps30 rfl (args := [_]) rfl hm ?_
  refine VC_sound tabOk 100 ?_
  refine Go_ops rfl (OpTo_pcall (v := pv I.bs) rfl rfl rfl rfl rfl (by kernel_rfl) (fun w hm _ => q_spools I S.nx w (hm.blk_at (i := 0) rfl)) ?_)
  refine VC_sound tabOk 100 ?_
  refine Go_ops rfl (OpTo_tcall [] (qR I S) rfl rfl rfl rfl rfl rfl (by kernel_rfl) (fun w hb hm hio hsp k => q_free I S hc hf ht hi hl w _ k) ?_)
  rintro _ _ ⟨b, hb, rfl, rfl⟩
  refine VC_sound tabOk 100 ?_
  refine Go_ops rfl (OpTo_tcall [] (qR I S) rfl rfl rfl rfl rfl rfl (by kernel_rfl) (fun w hb hm hio hsp k => qs_rotate I S b hi w _ k) ?_)
  rintro _ _ (⟨h0, rfl, rfl⟩ | ⟨h0, h1, rfl, rfl⟩ | ⟨h0, h1, rfl, rfl⟩)
  · refine VC_sound tabOk 100 ?_
    exact ⟨_, ⟨b, hb, .inl ⟨h0, rfl, rfl⟩⟩, fun _ _ h => h⟩
  · refine VC_sound tabOk 100 ?_
    exact ⟨_, ⟨b, hb, .inr (.inl ⟨h0, h1, rfl, rfl⟩)⟩, fun _ _ h => h⟩
  · refine VC_sound tabOk 100 ?_
    exact ⟨_, ⟨b, hb, .inr (.inr ⟨h0, h1, rfl, rfl⟩)⟩, fun _ _ h => h⟩
/-- Below which number ticks are let go. -/
def lowL (ys : List Cu.CurV) : Int := if 0 < ys.length then Cu.minL ys else 9223372036854775807
def trimTs (S : QS) (low : Int) : List Tk.TickM := S.ts.filter fun x => !Tk.tkGone low S.last x
set_option maxHeartbeats 1000000 in
theorem q_trim (I : QI) (S : QS) (hc : S.cs.length ≤ 12) (ht : S.ts.length ≤ 1000000) (w0 : World) (hfs : List PH) (hm : Mod hfs (qR I S) w0) :
    Calls Tryz.prog 12 #[pv I.q] w0 fun e w' => ∃ v Rs', e = .returned v ∧ (∃ ys, ys.Perm (S.cs.map (·.1)) ∧ Rise ltS Cu.CurV.name ys ∧ v = .int .i64 ((S.ts.length : Int) - (trimTs S (lowL ys)).length) ∧ Rs' = qR I { S with ts := trimTs S (lowL ys) }) ∧ Mod hfs Rs' w' ∧ Oth w0 w' := by
  refine enterN (tab := tab) Tryz.func12 rfl Tryz.ntmps12 rfl (args := [_]) rfl hm ?_
  refine VC_sound tabOk 100 ?_
  refine Go_ops rfl (OpTo_pcall (v := pv I.bc) rfl rfl rfl rfl rfl (by kernel_rfl) (fun w hm _ => q_cursors I S.nx w (hm.blk_at (i := 0) rfl)) ?_)
  refine VC_sound tabOk 100 ?_
  refine Go_ops rfl (OpTo_tcall [] (qR I S) rfl rfl rfl rfl rfl rfl (by kernel_rfl) (fun w hb hm hio hsp k => qs_least I S hc w _ k) ?_)
  rintro _ _ ⟨⟨ys, rfl, hp, hr⟩, rfl⟩
  unfold Cu.leastT
  refine VC_sound tabOk 100 ?_
  refine ⟨fun g => ?_, fun g => ?_⟩
  · have h0 : lowL ys = 9223372036854775807 := by rw [lowL, if_neg (by simpa using g)]
    refine Go_ops rfl (OpTo_pcall (v := pv I.bt) rfl rfl rfl rfl rfl (by kernel_rfl) (fun w hm _ => q_ticks I S.nx w (hm.blk_at (i := 0) rfl)) ?_)
    refine VC_sound tabOk 100 ?_
    refine Go_ops rfl (OpTo_tcall [] (qR I S) rfl rfl rfl rfl rfl rfl (by kernel_rfl) (fun w hb hm hio hsp k => qs_trim I S 9223372036854775807 ht w _ k) ?_)
    rintro _ _ ⟨rfl, rfl⟩
    refine VC_sound tabOk 100 ?_
    exact ⟨_, ⟨ys, hp, hr, by rw [h0]; rfl, by rw [h0]; rfl⟩, fun _ _ h => h⟩
  · have h0 : lowL ys = Cu.minL ys := by rw [lowL, if_pos (by simpa using g)]
    refine Go_ops rfl (OpTo_pcall (v := pv I.bt) rfl rfl rfl rfl rfl (by kernel_rfl) (fun w hm _ => q_ticks I S.nx w (hm.blk_at (i := 0) rfl)) ?_)
    refine VC_sound tabOk 100 ?_
    refine Go_ops rfl (OpTo_tcall [] (qR I S) rfl rfl rfl rfl rfl rfl (by kernel_rfl) (fun w hb hm hio hsp k => qs_trim I S (Cu.minL ys) ht w _ k) ?_)
    rintro _ _ ⟨rfl, rfl⟩
    refine VC_sound tabOk 100 ?_
    exact ⟨_, ⟨ys, hp, hr, by rw [h0]; rfl, by rw [h0]; rfl⟩, fun _ _ h => h⟩
end Go.Proofs.YthpcahgdobnljaaGreat
