/- A queue as a whole: what it owns; a call on part of it, or on it behind other memory. -/
import Derived.Test.YthpcahgdobnljaaGreatQueueN
import Derived.Test.YthpcahgdobnljaaGreatL10c
import Derived.Test.YthpcahgdobnljaaGreatTick
import Derived.Test.YthpcahgdobnljaaGreatBatch
import Derived.Test.YthpcahgdobnljaaGreatCurMid
import Derived.Test.YthpcahgdobnljaaGreatRetry
import Derived.Test.YthpcahgdobnljaaGreatTxnL
set_option maxRecDepth 100000
set_option autoImplicit false
set_option linter.unusedVariables false
set_option linter.unusedSimpArgs false
namespace Go.RX
open Go Go.RowKit
/-- A call that turns what stands behind other memory. -/
theorem OpTo_tcall {E : Env} {l : L} {Rs : List Res} {o : Oper} {c : Call} {x : Operand} {f : FuncId} {first cap : Array Value} {vs av : List Value} {K : L → List Res → Prop} {Qc : Value → List Res → Prop} (X Rp : List Res) (hp : Rs = X ++ Rp)
    (ho : o.op = .call c) (hc : c.callee = .value x) (hx : ev l x = some (.v (.func (.func f) first cap))) (hv : evs l c.args.toList = some vs) (has : first.toList ++ vs ++ cap.toList = av) (hf : callable E.P f = true)
    (hcall : ∀ w hb, Mod E.hfs Rs w → Oth E.w0 w → (∀ a' w', Mod (hb ++ E.hfs) a' w' → Mod E.hfs (X ++ a') w') → Mod (hb ++ E.hfs) Rp w → Calls E.P f av.toArray w fun e w' => ∃ v Rs', e = .returned v ∧ Qc v Rs' ∧ Mod (hb ++ E.hfs) Rs' w' ∧ Oth w w')
    (hK : ∀ v Rs', Qc v Rs' → setd E.N o.dst (.v v) l fun l' => K l' (X ++ Rs')) : OpTo E l Rs o K :=
  OpTo_call (Qc := fun u Rs2 => ∃ Rs', Qc u Rs' ∧ Rs2 = X ++ Rs') ho hc hx hv has hf
    (fun w hm hio => by
      subst hp
      obtain ⟨hb, h1, h2⟩ := (hm.permRs List.perm_append_comm).split
      have h3 : ∀ a' w', Mod (hb ++ E.hfs) a' w' → Mod E.hfs (X ++ a') w' := fun a' w' h => (h2 a' w' h).permRs List.perm_append_comm
      exact (hcall w hb hm hio h3 h1).mono fun e w' ⟨v, Rs', k1, k2, k3, k4⟩ => ⟨v, X ++ Rs', k1, ⟨Rs', k2, rfl⟩, h3 Rs' w' k3, k4⟩)
    (fun u Rs2 ⟨Rs', h1, h2⟩ => by subst h2; exact hK u Rs' h1)
/-- A call that turns part of what is owned. -/
theorem part_call {P : Program} {f : FuncId} {args : Array Value} {Q : Value → List Res → Prop} {Q2 : Value → List Res → Prop} (Rp Rr : List Res) {Rs : List Res} (hp : Rs.Perm (Rp ++ Rr)) {w0 : World} {hfs : List PH} (hm : Mod hfs Rs w0)
    (h : ∀ hb, (∀ a' w', Mod (hb ++ hfs) a' w' → Mod hfs (a' ++ Rr) w') → Mod (hb ++ hfs) Rp w0 → Calls P f args w0 fun e w' => ∃ v Rs', e = .returned v ∧ Q v Rs' ∧ Mod (hb ++ hfs) Rs' w' ∧ Oth w0 w')
    (hQ : ∀ v Rs', Q v Rs' → ∃ R2, Q2 v R2 ∧ (Rs' ++ Rr).Perm R2) :
    Calls P f args w0 fun e w' => ∃ v Rs', e = .returned v ∧ Q2 v Rs' ∧ Mod hfs Rs' w' ∧ Oth w0 w' := by
  obtain ⟨hb, h1, h2⟩ := (hm.permRs hp).split
  refine (h hb h2 h1).mono fun e w' ⟨v, Rs', k1, k2, k3, k4⟩ => ?_
  obtain ⟨R2, q1, q2⟩ := hQ v Rs' k2
  exact ⟨v, R2, k1, q1, (h2 _ _ k3).permRs q2, k4⟩
end Go.RX
namespace Go.Proofs.YthpcahgdobnljaaGreat
open Go.RX Go Go.RowKit

theorem posF_rise {k : Int} : ∀ {R : List Int} {n : Int}, (posF k R n).Pairwise (fun a b : Int => a < b)
  | [], _ => List.Pairwise.nil
  | y :: r, n => by
    have ih := posF_rise (k := k) (R := r) (n := n + 1)
    simp only [posF]
    split
    · rw [List.singleton_append, List.pairwise_cons]
      refine ⟨fun z hz => ?_, ih⟩
      have := (posF_mem.1 hz).1; omega
    · exact ih
theorem same_int {xs ys : List Int} (h : xs.Perm ys) : SameBy (fun x => x) xs ys := fun q => by
  have hp := h.filter fun x => decide (x = q)
  have e : ∀ zs : List Int, (zs.filter fun x => decide (x = q)) = List.replicate (zs.filter fun x => decide (x = q)).length q := fun zs =>
    List.eq_replicate_iff.2 ⟨rfl, fun b hb => by simpa using (List.mem_filter.1 hb).2⟩
  rw [e xs, e ys, hp.length_eq]
theorem open_is {ks : List Int} {R : List Int} (hp : ks.Perm (pos 1 R)) (hr : Rise ltI (fun x => x) ks) : ks = pos 1 R :=
  Rise.unique ordI hr (List.Pairwise.imp (fun h => by simp [ltI]; omega) posF_rise) (same_int hp)
theorem Alike.cons {s : TxS} {R : List Int} (h : Alike s R) : stE s = rState R := funext h.state

structure QI where
  q : Nat
  m : Nat
  b1 : Nat
  b2 : Nat
  bs : Nat
  bt : Nat
  bc : Nat
  bm : Nat
  br : Nat
structure QS where
  T : Sp.Tbs
  cur : Nat
  tA : Option Addr
  tc : Nat
  ts : List Tk.TickM
  last : Int
  cs : Cu.Cs
  rA : Option Addr
  rc : Nat
  xs : List Rt.ItemM
  nx : Int
  s : TxS
abbrev qBI (I : QI) (nx : Int) : Res := qB I.q (some ⟨I.m, 0, none⟩) I.bs I.bt I.bc I.br nx
abbrev qR (I : QI) (S : QS) : List Res := [qBI I S.nx] ++ (txB I.m I.b1 I.b2 S.s ++ (Sp.spT I.bs S.T S.cur ++ (Tk.tkR I.bt S.tA S.tc S.ts S.last ++ (Rt.rtR I.br S.rA S.rc S.xs ++ Cu.cuR I.bc I.bm S.cs))))
/-- What holds of any queue that the laws come to. -/
structure QOk (n : Nat) (S : QS) (R : List Int) : Prop where
  al : Alike S.s R
  rl : R.length ≤ n
  o6 : (pos 1 R).length ≤ 6
  cur : S.cur < 3
  len : Sp.len3 S.T ≤ 20 * n
  fit : Tk.TkFit S.ts
  lst : 0 ≤ S.last ∧ S.last ≤ n
  tl : S.ts.length ≤ n
  cl : S.cs.length ≤ 4
  nd : (Cu.names S.cs).Nodup
  xl : S.xs.length ≤ 16
  nx : 1 ≤ S.nx ∧ S.nx ≤ n + 1
end Go.Proofs.YthpcahgdobnljaaGreat
