/- An act at a queue and at the document's: both answer alike. -/
import Derived.Test.YthpcahgdobnljaaGreatMD
set_option maxRecDepth 100000
set_option autoImplicit false
set_option linter.unusedVariables false
set_option linter.unusedSimpArgs false
namespace Go.RX
open Go Go.RowKit
/-- A call that turns what stands between other memory. -/
theorem OpTo_xcall {E : Env} {l : L} {Rs : List Res} {o : Oper} {c : Call} {x : Operand} {f : FuncId} {first cap : Array Value} {vs av : List Value} {K : L → List Res → Prop} {Qc : Value → List Res → Prop} (X Y Rp : List Res) (hp : Rs = X ++ (Rp ++ Y))
    (ho : o.op = .call c) (hc : c.callee = .value x) (hx : ev l x = some (.v (.func (.func f) first cap))) (hv : evs l c.args.toList = some vs) (has : first.toList ++ vs ++ cap.toList = av) (hf : callable E.P f = true)
    (hcall : ∀ w hb, Mod E.hfs Rs w → Oth E.w0 w → (∀ a' w', Mod (hb ++ E.hfs) a' w' → Mod E.hfs (X ++ (a' ++ Y)) w') → Mod (hb ++ E.hfs) Rp w → Calls E.P f av.toArray w fun e w' => ∃ v Rs', e = .returned v ∧ Qc v Rs' ∧ Mod (hb ++ E.hfs) Rs' w' ∧ Oth w w')
    (hK : ∀ v Rs', Qc v Rs' → setd E.N o.dst (.v v) l fun l' => K l' (X ++ (Rs' ++ Y))) : OpTo E l Rs o K :=
  OpTo_call (Qc := fun u Rs2 => ∃ Rs', Qc u Rs' ∧ Rs2 = X ++ (Rs' ++ Y)) ho hc hx hv has hf
    (fun w hm hio => by
      subst hp
      obtain ⟨hb, h1, h2⟩ := (hm.permRs (List.perm_append_comm_assoc X Rp Y)).split
      have h3 : ∀ a' w', Mod (hb ++ E.hfs) a' w' → Mod E.hfs (X ++ (a' ++ Y)) w' := fun a' w' h => (h2 a' w' h).permRs (List.perm_append_comm_assoc a' X Y)
      exact (hcall w hb hm hio h3 h1).mono fun e w' ⟨v, Rs', k1, k2, k3, k4⟩ => ⟨v, X ++ (Rs' ++ Y), k1, ⟨Rs', k2, rfl⟩, h3 Rs' w' k3, k4⟩)
    (fun u Rs2 ⟨Rs', h1, h2⟩ => by subst h2; exact hK u Rs' h1)
end Go.RX
namespace Go.Proofs.YthpcahgdobnljaaGreat
open Go.RX Go Go.RowKit Go.ChangeShapes Go.WideShapes Go.ChangeAt


theorem batE_uniq {S : QS} {y : Cu.CurV} {ys zs : List EventM} (h : BatE S y ys) (g : BatE S y zs) : ys = zs := by
  obtain ⟨l1, A1, c1, A2, c2, hz, hy⟩ := h
  obtain ⟨l2, B1, d1, B2, d2, gz, gy⟩ := g
  have e1 : l2 = l1 := Rise.unique ordI gz.2.1 hz.2.1 (gz.1.symm.trans hz.1)
  subst e1
  exact Rise.unique ordI hy.2.1 gy.2.1 (hy.1.symm.trans gy.1)
theorem first_ev {ys : List EventM} {id : Int} {i j : Nat} {e d : EventM} (h1 : ys[i]? = some e) (h2 : e.id = id) (h3 : ∀ z ∈ ys.take i, z.id ≠ id) (g1 : ys[j]? = some d) (g2 : d.id = id) (g3 : ∀ z ∈ ys.take j, z.id ≠ id) : e = d := by
  have key : ∀ {a b : Nat} {u : EventM}, a < b → ys[a]? = some u → u ∈ ys.take b := fun {a b u} hab hu => by
    obtain ⟨hl, rfl⟩ := List.getElem?_eq_some_iff.1 hu
    exact List.mem_take_iff_getElem.2 ⟨a, by omega, rfl⟩
  rcases Nat.lt_trichotomy i j with h | rfl | h
  · exact absurd h2 (g3 e (key h h1))
  · rw [h1] at g1; exact Option.some.inj g1
  · exact absurd g2 (h3 d (key h g1))
theorem first15 (a e : Int) (w0 : World) : Calls Tryz.prog 50 #[.int .i64 a, .int .i64 a, .int .i64 e, .int .i64 e] w0 fun r w' => r = .returned (.bool true) ∧ BelowD w0.heap.size w0 w' := by
  refine enterP (tab := tab) Tryz.func50 rfl Tryz.ntmps50 rfl (args := [_, _, _, _]) rfl ?_
  refine VC_sound tabOk 100 ?_
  refine ⟨fun _ => ?_, fun h => by simp at h⟩
  exact congrArg Value.bool (by simp)
def nameA (a : Act15) : ByteArray := if 250 ≤ a.who then ⟨#[]⟩ else bytesOf [97 + a.who.tmod 5]
theorem name15 (a : Act15) (hw : 0 ≤ a.who ∧ a.who ≤ 255) {nm : ByteArray} (hnm : nm = nameA a) (w0 : World) : Calls Tryz.prog 57 #[mkA a] w0 fun r w' => r = .returned (.string nm) ∧ BelowD w0.heap.size w0 w' := by
  obtain ⟨K, hK, hK5⟩ := tmod_nat15 5 (by decide) hw.1
  have hK2 : a.who.tmod 5 = (K : Int) := hK
  refine enterP (tab := tab) Tryz.func57 rfl Tryz.ntmps57 rfl (args := [_]) rfl ?_
  refine VC_sound tabOk 100 ?_
  intro b1 _
  (repeat (first | refine Or.inl ⟨rfl, rfl, ?_⟩ | refine Or.inl ⟨rfl, ?_⟩ | refine Or.inr ?_))
  refine ⟨fun h => ?_, fun h => ?_⟩
  · exact congrArg Value.string (by rw [hnm, nameA, if_pos (by simpa using h)])
  · (repeat (first | refine Or.inl ⟨rfl, rfl, ?_⟩ | refine Or.inl ⟨rfl, ?_⟩ | refine Or.inr ?_))
    refine ⟨by decide, _, hK.symm, ?_⟩
    refine ⟨_, wrap_u8 (n := 97 + (K : Int)) (by omega) (by omega), ?_⟩
    intro b9 _
    refine Go_ops rfl (OpTo_bytesStr tabOk (ns := [97 + (K : Int)]) rfl rfl rfl rfl rfl rfl (fun w hm _ => hm.blk_rd (i := 0) rfl) ?_)
    refine VC_sound tabOk 100 ?_
    exact congrArg Value.string (by rw [hnm, nameA, if_neg (by simpa using h), hK2])

theorem ev_same15 {a b : EventM} (h : a = b) (x y : Operand) (w : World) : (binRun .eql 65 x y (mkE a) (mkE b)).run Tryz.prog w = .ok (.bool true) w := by
  have := ev_eql a b x y w
  rw [evEq_iff.2 h] at this; exact this
theorem own_snR {hfs : List PH} {Rs : List Res} {w : World} {T : TypeId} {A : Option Addr} {c : Nat} {xs : List Int} (h : Mod hfs (own (RX.encI .i64) 1 T A c xs :: Rs) w) : Mod hfs (Tk.snR A xs :: Rs) w :=
  ((h.ro_nil).permRs (List.Perm.swap _ _ _)).ro_add
abbrev actB (b : Nat) (a : Act15) : Res := .blk b 28 (encA a)
abbrev rowB (b K : Nat) : Res := .blk b 63 [.int .i64 K, .string ⟨#[116]⟩]
abbrev runB (bx : Nat) (I : QI) (J : RI) : Res := .blk bx 34 [pv I.m, pv J.br, pv I.q, pv J.b]
abbrev allR (bx : Nat) (I : QI) (J : RI) (S : QS) (P : RS) : List Res := runB bx I J :: (rqR J P ++ qR I S)
set_option maxHeartbeats 64000000 in
theorem do_step (bx : Nat) (I : QI) (J : RI) (n : Nat) (hn : n ≤ 200) (S : QS) (P : RS) (hv : PInv n S P) (a : Act15) (ho : (0 ≤ a.d_ ∧ a.d_ ≤ 255) ∧ (0 ≤ a.who ∧ a.who ≤ 255) ∧ (0 ≤ a.key ∧ a.key ≤ 255)) (w0 : World) (hfs : List PH) (hm : Mod hfs (allR bx I J S P) w0) :
    Calls Tryz.prog 11 #[pv bx, mkA a] w0 fun e w' => ∃ v Rs', e = .returned v ∧ (∃ S' P', PInv (n + 1) S' P' ∧ v = .bool true ∧ Rs' = allR bx I J S' P') ∧ Mod hfs Rs' w' ∧ Oth w0 w' := by
  have hO := hv.al.O
  have hnx := hv.al.next
  have hrl := hv.rl
  have h06 := hv.o6
  have hlst := hv.lst
  have htl := hv.tl
  have hlen := hv.tb.len
  have hxl := hv.xl
  have hlk := hv.tk.len
  have hyl := hv.cu.len
  have hcl := hv.cu.clen
  have hc3 := hv.cur3
  have hnx2 := hv.nx
  have hfu : Tk.Fit1 P.us := hv.tk.fit hv.fit
  have hlp : Sp.len3 P.T = Sp.len3 S.T := (Sp.len3_eq hv.tb.same).symm
  obtain ⟨D24, hD, hD24⟩ := tmod_nat15 24 (by decide) ho.1.1
  obtain ⟨H4, hH4, hH44⟩ := tmod_nat15 4 (by decide) ho.2.1.1
  obtain ⟨K5, hK5, hK55⟩ := tmod_nat15 5 (by decide) ho.2.2.1
  obtain ⟨K4, hK4, hK44⟩ := tmod_nat15 4 (by decide) ho.2.2.1
  refine enterN (tab := tab) Tryz.func11 rfl Tryz.ntmps11 rfl (args := [_, _]) rfl hm ?_
  refine VC_sound tabOk 100 ?_
  intro b3 _
  show Go _ _ _ _
  refine Go_any mixed [] [(0, false), (1, false), (2, false), (6, false), (3, false), (7, false), (8, false), (9, false), (4, true), (5, false), (10, false), (11, false)] rfl (by kernel_rfl) (by kernel_rfl) [actB b3 a, runB bx I J] (fun _ => True) (fun _ _ _ h => h) (fun w hm _ => ⟨Holds.of_idx [0, 1] hm, trivial⟩) ?_
  refine VC_sound tabOk 100 ?_
  (repeat (first | refine Or.inl ⟨rfl, rfl, ?_⟩ | refine Or.inl ⟨rfl, ?_⟩ | refine Or.inr ?_))
  refine ⟨by decide, _, hH4.symm, ?_⟩
  refine ⟨_, wrap_i64 (n := (H4 : Int)) (by omega) (by omega), ?_⟩
  refine Go_aloneL rfl rfl (OpTo_pcall (v := .int .i64 ((P.R.length : Int) + 1)) rfl rfl rfl rfl rfl (by kernel_rfl) (fun w hm _ => r06_next J.br P.RA P.Rc P.R w (hm.blk_at (i := 10) rfl) (by omega)) ?_)
  refine And.intro (fun w hm _ => ⟨Holds.of_idx [0, 1] hm, trivial⟩) ?_
  refine VC_sound tabOk 28 ?_
  refine ⟨_, wrap_i64 (n := (P.R.length : Int) + 1 - 1) (by omega) (by omega), ?_⟩
  refine ⟨_, wrap_i64 (n := (P.R.length : Int) + 1 - 1 - (H4 : Int)) (by omega) (by omega), ?_⟩
  generalize (P.R.length : Int) + 1 - 1 - (H4 : Int) = x
  (repeat (first | refine Or.inl ⟨rfl, rfl, ?_⟩ | refine Or.inl ⟨rfl, ?_⟩ | refine Or.inr ?_))
  refine ⟨by decide, _, hK5.symm, ?_⟩
  refine ⟨_, wrap_i64 (n := (K5 : Int)) (by omega) (by omega), ?_⟩
  intro b6 _
  (repeat (first | refine Or.inl ⟨rfl, rfl, ?_⟩ | refine Or.inl ⟨rfl, ?_⟩ | refine Or.inr ?_))
  refine ⟨by decide, _, hD.symm, ?_⟩
  show Go _ (KI.code (Code.cond _ _ _) :: _) _ _
  refine Go_cut (σ := Bool) (fun q => [(0, .v (pv bx)), (3, .v (pv b3)), (5, .v (.int .i64 x)), (6, .v (pv b6)), (50, .v (.int .u8 D24)), (51, .v (.bool q))]) (fun _ => rowB b6 K5 :: actB b3 a :: runB bx I J :: (rqR J P ++ (qR I S))) (fun _ => True) ?_ ?_
  · refine VC_sound tabOk 100 ?_
    refine ⟨fun h => ?_, fun h => ?_⟩
    · exact Go_put (true) trivial ⟨rfl, rfl, rfl, rfl, rfl, rfl, trivial⟩ (fun _ h => h)
    exact Go_put (decide ((D24 : Int) = 1)) trivial ⟨rfl, rfl, rfl, rfl, rfl, rfl, trivial⟩ (fun _ h => h)
  intro q _
  refine VC_sound tabOk 6 ?_
  refine ⟨fun h => ?_, fun h => ?_⟩
  · by_cases h6 : (pos 1 P.R).length < 6
    · refine VC_sound tabOk 100 ?_
      (repeat (first | refine Or.inl ⟨rfl, rfl, ?_⟩ | refine Or.inl ⟨rfl, ?_⟩ | refine Or.inr ?_))
      refine Go_ops rfl (OpTo_tcall ([rowB b6 K5, actB b3 a, runB bx I J] ++ rqR J P) (qR I S) rfl rfl rfl rfl rfl rfl (by kernel_rfl) (fun w hb hm hio hsp k => qs_begin_ok I S P.R hv.al h6 (by omega) w _ k) ?_)
      rintro _ _ ⟨rfl, rfl⟩
      refine VC_sound tabOk 100 ?_
      (repeat (first | refine Or.inl ⟨rfl, rfl, ?_⟩ | refine Or.inl ⟨rfl, ?_⟩ | refine Or.inr ?_))
      refine Go_ops rfl (OpTo_xcall [rowB b6 K5, actB b3 a, runB bx I J] (qR I { S with s := begS S.s }) (rqR J P) rfl rfl rfl rfl rfl rfl (by kernel_rfl) (fun w hb hm hio hsp k => ps_begin_ok J P ⟨h6, by omega⟩ w _ k) ?_)
      rintro _ _ ⟨rfl, A1, c1, rfl⟩
      refine VC_sound tabOk 100 ?_
      refine Go_ops rfl (OpTo_pcall (v := .bool true) rfl rfl rfl rfl rfl (by kernel_rfl) (fun w hm _ => first15 ((P.R.length : Int) + 1) 0 w) ?_)
      refine VC_sound tabOk 100 ?_
      exact ⟨_, ⟨_, _, hv.begin h6 A1 c1, rfl, rfl⟩, fun _ _ h => h.drop (a := [_, _])⟩
    · refine VC_sound tabOk 100 ?_
      (repeat (first | refine Or.inl ⟨rfl, rfl, ?_⟩ | refine Or.inl ⟨rfl, ?_⟩ | refine Or.inr ?_))
      refine Go_ops rfl (OpTo_tcall ([rowB b6 K5, actB b3 a, runB bx I J] ++ rqR J P) (qR I S) rfl rfl rfl rfl rfl rfl (by kernel_rfl) (fun w hb hm hio hsp k => qs_begin_full I S P.R hv.al h6 w _ k) ?_)
      rintro _ _ ⟨rfl, rfl⟩
      refine VC_sound tabOk 100 ?_
      (repeat (first | refine Or.inl ⟨rfl, rfl, ?_⟩ | refine Or.inl ⟨rfl, ?_⟩ | refine Or.inr ?_))
      refine Go_ops rfl (OpTo_xcall [rowB b6 K5, actB b3 a, runB bx I J] (qR I S) (rqR J P) rfl rfl rfl rfl rfl rfl (by kernel_rfl) (fun w hb hm hio hsp k => ps_begin_no J P (by omega) (by omega) w _ k) ?_)
      rintro _ _ ⟨rfl, rfl⟩
      refine VC_sound tabOk 100 ?_
      refine Go_ops rfl (OpTo_pcall (v := .bool true) rfl rfl rfl rfl rfl (by kernel_rfl) (fun w hm _ => first15 0 8 w) ?_)
      refine VC_sound tabOk 100 ?_
      exact ⟨_, ⟨_, _, hv.up, rfl, rfl⟩, fun _ _ h => h.drop (a := [_, _])⟩
  show Go _ (KI.code (Code.cond _ _ _) :: _) _ _
  refine Go_cut (σ := Bool) (fun q => [(0, .v (pv bx)), (3, .v (pv b3)), (5, .v (.int .i64 x)), (6, .v (pv b6)), (50, .v (.int .u8 D24)), (75, .v (.bool q))]) (fun _ => rowB b6 K5 :: actB b3 a :: runB bx I J :: (rqR J P ++ (qR I S))) (fun _ => True) ?_ ?_
  · refine VC_sound tabOk 100 ?_
    refine ⟨fun h => ?_, fun h => ?_⟩
    · exact Go_put (true) trivial ⟨rfl, rfl, rfl, rfl, rfl, rfl, trivial⟩ (fun _ h => h)
    refine ⟨fun h => ?_, fun h => ?_⟩
    · exact Go_put (true) trivial ⟨rfl, rfl, rfl, rfl, rfl, rfl, trivial⟩ (fun _ h => h)
    refine ⟨fun h => ?_, fun h => ?_⟩
    · exact Go_put (true) trivial ⟨rfl, rfl, rfl, rfl, rfl, rfl, trivial⟩ (fun _ h => h)
    exact Go_put (decide ((D24 : Int) = 5)) trivial ⟨rfl, rfl, rfl, rfl, rfl, rfl, trivial⟩ (fun _ h => h)
  intro q _
  refine VC_sound tabOk 6 ?_
  refine ⟨fun h => ?_, fun h => ?_⟩
  · refine VC_sound tabOk 100 ?_
    show Go _ _ _ _
    refine Go_any mixed [] [(0, false), (1, false), (2, false), (4, false), (5, false), (9, false), (15, false), (16, false), (17, false), (19, false), (20, false), (24, false), (3, false), (6, false), (7, false), (8, false), (10, false), (11, false), (12, false), (13, false), (18, false), (21, false), (22, false), (23, false), (25, false), (26, false), (27, false), (28, false), (14, true), (29, true), (30, false), (31, false)] rfl (by kernel_rfl) (by kernel_rfl) [rowB b6 K5, actB b3 a, runB bx I J] (fun _ => True) (fun _ _ _ h => h) (fun w hm _ => ⟨Holds.of_idx [0, 1, 2] hm, trivial⟩) ?_
    refine VC_sound tabOk 100 ?_
    (repeat (first | refine Or.inl ⟨rfl, rfl, ?_⟩ | refine Or.inl ⟨rfl, ?_⟩ | refine Or.inr ?_))
    refine ⟨by decide, _, hK4.symm, ?_⟩
    refine ⟨_, wrap_i64 (n := (K4 : Int)) (by omega) (by omega), ?_⟩
    (repeat (first | refine Or.inl ⟨rfl, rfl, ?_⟩ | refine Or.inl ⟨rfl, ?_⟩ | refine Or.inr ?_))
    refine ⟨by decide, _, hK4.symm, ?_⟩
    refine ⟨_, wrap_u8 (n := 1 + (K4 : Int)) (by omega) (by omega), ?_⟩
    (repeat (first | refine Or.inl ⟨rfl, rfl, ?_⟩ | refine Or.inl ⟨rfl, ?_⟩ | refine Or.inr ?_))
    refine ⟨by decide, _, hK4.symm, ?_⟩
    refine ⟨_, wrap_i64 (n := (K4 : Int)) (by omega) (by omega), ?_⟩
    (repeat (first | refine Or.inl ⟨rfl, rfl, ?_⟩ | refine Or.inl ⟨rfl, ?_⟩ | refine Or.inr ?_))
    refine ⟨by decide, _, hK4.symm, ?_⟩
    refine ⟨_, wrap_u8 (n := 1 + (K4 : Int)) (by omega) (by omega), ?_⟩
    (repeat (first | refine Or.inl ⟨rfl, rfl, ?_⟩ | refine Or.inl ⟨rfl, ?_⟩ | refine Or.inr ?_))
    refine Go_aloneL rfl rfl (OpTo_tcall ([rowB b6 K5, actB b3 a, runB bx I J] ++ rqR J P) (qR I S) rfl rfl rfl rfl rfl rfl (by kernel_rfl) (fun w hb hm hio hsp k => q_write I S x (K4 : Int) (1 + (K4 : Int)) (K5 : Int) ⟨#[116]⟩ hc3.1 (by omega) ⟨by omega, by omega⟩ w _ k) ?_)
    rintro _ _ ⟨rfl, A1, c1, rfl⟩
    refine And.intro (fun w hm _ => ⟨Holds.of_idx [0, 1, 2] hm, trivial⟩) ?_
    refine VC_sound tabOk 100 ?_
    refine Go_aloneL rfl rfl (OpTo_xcall [rowB b6 K5, actB b3 a, runB bx I J] (qR I { S.put A1 c1 (evW S x (K4 : Int) (1 + (K4 : Int)) (K5 : Int) ⟨#[116]⟩) with nx := S.nx + 1 }) (rqR J P) rfl rfl rfl rfl rfl rfl (by kernel_rfl) (fun w hb hm hio hsp k => pr_write J P x (K4 : Int) (1 + (K4 : Int)) (K5 : Int) ⟨#[116]⟩ hc3.2 (by omega) ⟨by omega, by omega⟩ w _ k) ?_)
    rintro _ _ ⟨rfl, A2, c2, rfl⟩
    refine And.intro (fun w hm _ => ⟨Holds.of_idx [0, 1, 2] hm, trivial⟩) ?_
    refine VC_sound tabOk 100 ?_
    have hw := hv.write x (K4 : Int) (1 + (K4 : Int)) (K5 : Int) ⟨#[116]⟩ A1 c1 A2 c2
    refine Go_firstB (.bool true) rfl rfl rfl rfl rfl (fun w => ev_same15 hw.1 _ _ w) ?_
    refine VC_sound tabOk 100 ?_
    exact ⟨_, ⟨_, _, hw.2, rfl, rfl⟩, fun _ _ h => h.drop (a := [_, _])⟩
  show Go _ (KI.code (Code.cond _ _ _) :: _) _ _
  refine Go_cut (σ := Bool) (fun q => [(0, .v (pv bx)), (3, .v (pv b3)), (5, .v (.int .i64 x)), (6, .v (pv b6)), (50, .v (.int .u8 D24)), (111, .v (.bool q))]) (fun _ => rowB b6 K5 :: actB b3 a :: runB bx I J :: (rqR J P ++ (qR I S))) (fun _ => True) ?_ ?_
  · refine VC_sound tabOk 100 ?_
    refine ⟨fun h => ?_, fun h => ?_⟩
    · exact Go_put (true) trivial ⟨rfl, rfl, rfl, rfl, rfl, rfl, trivial⟩ (fun _ h => h)
    exact Go_put (decide ((D24 : Int) = 7)) trivial ⟨rfl, rfl, rfl, rfl, rfl, rfl, trivial⟩ (fun _ h => h)
  intro q _
  refine VC_sound tabOk 6 ?_
  refine ⟨fun h => ?_, fun h => ?_⟩
  · by_cases hx : rState P.R x = 1
    · have hp := (rState_one x).1 hx
      have hxO : x ∈ S.s.O := by rw [hO]; exact hp
      refine VC_sound tabOk 100 ?_
      show Go _ _ _ _
      refine Go_any mixed [] [(0, false), (1, false), (2, false), (4, false), (6, false), (7, false), (8, false), (10, false), (3, false), (9, false), (5, true), (11, true), (12, false), (13, false)] rfl (by kernel_rfl) (by kernel_rfl) [rowB b6 K5, actB b3 a, runB bx I J] (fun _ => True) (fun _ _ _ h => h) (fun w hm _ => ⟨Holds.of_idx [0, 1, 2] hm, trivial⟩) ?_
      refine VC_sound tabOk 100 ?_
      (repeat (first | refine Or.inl ⟨rfl, rfl, ?_⟩ | refine Or.inl ⟨rfl, ?_⟩ | refine Or.inr ?_))
      refine Go_aloneL rfl rfl (OpTo_tcall ([rowB b6 K5, actB b3 a, runB bx I J] ++ rqR J P) (qR I S) rfl rfl rfl rfl rfl rfl (by kernel_rfl) (fun w hb hm hio hsp k => qs_commit_ok I S x hxO w _ k) ?_)
      rintro _ _ ⟨rfl, rfl⟩
      refine And.intro (fun w hm _ => ⟨Holds.of_idx [0, 1, 2] hm, trivial⟩) ?_
      refine VC_sound tabOk 100 ?_
      refine Go_aloneL rfl rfl (OpTo_xcall [rowB b6 K5, actB b3 a, runB bx I J] (qR I { S with s := comS S.s x }) (rqR J P) rfl rfl rfl rfl rfl rfl (by kernel_rfl) (fun w hb hm hio hsp k => ps_end J P x 2 (by omega) w _ k) ?_)
      rintro _ _ (⟨h0, rfl, rfl⟩ | ⟨h0, rfl, rfl⟩)
      rotate_left
      · exact absurd hx h0
      refine And.intro (fun w hm _ => ⟨Holds.of_idx [0, 1, 2] hm, trivial⟩) ?_
      refine VC_sound tabOk 100 ?_
      exact ⟨_, ⟨_, _, hv.commit hp, rfl, rfl⟩, fun _ _ h => h.drop (a := [_, _])⟩
    · have hxO : ¬ x ∈ S.s.O := by rw [hO]; exact fun h => hx ((rState_one x).2 h)
      refine VC_sound tabOk 100 ?_
      show Go _ _ _ _
      refine Go_any mixed [] [(0, false), (1, false), (2, false), (4, false), (6, false), (7, false), (8, false), (10, false), (3, false), (9, false), (5, true), (11, true), (12, false), (13, false)] rfl (by kernel_rfl) (by kernel_rfl) [rowB b6 K5, actB b3 a, runB bx I J] (fun _ => True) (fun _ _ _ h => h) (fun w hm _ => ⟨Holds.of_idx [0, 1, 2] hm, trivial⟩) ?_
      refine VC_sound tabOk 100 ?_
      (repeat (first | refine Or.inl ⟨rfl, rfl, ?_⟩ | refine Or.inl ⟨rfl, ?_⟩ | refine Or.inr ?_))
      refine Go_aloneL rfl rfl (OpTo_tcall ([rowB b6 K5, actB b3 a, runB bx I J] ++ rqR J P) (qR I S) rfl rfl rfl rfl rfl rfl (by kernel_rfl) (fun w hb hm hio hsp k => qs_commit_no I S x hxO w _ k) ?_)
      rintro _ _ ⟨rfl, rfl⟩
      refine And.intro (fun w hm _ => ⟨Holds.of_idx [0, 1, 2] hm, trivial⟩) ?_
      refine VC_sound tabOk 100 ?_
      refine Go_aloneL rfl rfl (OpTo_xcall [rowB b6 K5, actB b3 a, runB bx I J] (qR I S) (rqR J P) rfl rfl rfl rfl rfl rfl (by kernel_rfl) (fun w hb hm hio hsp k => ps_end J P x 2 (by omega) w _ k) ?_)
      rintro _ _ (⟨h0, rfl, rfl⟩ | ⟨h0, rfl, rfl⟩)
      · exact absurd h0 hx
      refine And.intro (fun w hm _ => ⟨Holds.of_idx [0, 1, 2] hm, trivial⟩) ?_
      refine VC_sound tabOk 100 ?_
      exact ⟨_, ⟨_, _, hv.up, rfl, rfl⟩, fun _ _ h => h.drop (a := [_, _])⟩
  refine VC_sound tabOk 6 ?_
  refine ⟨fun h => ?_, fun h => ?_⟩
  · by_cases hx : rState P.R x = 1
    · have hp := (rState_one x).1 hx
      have hxO : x ∈ S.s.O := by rw [hO]; exact hp
      refine VC_sound tabOk 100 ?_
      show Go _ _ _ _
      refine Go_any mixed [] [(0, false), (1, false), (2, false), (4, false), (6, false), (7, false), (8, false), (10, false), (3, false), (9, false), (5, true), (11, true), (12, false)] rfl (by kernel_rfl) (by kernel_rfl) [rowB b6 K5, actB b3 a, runB bx I J] (fun _ => True) (fun _ _ _ h => h) (fun w hm _ => ⟨Holds.of_idx [0, 1, 2] hm, trivial⟩) ?_
      refine VC_sound tabOk 100 ?_
      (repeat (first | refine Or.inl ⟨rfl, rfl, ?_⟩ | refine Or.inl ⟨rfl, ?_⟩ | refine Or.inr ?_))
      refine Go_aloneL rfl rfl (OpTo_tcall ([rowB b6 K5, actB b3 a, runB bx I J] ++ rqR J P) (qR I S) rfl rfl rfl rfl rfl rfl (by kernel_rfl) (fun w hb hm hio hsp k => qs_abort_ok I S x hxO w _ k) ?_)
      rintro _ _ ⟨rfl, rfl⟩
      refine And.intro (fun w hm _ => ⟨Holds.of_idx [0, 1, 2] hm, trivial⟩) ?_
      refine VC_sound tabOk 100 ?_
      refine Go_aloneL rfl rfl (OpTo_xcall [rowB b6 K5, actB b3 a, runB bx I J] (qR I { S with s := aboS S.s x }) (rqR J P) rfl rfl rfl rfl rfl rfl (by kernel_rfl) (fun w hb hm hio hsp k => ps_end J P x 3 (by omega) w _ k) ?_)
      rintro _ _ (⟨h0, rfl, rfl⟩ | ⟨h0, rfl, rfl⟩)
      rotate_left
      · exact absurd hx h0
      refine And.intro (fun w hm _ => ⟨Holds.of_idx [0, 1, 2] hm, trivial⟩) ?_
      refine VC_sound tabOk 100 ?_
      refine ⟨fun h => by first | (simp at h; done) | (simp at h; omega) | (simp_all; done), fun _ => ?_⟩
      have hv1 : PInv n { S with s := aboS S.s x } { P with R := endR P.R x 3 } := hv.abort hp
      refine Go_res (rowB b6 K5 :: actB b3 a :: runB bx I J :: (rqR J { P with R := endR P.R x 3 } ++ (qR I { S with s := aboS S.s x }))) (fun _ h => h) ?_
      show Go _ _ _ _
      refine Go_any mixed [] [(0, false), (1, false), (2, false), (4, false), (6, false), (7, false), (8, false), (12, false), (3, false), (9, false), (10, false), (11, false), (5, true), (13, true), (14, false), (15, false)] rfl (by kernel_rfl) (by kernel_rfl) [rowB b6 K5, actB b3 a, runB bx I J] (fun _ => True) (fun _ _ _ h => h) (fun w hm _ => ⟨Holds.of_idx [0, 1, 2] hm, trivial⟩) ?_
      refine VC_sound tabOk 100 ?_
      (repeat (first | refine Or.inl ⟨rfl, rfl, ?_⟩ | refine Or.inl ⟨rfl, ?_⟩ | refine Or.inr ?_))
      refine Go_aloneL rfl rfl (OpTo_tcall ([rowB b6 K5, actB b3 a, runB bx I J] ++ rqR J { P with R := endR P.R x 3 }) (qR I { S with s := aboS S.s x }) rfl rfl rfl rfl rfl rfl (by kernel_rfl) (fun w hb hm hio hsp k => q_forget I { S with s := aboS S.s x } x (by first | omega | (dsimp only; omega)) w _ k) ?_)
      rintro _ _ ⟨rfl, rfl⟩
      refine And.intro (fun w hm _ => ⟨Holds.of_idx [0, 1, 2] hm, trivial⟩) ?_
      refine VC_sound tabOk 100 ?_
      refine Go_aloneL rfl rfl (OpTo_xcall [rowB b6 K5, actB b3 a, runB bx I J] (qR I { { S with s := aboS S.s x } with T := (Sp.tf x S.T.1, Sp.tf x S.T.2.1, Sp.tf x S.T.2.2) }) (rqR J { P with R := endR P.R x 3 }) rfl rfl rfl rfl rfl rfl (by kernel_rfl) (fun w hb hm hio hsp k => ps_forget J { P with R := endR P.R x 3 } x (by first | omega | (dsimp only; omega)) w _ k) ?_)
      rintro _ _ ⟨T2, rfl, hT2, rfl⟩
      refine And.intro (fun w hm _ => ⟨Holds.of_idx [0, 1, 2] hm, trivial⟩) ?_
      refine VC_sound tabOk 100 ?_
      exact ⟨_, ⟨_, _, hv1.forget x hT2, congrArg Value.bool (Sp.InvS.forgetN hv1.tb x hT2), rfl⟩, fun _ _ h => h.drop (a := [_, _])⟩
    · have hxO : ¬ x ∈ S.s.O := by rw [hO]; exact fun h => hx ((rState_one x).2 h)
      refine VC_sound tabOk 100 ?_
      show Go _ _ _ _
      refine Go_any mixed [] [(0, false), (1, false), (2, false), (4, false), (6, false), (7, false), (8, false), (10, false), (3, false), (9, false), (5, true), (11, true), (12, false)] rfl (by kernel_rfl) (by kernel_rfl) [rowB b6 K5, actB b3 a, runB bx I J] (fun _ => True) (fun _ _ _ h => h) (fun w hm _ => ⟨Holds.of_idx [0, 1, 2] hm, trivial⟩) ?_
      refine VC_sound tabOk 100 ?_
      (repeat (first | refine Or.inl ⟨rfl, rfl, ?_⟩ | refine Or.inl ⟨rfl, ?_⟩ | refine Or.inr ?_))
      refine Go_aloneL rfl rfl (OpTo_tcall ([rowB b6 K5, actB b3 a, runB bx I J] ++ rqR J P) (qR I S) rfl rfl rfl rfl rfl rfl (by kernel_rfl) (fun w hb hm hio hsp k => qs_abort_no I S x hxO w _ k) ?_)
      rintro _ _ ⟨rfl, rfl⟩
      refine And.intro (fun w hm _ => ⟨Holds.of_idx [0, 1, 2] hm, trivial⟩) ?_
      refine VC_sound tabOk 100 ?_
      refine Go_aloneL rfl rfl (OpTo_xcall [rowB b6 K5, actB b3 a, runB bx I J] (qR I S) (rqR J P) rfl rfl rfl rfl rfl rfl (by kernel_rfl) (fun w hb hm hio hsp k => ps_end J P x 3 (by omega) w _ k) ?_)
      rintro _ _ (⟨h0, rfl, rfl⟩ | ⟨h0, rfl, rfl⟩)
      · exact absurd h0 hx
      refine And.intro (fun w hm _ => ⟨Holds.of_idx [0, 1, 2] hm, trivial⟩) ?_
      refine VC_sound tabOk 100 ?_
      refine ⟨fun h => by first | (simp at h; done) | (simp at h; omega) | (simp_all; done), fun _ => ?_⟩
      have hv1 : PInv n S P := hv
      refine Go_res (rowB b6 K5 :: actB b3 a :: runB bx I J :: (rqR J P ++ (qR I S))) (fun _ h => h) ?_
      show Go _ _ _ _
      refine Go_any mixed [] [(0, false), (1, false), (2, false), (4, false), (6, false), (7, false), (8, false), (12, false), (3, false), (9, false), (10, false), (11, false), (5, true), (13, true), (14, false), (15, false)] rfl (by kernel_rfl) (by kernel_rfl) [rowB b6 K5, actB b3 a, runB bx I J] (fun _ => True) (fun _ _ _ h => h) (fun w hm _ => ⟨Holds.of_idx [0, 1, 2] hm, trivial⟩) ?_
      refine VC_sound tabOk 100 ?_
      (repeat (first | refine Or.inl ⟨rfl, rfl, ?_⟩ | refine Or.inl ⟨rfl, ?_⟩ | refine Or.inr ?_))
      refine Go_aloneL rfl rfl (OpTo_tcall ([rowB b6 K5, actB b3 a, runB bx I J] ++ rqR J P) (qR I S) rfl rfl rfl rfl rfl rfl (by kernel_rfl) (fun w hb hm hio hsp k => q_forget I S x (by first | omega | (dsimp only; omega)) w _ k) ?_)
      rintro _ _ ⟨rfl, rfl⟩
      refine And.intro (fun w hm _ => ⟨Holds.of_idx [0, 1, 2] hm, trivial⟩) ?_
      refine VC_sound tabOk 100 ?_
      refine Go_aloneL rfl rfl (OpTo_xcall [rowB b6 K5, actB b3 a, runB bx I J] (qR I { S with T := (Sp.tf x S.T.1, Sp.tf x S.T.2.1, Sp.tf x S.T.2.2) }) (rqR J P) rfl rfl rfl rfl rfl rfl (by kernel_rfl) (fun w hb hm hio hsp k => ps_forget J P x (by first | omega | (dsimp only; omega)) w _ k) ?_)
      rintro _ _ ⟨T2, rfl, hT2, rfl⟩
      refine And.intro (fun w hm _ => ⟨Holds.of_idx [0, 1, 2] hm, trivial⟩) ?_
      refine VC_sound tabOk 100 ?_
      exact ⟨_, ⟨_, _, hv1.forget x hT2, congrArg Value.bool (Sp.InvS.forgetN hv1.tb x hT2), rfl⟩, fun _ _ h => h.drop (a := [_, _])⟩
  show Go _ (KI.code (Code.cond _ _ _) :: _) _ _
  refine Go_cut (σ := Bool) (fun q => [(0, .v (pv bx)), (3, .v (pv b3)), (5, .v (.int .i64 x)), (6, .v (pv b6)), (50, .v (.int .u8 D24)), (157, .v (.bool q))]) (fun _ => rowB b6 K5 :: actB b3 a :: runB bx I J :: (rqR J P ++ (qR I S))) (fun _ => True) ?_ ?_
  · refine VC_sound tabOk 100 ?_
    refine ⟨fun h => ?_, fun h => ?_⟩
    · exact Go_put (true) trivial ⟨rfl, rfl, rfl, rfl, rfl, rfl, trivial⟩ (fun _ h => h)
    refine ⟨fun h => ?_, fun h => ?_⟩
    · exact Go_put (true) trivial ⟨rfl, rfl, rfl, rfl, rfl, rfl, trivial⟩ (fun _ h => h)
    exact Go_put (decide ((D24 : Int) = 11)) trivial ⟨rfl, rfl, rfl, rfl, rfl, rfl, trivial⟩ (fun _ h => h)
  intro q _
  refine VC_sound tabOk 6 ?_
  refine ⟨fun h => ?_, fun h => ?_⟩
  · obtain ⟨qt, hqt⟩ : ∃ qt, qt = a.n.tmod 3 := ⟨_, rfl⟩
    have hadk := hv.tk.add S.s.next (pos 1 P.R) qt
    by_cases hadd : Tk.tkAdd S.ts S.s.next (pos 1 P.R) qt = 0
    · refine VC_sound tabOk 100 ?_
      refine Go_cut (σ := Nat × (Option Addr × Nat) × (Option Addr × Nat) × Option Addr × Nat) (fun u => [(0, .v (pv bx)), (3, .v (pv b3)), (5, .v (.int .i64 x)), (6, .v (pv b6)), (11, .v (pv u.1)), (12, .v (.int .i64 0))]) (fun u => .blk u.1 44 (Tk.encT ⟨S.last + 1, S.s.next, u.2.2.2.1, u.2.2.2.2, pos 1 P.R, qt⟩) :: rowB b6 K5 :: actB b3 a :: runB bx I J :: (rqR J P ++ (own (RX.encI .i64) 1 2 u.2.2.2.1 u.2.2.2.2 (pos 1 P.R) :: qR I (S.tick u.2.1.1 u.2.1.2 u.2.2.1.1 u.2.2.1.2 P.R qt)))) (fun _ => True) ?_ ?_
      · refine Go_any mixed [7, 12] [(0, false), (1, false), (2, false), (4, false), (3, false), (5, false), (6, false), (99, false), (99, false), (99, false), (99, false), (99, false), (99, false), (99, false)] rfl (by kernel_rfl) (by kernel_rfl) [rowB b6 K5, actB b3 a, runB bx I J] (fun _ => True) (fun _ _ _ h => h) (fun w hm _ => ⟨Holds.of_idx [0, 1, 2] hm, trivial⟩) ?_
        refine VC_sound tabOk 100 ?_
        (repeat (first | refine Or.inl ⟨rfl, rfl, ?_⟩ | refine Or.inl ⟨rfl, ?_⟩ | refine Or.inr ?_))
        refine ⟨by decide, _, hqt, ?_⟩
        refine Go_forkA 7 11 [(8, false), (9, false), (10, false), (11, true), (12, true), (13, false)] [(7, true), (8, false), (9, false), (10, false), (12, true), (13, false)] (by kernel_rfl) rfl rfl (by kernel_rfl) (by kernel_rfl) rfl rfl rfl rfl rfl (fun R w hm _ => ⟨Holds.of_idx [1, 2, 3] hm, trivial⟩) ?_ ?_ tabOk
        · refine OpTo_tcall ([rowB b6 K5, actB b3 a, runB bx I J] ++ rqR J P) (qR I S) rfl rfl rfl rfl rfl rfl (by kernel_rfl) (fun w hb hm hio hsp k => q_tick I S P.R qt hv.al (by omega) hv.fit.fit (by omega) ⟨by omega, by omega⟩ (by omega) w _ k) ?_
          rintro _ _ (⟨h0, _, _⟩ | ⟨_, A1, c1, A2, c2, A3, c3, rfl, rfl⟩)
          · exact absurd hadd h0
          refine VC_sound tabOk 100 ?_
          intro b99 _
          (repeat (first | refine Or.inl ⟨rfl, rfl, ?_⟩ | refine Or.inl ⟨rfl, ?_⟩ | refine Or.inr ?_))
          exact Go_put (b99, (A1, c1), (A2, c2), A3, c3) trivial ⟨rfl, rfl, rfl, rfl, rfl, rfl, trivial⟩ (fun _ h => h)
        · intro b99 _
          refine ⟨⟨_, rfl⟩, ?_⟩
          refine Go_aloneM rfl rfl rfl (OpTo_tcall ([.blk b99 44 (Tk.encT Tk.zeroT), rowB b6 K5, actB b3 a, runB bx I J] ++ rqR J P) (qR I S) rfl rfl rfl rfl rfl rfl (by kernel_rfl) (fun w hb hm hio hsp k => q_tick I S P.R qt hv.al (by omega) hv.fit.fit (by omega) ⟨by omega, by omega⟩ (by omega) w _ k) ?_)
          rintro _ _ (⟨h0, _, _⟩ | ⟨_, A1, c1, A2, c2, A3, c3, rfl, rfl⟩)
          · exact absurd hadd h0
          refine VC_sound tabOk 100 ?_
          (repeat (first | refine Or.inl ⟨rfl, rfl, ?_⟩ | refine Or.inl ⟨rfl, ?_⟩ | refine Or.inr ?_))
          exact Go_put (b99, (A1, c1), (A2, c2), A3, c3) trivial ⟨rfl, rfl, rfl, rfl, rfl, rfl, trivial⟩ (fun _ h => h)
      rintro ⟨b11, ⟨A1, c1⟩, ⟨A2, c2⟩, A3, c3⟩ _
      dsimp only
      refine VC_sound tabOk 100 ?_
      refine Go_cut (σ := Nat × (Option Addr × Nat) × Option Addr × Nat) (fun u => [(0, .v (pv bx)), (3, .v (pv b3)), (5, .v (.int .i64 x)), (6, .v (pv b6)), (11, .v (pv b11)), (12, .v (.int .i64 0)), (13, .v (pv u.1)), (14, .v (.int .i64 0))]) (fun u => .blk u.1 44 (Tk.encT ⟨P.last + 1, S.s.next, u.2.2.1, u.2.2.2, pos 1 P.R, qt⟩) :: .blk b11 44 (Tk.encT ⟨S.last + 1, S.s.next, A3, c3, pos 1 P.R, qt⟩) :: rowB b6 K5 :: actB b3 a :: runB bx I J :: (rqR J { P with A := u.2.1.1, c := u.2.1.2, us := P.us ++ [⟨P.last + 1, S.s.next, u.2.2.1, u.2.2.2, pos 1 P.R, qt⟩], last := P.last + 1 } ++ (own (RX.encI .i64) 1 2 A3 c3 (pos 1 P.R) :: qR I (S.tick A1 c1 A2 c2 P.R qt)))) (fun _ => True) ?_ ?_
      · refine Go_any mixed [14, 19] [(0, false), (1, false), (2, false), (6, false), (7, false), (8, false), (11, false), (3, false), (4, false), (5, false), (9, false), (12, false), (13, false), (99, false), (99, false), (99, false), (99, false), (99, false), (99, false), (99, false), (99, false)] rfl (by kernel_rfl) (by kernel_rfl) [rowB b6 K5, actB b3 a, runB bx I J] (fun _ => True) (fun _ _ _ h => h) (fun w hm _ => ⟨Holds.of_idx [1, 2, 3] hm, trivial⟩) ?_
        refine VC_sound tabOk 100 ?_
        (repeat (first | refine Or.inl ⟨rfl, rfl, ?_⟩ | refine Or.inl ⟨rfl, ?_⟩ | refine Or.inr ?_))
        refine ⟨by decide, _, hqt, ?_⟩
        refine Go_forkL 10 18 [(99, false), (99, false), (99, false), (99, false), (99, false), (99, false), (99, false)] [(10, true), (14, true), (15, false), (16, false), (17, false), (19, true), (20, false)] (by kernel_rfl) rfl rfl (by kernel_rfl) (by kernel_rfl) rfl rfl rfl rfl (fun R w hm _ => ⟨Holds.of_idx [2, 3, 4] hm, trivial⟩) ?_ ?_ tabOk
        · refine OpTo_ncall rfl rfl rfl rfl rfl (by kernel_rfl) (fun w hm _ => by have h := r06_now15 J.br P.RA P.Rc P.R w (hm.blk_at (i := 12) rfl) (hm.own_rd (i := 13) rfl) (by omega); rw [← hnx] at h; exact h) ?_
          rintro _ _ ⟨A5, c5, rfl, rfl⟩
          refine And.intro (fun w hm _ => ⟨Holds.of_idx [2, 3, 4] hm, trivial⟩) ?_
          refine Go_res (.blk b11 44 (Tk.encT ⟨S.last + 1, S.s.next, A3, c3, pos 1 P.R, qt⟩) :: rowB b6 K5 :: actB b3 a :: runB bx I J :: ((Tk.snR A5 (pos 1 P.R) :: rqR J P) ++ (own (RX.encI .i64) 1 2 A3 c3 (pos 1 P.R) :: qR I (S.tick A1 c1 A2 c2 P.R qt)))) (fun _ h => (own_snR h).permRs (List.perm_middle (l₁ := [.blk b11 44 (Tk.encT ⟨S.last + 1, S.s.next, A3, c3, pos 1 P.R, qt⟩), rowB b6 K5, actB b3 a, runB bx I J])).symm) ?_
          refine Go_forkA 14 18 [(15, false), (16, false), (17, false), (18, true), (19, true), (20, false)] [(14, true), (15, false), (16, false), (17, false), (19, true), (20, false)] (by kernel_rfl) rfl rfl (by kernel_rfl) (by kernel_rfl) rfl rfl rfl rfl rfl (fun R w hm _ => ⟨Holds.of_idx [2, 3, 4] hm, trivial⟩) ?_ ?_ tabOk
          · refine OpTo_xcall [.blk b11 44 (Tk.encT ⟨S.last + 1, S.s.next, A3, c3, pos 1 P.R, qt⟩), rowB b6 K5, actB b3 a, runB bx I J] ([own (RX.encI .i64) 1 2 A3 c3 (pos 1 P.R)] ++ qR I (S.tick A1 c1 A2 c2 P.R qt)) (Tk.snR A5 (pos 1 P.R) :: rqR J P) rfl rfl rfl rfl rfl rfl (by kernel_rfl) (fun w hb hm hio hsp k => ps_tadd J P S.s.next A5 c5 (pos 1 P.R) qt (by omega) hfu.fit ⟨by omega, by omega⟩ ⟨by omega, by omega⟩ (by omega) w _ k) ?_
            rintro _ _ (⟨h0, _, _⟩ | ⟨_, rfl, B1, d1, rfl⟩)
            · exact absurd (hadk.trans hadd) h0
            refine VC_sound tabOk 100 ?_
            intro b99 _
            (repeat (first | refine Or.inl ⟨rfl, rfl, ?_⟩ | refine Or.inl ⟨rfl, ?_⟩ | refine Or.inr ?_))
            exact Go_put (b99, (B1, d1), A5, c5) trivial ⟨rfl, rfl, rfl, rfl, rfl, rfl, rfl, rfl, trivial⟩ (fun _ h => h)
          · intro b99 _
            refine ⟨⟨_, rfl⟩, ?_⟩
            refine Go_aloneM rfl rfl rfl (OpTo_xcall [.blk b99 44 (Tk.encT Tk.zeroT), .blk b11 44 (Tk.encT ⟨S.last + 1, S.s.next, A3, c3, pos 1 P.R, qt⟩), rowB b6 K5, actB b3 a, runB bx I J] ([own (RX.encI .i64) 1 2 A3 c3 (pos 1 P.R)] ++ qR I (S.tick A1 c1 A2 c2 P.R qt)) (Tk.snR A5 (pos 1 P.R) :: rqR J P) rfl rfl rfl rfl rfl rfl (by kernel_rfl) (fun w hb hm hio hsp k => ps_tadd J P S.s.next A5 c5 (pos 1 P.R) qt (by omega) hfu.fit ⟨by omega, by omega⟩ ⟨by omega, by omega⟩ (by omega) w _ k) ?_)
            rintro _ _ (⟨h0, _, _⟩ | ⟨_, rfl, B1, d1, rfl⟩)
            · exact absurd (hadk.trans hadd) h0
            refine VC_sound tabOk 100 ?_
            (repeat (first | refine Or.inl ⟨rfl, rfl, ?_⟩ | refine Or.inl ⟨rfl, ?_⟩ | refine Or.inr ?_))
            exact Go_put (b99, (B1, d1), A5, c5) trivial ⟨rfl, rfl, rfl, rfl, rfl, rfl, rfl, rfl, trivial⟩ (fun _ h => h)
        · intro b99 _
          refine ⟨⟨_, rfl⟩, ?_⟩
          refine Go_aloneL rfl rfl (OpTo_ncall rfl rfl rfl rfl rfl (by kernel_rfl) (fun w hm _ => by have h := r06_now15 J.br P.RA P.Rc P.R w (hm.blk_at (i := 13) rfl) (hm.own_rd (i := 14) rfl) (by omega); rw [← hnx] at h; exact h) ?_)
          rintro _ _ ⟨A5, c5, rfl, rfl⟩
          refine And.intro (fun w hm _ => ⟨Holds.of_idx [3, 4, 5] hm, trivial⟩) ?_
          refine Go_res (.blk b99 44 (Tk.encT Tk.zeroT) :: .blk b11 44 (Tk.encT ⟨S.last + 1, S.s.next, A3, c3, pos 1 P.R, qt⟩) :: rowB b6 K5 :: actB b3 a :: runB bx I J :: ((Tk.snR A5 (pos 1 P.R) :: rqR J P) ++ (own (RX.encI .i64) 1 2 A3 c3 (pos 1 P.R) :: qR I (S.tick A1 c1 A2 c2 P.R qt)))) (fun _ h => (own_snR h).permRs (List.perm_middle (l₁ := [.blk b99 44 (Tk.encT Tk.zeroT), .blk b11 44 (Tk.encT ⟨S.last + 1, S.s.next, A3, c3, pos 1 P.R, qt⟩), rowB b6 K5, actB b3 a, runB bx I J])).symm) ?_
          refine Go_aloneM rfl rfl rfl (OpTo_xcall [.blk b99 44 (Tk.encT Tk.zeroT), .blk b11 44 (Tk.encT ⟨S.last + 1, S.s.next, A3, c3, pos 1 P.R, qt⟩), rowB b6 K5, actB b3 a, runB bx I J] ([own (RX.encI .i64) 1 2 A3 c3 (pos 1 P.R)] ++ qR I (S.tick A1 c1 A2 c2 P.R qt)) (Tk.snR A5 (pos 1 P.R) :: rqR J P) rfl rfl rfl rfl rfl rfl (by kernel_rfl) (fun w hb hm hio hsp k => ps_tadd J P S.s.next A5 c5 (pos 1 P.R) qt (by omega) hfu.fit ⟨by omega, by omega⟩ ⟨by omega, by omega⟩ (by omega) w _ k) ?_)
          rintro _ _ (⟨h0, _, _⟩ | ⟨_, rfl, B1, d1, rfl⟩)
          · exact absurd (hadk.trans hadd) h0
          refine VC_sound tabOk 100 ?_
          (repeat (first | refine Or.inl ⟨rfl, rfl, ?_⟩ | refine Or.inl ⟨rfl, ?_⟩ | refine Or.inr ?_))
          exact Go_put (b99, (B1, d1), A5, c5) trivial ⟨rfl, rfl, rfl, rfl, rfl, rfl, rfl, rfl, trivial⟩ (fun _ h => h)
      rintro ⟨b13, ⟨B1, d1⟩, A5, c5⟩ _
      dsimp only
      refine VC_sound tabOk 100 ?_
      refine ⟨fun _ => ?_, fun h => by first | (simp at h; done) | (simp at h; omega) | (simp_all; done)⟩
      (repeat (first | refine Or.inl ⟨rfl, rfl, ?_⟩ | refine Or.inl ⟨rfl, ?_⟩ | refine Or.inr ?_))
      refine Go_ops rfl (OpTo_pcall (v := .bool true) rfl rfl rfl rfl rfl (by kernel_rfl) (fun w hm _ => Tk.r11_same ⟨S.last + 1, S.s.next, A3, c3, pos 1 P.R, qt⟩ ⟨P.last + 1, S.s.next, A5, c5, pos 1 P.R, qt⟩ (by rw [hlst.1]) rfl rfl rfl w (hm.own_rd (i := 15) rfl) (hm.ro_rd (i := 10) rfl (List.mem_map.2 ⟨_, List.mem_append_right _ (List.mem_singleton.2 rfl), rfl⟩)) (by show (pos 1 P.R).length ≤ 1000000; omega)) ?_)
      refine VC_sound tabOk 100 ?_
      exact ⟨_, ⟨_, _, hv.tick (by omega) qt hadd A1 c1 A2 c2 B1 d1 A5 c5, rfl, rfl⟩, fun _ _ h => (h.drop (a := [_, _, _, _])).dropAt 11⟩
    · refine VC_sound tabOk 100 ?_
      refine Go_cut (σ := Nat) (fun u => [(0, .v (pv bx)), (3, .v (pv b3)), (5, .v (.int .i64 x)), (6, .v (pv b6)), (11, .v (pv u)), (12, .v (.int .i64 (Tk.tkAdd S.ts S.s.next (pos 1 P.R) qt)))]) (fun u => .blk u 44 (Tk.encT Tk.zeroT) :: rowB b6 K5 :: actB b3 a :: runB bx I J :: (rqR J P ++ (qR I S))) (fun _ => True) ?_ ?_
      · refine Go_any mixed [7, 12] [(0, false), (1, false), (2, false), (4, false), (3, false), (5, false), (6, false), (99, false), (99, false), (99, false), (99, false), (99, false), (99, false), (99, false)] rfl (by kernel_rfl) (by kernel_rfl) [rowB b6 K5, actB b3 a, runB bx I J] (fun _ => True) (fun _ _ _ h => h) (fun w hm _ => ⟨Holds.of_idx [0, 1, 2] hm, trivial⟩) ?_
        refine VC_sound tabOk 100 ?_
        (repeat (first | refine Or.inl ⟨rfl, rfl, ?_⟩ | refine Or.inl ⟨rfl, ?_⟩ | refine Or.inr ?_))
        refine ⟨by decide, _, hqt, ?_⟩
        refine Go_forkA 7 11 [(8, false), (9, false), (10, false), (11, true), (12, true), (13, false)] [(7, true), (8, false), (9, false), (10, false), (12, true), (13, false)] (by kernel_rfl) rfl rfl (by kernel_rfl) (by kernel_rfl) rfl rfl rfl rfl rfl (fun R w hm _ => ⟨Holds.of_idx [1, 2, 3] hm, trivial⟩) ?_ ?_ tabOk
        · refine OpTo_tcall ([rowB b6 K5, actB b3 a, runB bx I J] ++ rqR J P) (qR I S) rfl rfl rfl rfl rfl rfl (by kernel_rfl) (fun w hb hm hio hsp k => q_tick I S P.R qt hv.al (by omega) hv.fit.fit (by omega) ⟨by omega, by omega⟩ (by omega) w _ k) ?_
          rintro _ _ (⟨_, rfl, rfl⟩ | ⟨h0, _⟩)
          rotate_left
          · exact absurd h0 hadd
          refine VC_sound tabOk 100 ?_
          intro b99 _
          (repeat (first | refine Or.inl ⟨rfl, rfl, ?_⟩ | refine Or.inl ⟨rfl, ?_⟩ | refine Or.inr ?_))
          exact Go_put b99 trivial ⟨rfl, rfl, rfl, rfl, rfl, rfl, trivial⟩ (fun _ h => h)
        · intro b99 _
          refine ⟨⟨_, rfl⟩, ?_⟩
          refine Go_aloneM rfl rfl rfl (OpTo_tcall ([.blk b99 44 (Tk.encT Tk.zeroT), rowB b6 K5, actB b3 a, runB bx I J] ++ rqR J P) (qR I S) rfl rfl rfl rfl rfl rfl (by kernel_rfl) (fun w hb hm hio hsp k => q_tick I S P.R qt hv.al (by omega) hv.fit.fit (by omega) ⟨by omega, by omega⟩ (by omega) w _ k) ?_)
          rintro _ _ (⟨_, rfl, rfl⟩ | ⟨h0, _⟩)
          rotate_left
          · exact absurd h0 hadd
          refine VC_sound tabOk 100 ?_
          (repeat (first | refine Or.inl ⟨rfl, rfl, ?_⟩ | refine Or.inl ⟨rfl, ?_⟩ | refine Or.inr ?_))
          exact Go_put b99 trivial ⟨rfl, rfl, rfl, rfl, rfl, rfl, trivial⟩ (fun _ h => h)
      intro b11 _
      refine VC_sound tabOk 100 ?_
      refine Go_cut (σ := Nat) (fun u => [(0, .v (pv bx)), (3, .v (pv b3)), (5, .v (.int .i64 x)), (6, .v (pv b6)), (11, .v (pv b11)), (12, .v (.int .i64 (Tk.tkAdd S.ts S.s.next (pos 1 P.R) qt))), (13, .v (pv u)), (14, .v (.int .i64 (Tk.tkAdd S.ts S.s.next (pos 1 P.R) qt)))]) (fun u => .blk u 44 (Tk.encT Tk.zeroT) :: .blk b11 44 (Tk.encT Tk.zeroT) :: rowB b6 K5 :: actB b3 a :: runB bx I J :: (rqR J P ++ (qR I S))) (fun _ => True) ?_ ?_
      · refine Go_any mixed [14, 19] [(0, false), (1, false), (2, false), (6, false), (7, false), (8, false), (11, false), (3, false), (4, false), (5, false), (9, false), (12, false), (13, false), (99, false), (99, false), (99, false), (99, false), (99, false), (99, false), (99, false), (99, false)] rfl (by kernel_rfl) (by kernel_rfl) [rowB b6 K5, actB b3 a, runB bx I J] (fun _ => True) (fun _ _ _ h => h) (fun w hm _ => ⟨Holds.of_idx [1, 2, 3] hm, trivial⟩) ?_
        refine VC_sound tabOk 100 ?_
        (repeat (first | refine Or.inl ⟨rfl, rfl, ?_⟩ | refine Or.inl ⟨rfl, ?_⟩ | refine Or.inr ?_))
        refine ⟨by decide, _, hqt, ?_⟩
        refine Go_forkL 10 18 [(99, false), (99, false), (99, false), (99, false), (99, false), (99, false), (99, false)] [(10, true), (14, true), (15, false), (16, false), (17, false), (19, true), (20, false)] (by kernel_rfl) rfl rfl (by kernel_rfl) (by kernel_rfl) rfl rfl rfl rfl (fun R w hm _ => ⟨Holds.of_idx [2, 3, 4] hm, trivial⟩) ?_ ?_ tabOk
        · refine OpTo_ncall rfl rfl rfl rfl rfl (by kernel_rfl) (fun w hm _ => by have h := r06_now15 J.br P.RA P.Rc P.R w (hm.blk_at (i := 12) rfl) (hm.own_rd (i := 13) rfl) (by omega); rw [← hnx] at h; exact h) ?_
          rintro _ _ ⟨A5, c5, rfl, rfl⟩
          refine And.intro (fun w hm _ => ⟨Holds.of_idx [2, 3, 4] hm, trivial⟩) ?_
          refine Go_res (.blk b11 44 (Tk.encT Tk.zeroT) :: rowB b6 K5 :: actB b3 a :: runB bx I J :: ((Tk.snR A5 (pos 1 P.R) :: rqR J P) ++ (qR I S))) (fun _ h => (own_snR h).permRs (List.perm_middle (l₁ := [.blk b11 44 (Tk.encT Tk.zeroT), rowB b6 K5, actB b3 a, runB bx I J])).symm) ?_
          refine Go_forkA 14 18 [(15, false), (16, false), (17, false), (18, true), (19, true), (20, false)] [(14, true), (15, false), (16, false), (17, false), (19, true), (20, false)] (by kernel_rfl) rfl rfl (by kernel_rfl) (by kernel_rfl) rfl rfl rfl rfl rfl (fun R w hm _ => ⟨Holds.of_idx [2, 3, 4] hm, trivial⟩) ?_ ?_ tabOk
          · refine OpTo_xcall [.blk b11 44 (Tk.encT Tk.zeroT), rowB b6 K5, actB b3 a, runB bx I J] (qR I S) (Tk.snR A5 (pos 1 P.R) :: rqR J P) rfl rfl rfl rfl rfl rfl (by kernel_rfl) (fun w hb hm hio hsp k => ps_tadd J P S.s.next A5 c5 (pos 1 P.R) qt (by omega) hfu.fit ⟨by omega, by omega⟩ ⟨by omega, by omega⟩ (by omega) w _ k) ?_
            rintro _ _ (⟨_, rfl, rfl⟩ | ⟨h0, _⟩)
            rotate_left
            · exact absurd (hadk.symm.trans h0) hadd
            rw [hadk]
            refine VC_sound tabOk 100 ?_
            intro b99 _
            (repeat (first | refine Or.inl ⟨rfl, rfl, ?_⟩ | refine Or.inl ⟨rfl, ?_⟩ | refine Or.inr ?_))
            exact Go_put b99 trivial ⟨rfl, rfl, rfl, rfl, rfl, rfl, rfl, rfl, trivial⟩ (fun _ h => h)
          · intro b99 _
            refine ⟨⟨_, rfl⟩, ?_⟩
            refine Go_aloneM rfl rfl rfl (OpTo_xcall [.blk b99 44 (Tk.encT Tk.zeroT), .blk b11 44 (Tk.encT Tk.zeroT), rowB b6 K5, actB b3 a, runB bx I J] (qR I S) (Tk.snR A5 (pos 1 P.R) :: rqR J P) rfl rfl rfl rfl rfl rfl (by kernel_rfl) (fun w hb hm hio hsp k => ps_tadd J P S.s.next A5 c5 (pos 1 P.R) qt (by omega) hfu.fit ⟨by omega, by omega⟩ ⟨by omega, by omega⟩ (by omega) w _ k) ?_)
            rintro _ _ (⟨_, rfl, rfl⟩ | ⟨h0, _⟩)
            rotate_left
            · exact absurd (hadk.symm.trans h0) hadd
            rw [hadk]
            refine VC_sound tabOk 100 ?_
            (repeat (first | refine Or.inl ⟨rfl, rfl, ?_⟩ | refine Or.inl ⟨rfl, ?_⟩ | refine Or.inr ?_))
            exact Go_put b99 trivial ⟨rfl, rfl, rfl, rfl, rfl, rfl, rfl, rfl, trivial⟩ (fun _ h => h)
        · intro b99 _
          refine ⟨⟨_, rfl⟩, ?_⟩
          refine Go_aloneL rfl rfl (OpTo_ncall rfl rfl rfl rfl rfl (by kernel_rfl) (fun w hm _ => by have h := r06_now15 J.br P.RA P.Rc P.R w (hm.blk_at (i := 13) rfl) (hm.own_rd (i := 14) rfl) (by omega); rw [← hnx] at h; exact h) ?_)
          rintro _ _ ⟨A5, c5, rfl, rfl⟩
          refine And.intro (fun w hm _ => ⟨Holds.of_idx [3, 4, 5] hm, trivial⟩) ?_
          refine Go_res (.blk b99 44 (Tk.encT Tk.zeroT) :: .blk b11 44 (Tk.encT Tk.zeroT) :: rowB b6 K5 :: actB b3 a :: runB bx I J :: ((Tk.snR A5 (pos 1 P.R) :: rqR J P) ++ (qR I S))) (fun _ h => (own_snR h).permRs (List.perm_middle (l₁ := [.blk b99 44 (Tk.encT Tk.zeroT), .blk b11 44 (Tk.encT Tk.zeroT), rowB b6 K5, actB b3 a, runB bx I J])).symm) ?_
          refine Go_aloneM rfl rfl rfl (OpTo_xcall [.blk b99 44 (Tk.encT Tk.zeroT), .blk b11 44 (Tk.encT Tk.zeroT), rowB b6 K5, actB b3 a, runB bx I J] (qR I S) (Tk.snR A5 (pos 1 P.R) :: rqR J P) rfl rfl rfl rfl rfl rfl (by kernel_rfl) (fun w hb hm hio hsp k => ps_tadd J P S.s.next A5 c5 (pos 1 P.R) qt (by omega) hfu.fit ⟨by omega, by omega⟩ ⟨by omega, by omega⟩ (by omega) w _ k) ?_)
          rintro _ _ (⟨_, rfl, rfl⟩ | ⟨h0, _⟩)
          rotate_left
          · exact absurd (hadk.symm.trans h0) hadd
          rw [hadk]
          refine VC_sound tabOk 100 ?_
          (repeat (first | refine Or.inl ⟨rfl, rfl, ?_⟩ | refine Or.inl ⟨rfl, ?_⟩ | refine Or.inr ?_))
          exact Go_put b99 trivial ⟨rfl, rfl, rfl, rfl, rfl, rfl, rfl, rfl, trivial⟩ (fun _ h => h)
      intro b13 _
      refine VC_sound tabOk 100 ?_
      refine ⟨fun _ => ?_, fun h => by first | (simp at h; done) | (simp at h; omega) | (simp_all; done)⟩
      (repeat (first | refine Or.inl ⟨rfl, rfl, ?_⟩ | refine Or.inl ⟨rfl, ?_⟩ | refine Or.inr ?_))
      refine Go_ops rfl (OpTo_pcall (v := .bool true) rfl rfl rfl rfl rfl (by kernel_rfl) (fun w hm _ => Tk.r11_same Tk.zeroT Tk.zeroT rfl rfl rfl rfl w (.inl rfl) (.inl rfl) (by decide)) ?_)
      refine VC_sound tabOk 100 ?_
      exact ⟨_, ⟨S, P, hv.up, rfl, rfl⟩, fun _ _ h => h.drop (a := [_, _, _, _])⟩
  refine VC_sound tabOk 12 ?_
  refine ⟨fun h => ?_, fun h => ?_⟩
  · obtain ⟨nm, hnm⟩ : ∃ nm, nm = nameA a := ⟨_, rfl⟩
    refine VC_sound tabOk 100 ?_
    show Go _ _ _ _
    refine Go_any mixed [] [(0, false), (1, false), (2, false), (7, false), (8, false), (9, false), (3, false), (4, false), (10, false), (11, false), (5, true), (6, true), (12, true), (13, true), (14, false), (15, false)] rfl (by kernel_rfl) (by kernel_rfl) [rowB b6 K5, actB b3 a, runB bx I J] (fun _ => True) (fun _ _ _ h => h) (fun w hm _ => ⟨Holds.of_idx [0, 1, 2] hm, trivial⟩) ?_
    refine VC_sound tabOk 100 ?_
    (repeat (first | refine Or.inl ⟨rfl, rfl, ?_⟩ | refine Or.inl ⟨rfl, ?_⟩ | refine Or.inr ?_))
    refine Go_aloneL rfl rfl (OpTo_pcall (v := .string nm) rfl rfl rfl rfl rfl (by kernel_rfl) (fun w hm _ => name15 a ho.2.1 hnm w) ?_)
    refine And.intro (fun w hm _ => ⟨Holds.of_idx [0, 1, 2] hm, trivial⟩) ?_
    refine VC_sound tabOk 100 ?_
    refine Go_aloneL rfl rfl (OpTo_tcall ([rowB b6 K5, actB b3 a, runB bx I J] ++ rqR J P) (qR I S) rfl rfl rfl rfl rfl rfl (by kernel_rfl) (fun w hb hm hio hsp k => q_register I S nm w _ k) ?_)
    rintro _ _ ⟨rfl, q, rfl⟩
    refine And.intro (fun w hm _ => ⟨Holds.of_idx [0, 1, 2] hm, trivial⟩) ?_
    refine VC_sound tabOk 100 ?_
    refine Go_aloneL rfl rfl (OpTo_pcall (v := .string nm) rfl rfl rfl rfl rfl (by kernel_rfl) (fun w hm _ => name15 a ho.2.1 hnm w) ?_)
    refine And.intro (fun w hm _ => ⟨Holds.of_idx [0, 1, 2] hm, trivial⟩) ?_
    refine VC_sound tabOk 100 ?_
    refine Go_aloneL rfl rfl (OpTo_xcall [rowB b6 K5, actB b3 a, runB bx I J] (qR I (S.reg nm q)) (rqR J P) rfl rfl rfl rfl rfl rfl (by kernel_rfl) (fun w hb hm hio hsp k => pr_register J P nm (by omega) hv.cu.rise w _ k) ?_)
    rintro _ _ ⟨rfl, A', c', zs, rfl, hz⟩
    refine And.intro (fun w hm _ => ⟨Holds.of_idx [0, 1, 2] hm, trivial⟩) ?_
    refine VC_sound tabOk 100 ?_
    have hg := hv.register nm q A' c' hz
    exact ⟨_, ⟨_, _, hg.2, congrArg Value.bool (decide_eq_true hg.1), rfl⟩, fun _ _ h => h.drop (a := [_, _])⟩
  refine ⟨fun h => ?_, fun h => ?_⟩
  · obtain ⟨nm, hnm⟩ : ∃ nm, nm = nameA a := ⟨_, rfl⟩
    by_cases hin : nm ∈ P.ys.map Cu.CurV.name
    rotate_left
    · have hno : ∀ z ∈ P.ys, z.name ≠ nm := fun z hz e => hin (e ▸ List.mem_map_of_mem hz)
      have hag := hv.cu.agetN hin
      refine VC_sound tabOk 100 ?_
      show Go _ _ _ _
      refine Go_any mixed [] [(0, false), (1, false), (2, false), (3, false), (4, false), (5, false), (6, false), (7, false), (12, false), (13, false), (14, false), (8, false), (9, false), (15, false), (16, false), (10, true), (11, true), (17, true), (18, true), (19, false), (20, false), (21, false)] rfl (by kernel_rfl) (by kernel_rfl) [rowB b6 K5, actB b3 a, runB bx I J] (fun _ => True) (fun _ _ _ h => h) (fun w hm _ => ⟨Holds.of_idx [0, 1, 2] hm, trivial⟩) ?_
      refine VC_sound tabOk 100 ?_
      (repeat (first | refine Or.inl ⟨rfl, rfl, ?_⟩ | refine Or.inl ⟨rfl, ?_⟩ | refine Or.inr ?_))
      refine ⟨by decide, _, hK4.symm, ?_⟩
      refine ⟨fun hg => ?_, fun hg => ?_⟩
      · exact ⟨_, ⟨S, P, hv.up, rfl, rfl⟩, fun _ _ h => h.drop (a := [_, _])⟩
      (repeat (first | refine Or.inl ⟨rfl, rfl, ?_⟩ | refine Or.inl ⟨rfl, ?_⟩ | refine Or.inr ?_))
      refine Go_aloneL rfl rfl (OpTo_pcall (v := .string nm) rfl rfl rfl rfl rfl (by kernel_rfl) (fun w hm _ => name15 a ho.2.1 hnm w) ?_)
      refine And.intro (fun w hm _ => ⟨Holds.of_idx [0, 1, 2] hm, trivial⟩) ?_
      refine VC_sound tabOk 100 ?_
      refine Go_aloneL rfl rfl (OpTo_tcall ([rowB b6 K5, actB b3 a, runB bx I J] ++ rqR J P) (qR I S) rfl rfl rfl rfl rfl rfl (by kernel_rfl) (fun w hb hm hio hsp k => q_unregister I S nm (by omega) w _ k) ?_)
      rintro _ _ ⟨rfl, rfl⟩
      rw [hag]
      refine And.intro (fun w hm _ => ⟨Holds.of_idx [0, 1, 2] hm, trivial⟩) ?_
      refine VC_sound tabOk 100 ?_
      refine Go_aloneL rfl rfl (OpTo_pcall (v := .string nm) rfl rfl rfl rfl rfl (by kernel_rfl) (fun w hm _ => name15 a ho.2.1 hnm w) ?_)
      refine And.intro (fun w hm _ => ⟨Holds.of_idx [0, 1, 2] hm, trivial⟩) ?_
      refine VC_sound tabOk 100 ?_
      refine Go_aloneL rfl rfl (OpTo_xcall [rowB b6 K5, actB b3 a, runB bx I J] (qR I (S.unr nm)) (rqR J P) rfl rfl rfl rfl rfl rfl (by kernel_rfl) (fun w hb hm hio hsp k => pr_unreg_no J P nm (by omega) hno w _ k) ?_)
      rintro _ _ ⟨rfl, rfl⟩
      refine And.intro (fun w hm _ => ⟨Holds.of_idx [0, 1, 2] hm, trivial⟩) ?_
      refine VC_sound tabOk 100 ?_
      exact ⟨_, ⟨_, _, hv.leaveN hin, rfl, rfl⟩, fun _ _ h => h.drop (a := [_, _])⟩
    obtain ⟨cs1, cs2, y, q, y1, y2, hcs, hys, rfl, hne⟩ := hv.cu.split hin
    have hcu := hv.cu
    rw [hcs] at hcu
    have hag : aget y.name (Cu.alOf S.cs) = some q := by rw [hcs]; exact hcu.aget
    refine VC_sound tabOk 100 ?_
    show Go _ _ _ _
    refine Go_any mixed [] [(0, false), (1, false), (2, false), (3, false), (4, false), (5, false), (6, false), (7, false), (12, false), (13, false), (14, false), (8, false), (9, false), (15, false), (16, false), (10, true), (11, true), (17, true), (18, true), (19, false), (20, false), (21, false)] rfl (by kernel_rfl) (by kernel_rfl) [rowB b6 K5, actB b3 a, runB bx I J] (fun _ => True) (fun _ _ _ h => h) (fun w hm _ => ⟨Holds.of_idx [0, 1, 2] hm, trivial⟩) ?_
    refine VC_sound tabOk 100 ?_
    (repeat (first | refine Or.inl ⟨rfl, rfl, ?_⟩ | refine Or.inl ⟨rfl, ?_⟩ | refine Or.inr ?_))
    refine ⟨by decide, _, hK4.symm, ?_⟩
    refine ⟨fun hg => ?_, fun hg => ?_⟩
    · exact ⟨_, ⟨S, P, hv.up, rfl, rfl⟩, fun _ _ h => h.drop (a := [_, _])⟩
    (repeat (first | refine Or.inl ⟨rfl, rfl, ?_⟩ | refine Or.inl ⟨rfl, ?_⟩ | refine Or.inr ?_))
    refine Go_aloneL rfl rfl (OpTo_pcall (v := .string y.name) rfl rfl rfl rfl rfl (by kernel_rfl) (fun w hm _ => name15 a ho.2.1 hnm w) ?_)
    refine And.intro (fun w hm _ => ⟨Holds.of_idx [0, 1, 2] hm, trivial⟩) ?_
    refine VC_sound tabOk 100 ?_
    refine Go_aloneL rfl rfl (OpTo_tcall ([rowB b6 K5, actB b3 a, runB bx I J] ++ rqR J P) (qR I S) rfl rfl rfl rfl rfl rfl (by kernel_rfl) (fun w hb hm hio hsp k => q_unregister I S y.name (by omega) w _ k) ?_)
    rintro _ _ ⟨rfl, rfl⟩
    rw [hag]
    refine And.intro (fun w hm _ => ⟨Holds.of_idx [0, 1, 2] hm, trivial⟩) ?_
    refine VC_sound tabOk 100 ?_
    refine Go_aloneL rfl rfl (OpTo_pcall (v := .string y.name) rfl rfl rfl rfl rfl (by kernel_rfl) (fun w hm _ => name15 a ho.2.1 hnm w) ?_)
    refine And.intro (fun w hm _ => ⟨Holds.of_idx [0, 1, 2] hm, trivial⟩) ?_
    refine VC_sound tabOk 100 ?_
    refine Go_aloneL rfl rfl (OpTo_xcall [rowB b6 K5, actB b3 a, runB bx I J] (qR I (S.unr y.name)) (rqR J P) rfl rfl rfl rfl rfl rfl (by kernel_rfl) (fun w hb hm hio hsp k => pr_unreg J P y1 y2 y y.name hys (by rw [← hys]; omega) rfl hne (by rw [hv.xs]; omega) w _ k) ?_)
    rintro _ _ ⟨rfl, B1, d1, B2, d2, rfl⟩
    refine And.intro (fun w hm _ => ⟨Holds.of_idx [0, 1, 2] hm, trivial⟩) ?_
    refine VC_sound tabOk 100 ?_
    exact ⟨_, ⟨_, _, hv.leave hcs hys B1 d1 B2 d2, rfl, rfl⟩, fun _ _ h => h.drop (a := [_, _])⟩
  show Go _ (KI.code (Code.cond _ _ _) :: _) _ _
  refine Go_cut (σ := Bool) (fun q => [(0, .v (pv bx)), (3, .v (pv b3)), (5, .v (.int .i64 x)), (6, .v (pv b6)), (50, .v (.int .u8 D24)), (238, .v (.bool q))]) (fun _ => rowB b6 K5 :: actB b3 a :: runB bx I J :: (rqR J P ++ (qR I S))) (fun _ => True) ?_ ?_
  · refine VC_sound tabOk 100 ?_
    refine ⟨fun h => ?_, fun h => ?_⟩
    · exact Go_put (true) trivial ⟨rfl, rfl, rfl, rfl, rfl, rfl, trivial⟩ (fun _ h => h)
    exact Go_put (decide ((D24 : Int) = 15)) trivial ⟨rfl, rfl, rfl, rfl, rfl, rfl, trivial⟩ (fun _ h => h)
  intro q _
  refine VC_sound tabOk 6 ?_
  refine ⟨fun h => ?_, fun h => ?_⟩
  · obtain ⟨nm, hnm⟩ : ∃ nm, nm = nameA a := ⟨_, rfl⟩
    by_cases hin : nm ∈ P.ys.map Cu.CurV.name
    rotate_left
    · have hno : ∀ z ∈ P.ys, z.name ≠ nm := fun z hz e => hin (e ▸ List.mem_map_of_mem hz)
      have hag := hv.cu.agetN hin
      refine VC_sound tabOk 100 ?_
      refine Go_cut (σ := Nat) (fun u => [(0, .v (pv bx)), (3, .v (pv b3)), (5, .v (.int .i64 x)), (6, .v (pv b6)), (15, .v (pv u)), (16, .v (.int .i64 4))]) (fun u => .blk u 44 (Tk.encT Tk.zeroT) :: rowB b6 K5 :: actB b3 a :: runB bx I J :: (rqR J P ++ (qR I S))) (fun _ => True) ?_ ?_
      · refine Go_any mixed [6, 11] [(0, false), (1, false), (2, false), (3, false), (4, false), (99, false), (99, false), (99, false), (99, false), (99, false), (99, false), (99, false), (99, false)] rfl (by kernel_rfl) (by kernel_rfl) [rowB b6 K5, actB b3 a, runB bx I J] (fun _ => True) (fun _ _ _ h => h) (fun w hm _ => ⟨Holds.of_idx [0, 1, 2] hm, trivial⟩) ?_
        refine VC_sound tabOk 100 ?_
        (repeat (first | refine Or.inl ⟨rfl, rfl, ?_⟩ | refine Or.inl ⟨rfl, ?_⟩ | refine Or.inr ?_))
        refine Go_forkL 5 10 [(99, false), (99, false), (99, false), (99, false), (99, false), (99, false), (99, false)] [(5, true), (6, true), (7, false), (8, false), (9, false), (11, true), (12, false)] (by kernel_rfl) rfl rfl (by kernel_rfl) (by kernel_rfl) rfl rfl rfl rfl (fun R w hm _ => ⟨Holds.of_idx [1, 2, 3] hm, trivial⟩) ?_ ?_ tabOk
        · refine OpTo_pcall (v := .string nm) rfl rfl rfl rfl rfl (by kernel_rfl) (fun w hm _ => name15 a ho.2.1 hnm w) ?_
          refine And.intro (fun w hm _ => ⟨Holds.of_idx [0, 1, 2] hm, trivial⟩) ?_
          refine Go_forkA 6 10 [(7, false), (8, false), (9, false), (10, true), (11, true), (12, false)] [(6, true), (7, false), (8, false), (9, false), (11, true), (12, false)] (by kernel_rfl) rfl rfl (by kernel_rfl) (by kernel_rfl) rfl rfl rfl rfl rfl (fun R w hm _ => ⟨Holds.of_idx [1, 2, 3] hm, trivial⟩) ?_ ?_ tabOk
          · refine OpTo_tcall ([rowB b6 K5, actB b3 a, runB bx I J] ++ rqR J P) (qR I S) rfl rfl rfl rfl rfl rfl (by kernel_rfl) (fun w hb hm hio hsp k => q_next_none I S nm hag w _ k) ?_
            rintro _ _ ⟨rfl, rfl⟩
            refine VC_sound tabOk 100 ?_
            intro b99 _
            (repeat (first | refine Or.inl ⟨rfl, rfl, ?_⟩ | refine Or.inl ⟨rfl, ?_⟩ | refine Or.inr ?_))
            exact Go_put b99 trivial ⟨rfl, rfl, rfl, rfl, rfl, rfl, trivial⟩ (fun _ h => h)
          · intro b99 _
            refine ⟨⟨_, rfl⟩, ?_⟩
            refine Go_aloneM rfl rfl rfl (OpTo_tcall ([.blk b99 44 (Tk.encT Tk.zeroT), rowB b6 K5, actB b3 a, runB bx I J] ++ rqR J P) (qR I S) rfl rfl rfl rfl rfl rfl (by kernel_rfl) (fun w hb hm hio hsp k => q_next_none I S nm hag w _ k) ?_)
            rintro _ _ ⟨rfl, rfl⟩
            refine VC_sound tabOk 100 ?_
            (repeat (first | refine Or.inl ⟨rfl, rfl, ?_⟩ | refine Or.inl ⟨rfl, ?_⟩ | refine Or.inr ?_))
            exact Go_put b99 trivial ⟨rfl, rfl, rfl, rfl, rfl, rfl, trivial⟩ (fun _ h => h)
        · intro b99 _
          refine ⟨⟨_, rfl⟩, ?_⟩
          refine Go_aloneL rfl rfl (OpTo_pcall (v := .string nm) rfl rfl rfl rfl rfl (by kernel_rfl) (fun w hm _ => name15 a ho.2.1 hnm w) ?_)
          refine And.intro (fun w hm _ => ⟨Holds.of_idx [1, 2, 3] hm, trivial⟩) ?_
          refine VC_sound tabOk 100 ?_
          refine Go_aloneM rfl rfl rfl (OpTo_tcall ([.blk b99 44 (Tk.encT Tk.zeroT), rowB b6 K5, actB b3 a, runB bx I J] ++ rqR J P) (qR I S) rfl rfl rfl rfl rfl rfl (by kernel_rfl) (fun w hb hm hio hsp k => q_next_none I S nm hag w _ k) ?_)
          rintro _ _ ⟨rfl, rfl⟩
          refine VC_sound tabOk 100 ?_
          (repeat (first | refine Or.inl ⟨rfl, rfl, ?_⟩ | refine Or.inl ⟨rfl, ?_⟩ | refine Or.inr ?_))
          exact Go_put b99 trivial ⟨rfl, rfl, rfl, rfl, rfl, rfl, trivial⟩ (fun _ h => h)
      intro b15 _
      refine VC_sound tabOk 100 ?_
      refine Go_cut (σ := Nat) (fun u => [(0, .v (pv bx)), (3, .v (pv b3)), (5, .v (.int .i64 x)), (6, .v (pv b6)), (15, .v (pv b15)), (16, .v (.int .i64 4)), (17, .v (pv u)), (18, .v (.int .i64 4))]) (fun u => .blk u 44 (Tk.encT Tk.zeroT) :: .blk b15 44 (Tk.encT Tk.zeroT) :: rowB b6 K5 :: actB b3 a :: runB bx I J :: (rqR J P ++ (qR I S))) (fun _ => True) ?_ ?_
      · refine Go_any mixed [6, 11] [(0, false), (1, false), (2, false), (3, false), (4, false), (99, false), (99, false), (99, false), (99, false), (99, false), (99, false), (99, false), (99, false)] rfl (by kernel_rfl) (by kernel_rfl) [rowB b6 K5, actB b3 a, runB bx I J] (fun _ => True) (fun _ _ _ h => h) (fun w hm _ => ⟨Holds.of_idx [1, 2, 3] hm, trivial⟩) ?_
        refine VC_sound tabOk 100 ?_
        (repeat (first | refine Or.inl ⟨rfl, rfl, ?_⟩ | refine Or.inl ⟨rfl, ?_⟩ | refine Or.inr ?_))
        refine Go_forkL 5 10 [(99, false), (99, false), (99, false), (99, false), (99, false), (99, false), (99, false)] [(5, true), (6, true), (7, false), (8, false), (9, false), (11, true), (12, false)] (by kernel_rfl) rfl rfl (by kernel_rfl) (by kernel_rfl) rfl rfl rfl rfl (fun R w hm _ => ⟨Holds.of_idx [2, 3, 4] hm, trivial⟩) ?_ ?_ tabOk
        · refine OpTo_pcall (v := .string nm) rfl rfl rfl rfl rfl (by kernel_rfl) (fun w hm _ => name15 a ho.2.1 hnm w) ?_
          refine And.intro (fun w hm _ => ⟨Holds.of_idx [1, 2, 3] hm, trivial⟩) ?_
          refine Go_forkA 6 10 [(7, false), (8, false), (9, false), (10, true), (11, true), (12, false)] [(6, true), (7, false), (8, false), (9, false), (11, true), (12, false)] (by kernel_rfl) rfl rfl (by kernel_rfl) (by kernel_rfl) rfl rfl rfl rfl rfl (fun R w hm _ => ⟨Holds.of_idx [2, 3, 4] hm, trivial⟩) ?_ ?_ tabOk
          · refine OpTo_xcall [.blk b15 44 (Tk.encT Tk.zeroT), rowB b6 K5, actB b3 a, runB bx I J] (qR I S) (rqR J P) rfl rfl rfl rfl rfl rfl (by kernel_rfl) (fun w hb hm hio hsp k => pr_open_no J P nm (by omega) hno w _ k) ?_
            rintro _ _ ⟨rfl, rfl⟩
            refine VC_sound tabOk 100 ?_
            intro b99 _
            (repeat (first | refine Or.inl ⟨rfl, rfl, ?_⟩ | refine Or.inl ⟨rfl, ?_⟩ | refine Or.inr ?_))
            exact Go_put b99 trivial ⟨rfl, rfl, rfl, rfl, rfl, rfl, rfl, rfl, trivial⟩ (fun _ h => h)
          · intro b99 _
            refine ⟨⟨_, rfl⟩, ?_⟩
            refine Go_aloneM rfl rfl rfl (OpTo_xcall [.blk b99 44 (Tk.encT Tk.zeroT), .blk b15 44 (Tk.encT Tk.zeroT), rowB b6 K5, actB b3 a, runB bx I J] (qR I S) (rqR J P) rfl rfl rfl rfl rfl rfl (by kernel_rfl) (fun w hb hm hio hsp k => pr_open_no J P nm (by omega) hno w _ k) ?_)
            rintro _ _ ⟨rfl, rfl⟩
            refine VC_sound tabOk 100 ?_
            (repeat (first | refine Or.inl ⟨rfl, rfl, ?_⟩ | refine Or.inl ⟨rfl, ?_⟩ | refine Or.inr ?_))
            exact Go_put b99 trivial ⟨rfl, rfl, rfl, rfl, rfl, rfl, rfl, rfl, trivial⟩ (fun _ h => h)
        · intro b99 _
          refine ⟨⟨_, rfl⟩, ?_⟩
          refine Go_aloneL rfl rfl (OpTo_pcall (v := .string nm) rfl rfl rfl rfl rfl (by kernel_rfl) (fun w hm _ => name15 a ho.2.1 hnm w) ?_)
          refine And.intro (fun w hm _ => ⟨Holds.of_idx [2, 3, 4] hm, trivial⟩) ?_
          refine VC_sound tabOk 100 ?_
          refine Go_aloneM rfl rfl rfl (OpTo_xcall [.blk b99 44 (Tk.encT Tk.zeroT), .blk b15 44 (Tk.encT Tk.zeroT), rowB b6 K5, actB b3 a, runB bx I J] (qR I S) (rqR J P) rfl rfl rfl rfl rfl rfl (by kernel_rfl) (fun w hb hm hio hsp k => pr_open_no J P nm (by omega) hno w _ k) ?_)
          rintro _ _ ⟨rfl, rfl⟩
          refine VC_sound tabOk 100 ?_
          (repeat (first | refine Or.inl ⟨rfl, rfl, ?_⟩ | refine Or.inl ⟨rfl, ?_⟩ | refine Or.inr ?_))
          exact Go_put b99 trivial ⟨rfl, rfl, rfl, rfl, rfl, rfl, rfl, rfl, trivial⟩ (fun _ h => h)
      intro b17 _
      refine VC_sound tabOk 100 ?_
      refine ⟨fun _ => ?_, fun h => by first | (simp at h; done) | (simp at h; omega) | (simp_all; done)⟩
      (repeat (first | refine Or.inl ⟨rfl, rfl, ?_⟩ | refine Or.inl ⟨rfl, ?_⟩ | refine Or.inr ?_))
      refine Go_ops rfl (OpTo_pcall (v := .bool true) rfl rfl rfl rfl rfl (by kernel_rfl) (fun w hm _ => Tk.r11_same Tk.zeroT Tk.zeroT rfl rfl rfl rfl w (.inl rfl) (.inl rfl) (by decide)) ?_)
      refine VC_sound tabOk 100 ?_
      exact ⟨_, ⟨S, P, hv.up, rfl, rfl⟩, fun _ _ h => h.drop (a := [_, _, _, _])⟩
    obtain ⟨cs1, cs2, y, q, y1, y2, hcs, hys, rfl, hne⟩ := hv.cu.split hin
    have hcu := hv.cu
    rw [hcs] at hcu
    have hag : aget y.name (Cu.alOf S.cs) = some q := by rw [hcs]; exact hcu.aget
    have hcn := hv.cn y (by rw [hys]; simp)
    have hfk := KeyS.find (aftK y.last) hv.tk
    by_cases hop : 0 < y.opn
    · refine VC_sound tabOk 100 ?_
      refine Go_cut (σ := Nat) (fun u => [(0, .v (pv bx)), (3, .v (pv b3)), (5, .v (.int .i64 x)), (6, .v (pv b6)), (15, .v (pv u)), (16, .v (.int .i64 7))]) (fun u => .blk u 44 (Tk.encT Tk.zeroT) :: rowB b6 K5 :: actB b3 a :: runB bx I J :: (rqR J P ++ (qR I S))) (fun _ => True) ?_ ?_
      · refine Go_any mixed [6, 11] [(0, false), (1, false), (2, false), (3, false), (4, false), (99, false), (99, false), (99, false), (99, false), (99, false), (99, false), (99, false), (99, false)] rfl (by kernel_rfl) (by kernel_rfl) [rowB b6 K5, actB b3 a, runB bx I J] (fun _ => True) (fun _ _ _ h => h) (fun w hm _ => ⟨Holds.of_idx [0, 1, 2] hm, trivial⟩) ?_
        refine VC_sound tabOk 100 ?_
        (repeat (first | refine Or.inl ⟨rfl, rfl, ?_⟩ | refine Or.inl ⟨rfl, ?_⟩ | refine Or.inr ?_))
        refine Go_forkL 5 10 [(99, false), (99, false), (99, false), (99, false), (99, false), (99, false), (99, false)] [(5, true), (6, true), (7, false), (8, false), (9, false), (11, true), (12, false)] (by kernel_rfl) rfl rfl (by kernel_rfl) (by kernel_rfl) rfl rfl rfl rfl (fun R w hm _ => ⟨Holds.of_idx [1, 2, 3] hm, trivial⟩) ?_ ?_ tabOk
        · refine OpTo_pcall (v := .string y.name) rfl rfl rfl rfl rfl (by kernel_rfl) (fun w hm _ => name15 a ho.2.1 hnm w) ?_
          refine And.intro (fun w hm _ => ⟨Holds.of_idx [0, 1, 2] hm, trivial⟩) ?_
          refine Go_forkA 6 10 [(7, false), (8, false), (9, false), (10, true), (11, true), (12, false)] [(6, true), (7, false), (8, false), (9, false), (11, true), (12, false)] (by kernel_rfl) rfl rfl (by kernel_rfl) (by kernel_rfl) rfl rfl rfl rfl rfl (fun R w hm _ => ⟨Holds.of_idx [1, 2, 3] hm, trivial⟩) ?_ ?_ tabOk
          · refine OpTo_tcall ([rowB b6 K5, actB b3 a, runB bx I J] ++ rqR J P) (qR I S) rfl rfl rfl rfl rfl rfl (by kernel_rfl) (fun w hb hm hio hsp k => q_next I S cs1 cs2 y q hcs hag hv.fit (by omega) w _ k) ?_
            rintro _ _ (⟨g0, rfl, rfl⟩ | ⟨g0, h1, rfl, rfl⟩ | ⟨g0, t1, A1, c1, h1, rfl, rfl⟩)
            rotate_left
            · exact absurd hop g0
            · exact absurd hop g0
            refine VC_sound tabOk 100 ?_
            intro b99 _
            (repeat (first | refine Or.inl ⟨rfl, rfl, ?_⟩ | refine Or.inl ⟨rfl, ?_⟩ | refine Or.inr ?_))
            exact Go_put b99 trivial ⟨rfl, rfl, rfl, rfl, rfl, rfl, trivial⟩ (fun _ h => h)
          · intro b99 _
            refine ⟨⟨_, rfl⟩, ?_⟩
            refine Go_aloneM rfl rfl rfl (OpTo_tcall ([.blk b99 44 (Tk.encT Tk.zeroT), rowB b6 K5, actB b3 a, runB bx I J] ++ rqR J P) (qR I S) rfl rfl rfl rfl rfl rfl (by kernel_rfl) (fun w hb hm hio hsp k => q_next I S cs1 cs2 y q hcs hag hv.fit (by omega) w _ k) ?_)
            rintro _ _ (⟨g0, rfl, rfl⟩ | ⟨g0, h1, rfl, rfl⟩ | ⟨g0, t1, A1, c1, h1, rfl, rfl⟩)
            rotate_left
            · exact absurd hop g0
            · exact absurd hop g0
            refine VC_sound tabOk 100 ?_
            (repeat (first | refine Or.inl ⟨rfl, rfl, ?_⟩ | refine Or.inl ⟨rfl, ?_⟩ | refine Or.inr ?_))
            exact Go_put b99 trivial ⟨rfl, rfl, rfl, rfl, rfl, rfl, trivial⟩ (fun _ h => h)
        · intro b99 _
          refine ⟨⟨_, rfl⟩, ?_⟩
          refine Go_aloneL rfl rfl (OpTo_pcall (v := .string y.name) rfl rfl rfl rfl rfl (by kernel_rfl) (fun w hm _ => name15 a ho.2.1 hnm w) ?_)
          refine And.intro (fun w hm _ => ⟨Holds.of_idx [1, 2, 3] hm, trivial⟩) ?_
          refine VC_sound tabOk 100 ?_
          refine Go_aloneM rfl rfl rfl (OpTo_tcall ([.blk b99 44 (Tk.encT Tk.zeroT), rowB b6 K5, actB b3 a, runB bx I J] ++ rqR J P) (qR I S) rfl rfl rfl rfl rfl rfl (by kernel_rfl) (fun w hb hm hio hsp k => q_next I S cs1 cs2 y q hcs hag hv.fit (by omega) w _ k) ?_)
          rintro _ _ (⟨g0, rfl, rfl⟩ | ⟨g0, h1, rfl, rfl⟩ | ⟨g0, t1, A1, c1, h1, rfl, rfl⟩)
          rotate_left
          · exact absurd hop g0
          · exact absurd hop g0
          refine VC_sound tabOk 100 ?_
          (repeat (first | refine Or.inl ⟨rfl, rfl, ?_⟩ | refine Or.inl ⟨rfl, ?_⟩ | refine Or.inr ?_))
          exact Go_put b99 trivial ⟨rfl, rfl, rfl, rfl, rfl, rfl, trivial⟩ (fun _ h => h)
      intro b15 _
      refine VC_sound tabOk 100 ?_
      refine Go_cut (σ := Nat) (fun u => [(0, .v (pv bx)), (3, .v (pv b3)), (5, .v (.int .i64 x)), (6, .v (pv b6)), (15, .v (pv b15)), (16, .v (.int .i64 7)), (17, .v (pv u)), (18, .v (.int .i64 7))]) (fun u => .blk u 44 (Tk.encT Tk.zeroT) :: .blk b15 44 (Tk.encT Tk.zeroT) :: rowB b6 K5 :: actB b3 a :: runB bx I J :: (rqR J P ++ (qR I S))) (fun _ => True) ?_ ?_
      · refine Go_any mixed [6, 11] [(0, false), (1, false), (2, false), (3, false), (4, false), (99, false), (99, false), (99, false), (99, false), (99, false), (99, false), (99, false), (99, false)] rfl (by kernel_rfl) (by kernel_rfl) [rowB b6 K5, actB b3 a, runB bx I J] (fun _ => True) (fun _ _ _ h => h) (fun w hm _ => ⟨Holds.of_idx [1, 2, 3] hm, trivial⟩) ?_
        refine VC_sound tabOk 100 ?_
        (repeat (first | refine Or.inl ⟨rfl, rfl, ?_⟩ | refine Or.inl ⟨rfl, ?_⟩ | refine Or.inr ?_))
        refine Go_forkL 5 10 [(99, false), (99, false), (99, false), (99, false), (99, false), (99, false), (99, false)] [(5, true), (6, true), (7, false), (8, false), (9, false), (11, true), (12, false)] (by kernel_rfl) rfl rfl (by kernel_rfl) (by kernel_rfl) rfl rfl rfl rfl (fun R w hm _ => ⟨Holds.of_idx [2, 3, 4] hm, trivial⟩) ?_ ?_ tabOk
        · refine OpTo_pcall (v := .string y.name) rfl rfl rfl rfl rfl (by kernel_rfl) (fun w hm _ => name15 a ho.2.1 hnm w) ?_
          refine And.intro (fun w hm _ => ⟨Holds.of_idx [1, 2, 3] hm, trivial⟩) ?_
          refine Go_forkA 6 10 [(7, false), (8, false), (9, false), (10, true), (11, true), (12, false)] [(6, true), (7, false), (8, false), (9, false), (11, true), (12, false)] (by kernel_rfl) rfl rfl (by kernel_rfl) (by kernel_rfl) rfl rfl rfl rfl rfl (fun R w hm _ => ⟨Holds.of_idx [2, 3, 4] hm, trivial⟩) ?_ ?_ tabOk
          · refine OpTo_xcall [.blk b15 44 (Tk.encT Tk.zeroT), rowB b6 K5, actB b3 a, runB bx I J] (qR I S) (rqR J P) rfl rfl rfl rfl rfl rfl (by kernel_rfl) (fun w hb hm hio hsp k => pr_open J P y1 y2 y hys (by omega) hne (by omega) w _ k) ?_
            rintro _ _ (⟨g1, rfl, rfl⟩ | ⟨g1, h2, rfl, rfl⟩ | ⟨g1, t2, A2, c2, h2, rfl, rfl⟩)
            rotate_left
            · exact absurd hop g1
            · exact absurd hop g1
            refine VC_sound tabOk 100 ?_
            intro b99 _
            (repeat (first | refine Or.inl ⟨rfl, rfl, ?_⟩ | refine Or.inl ⟨rfl, ?_⟩ | refine Or.inr ?_))
            exact Go_put b99 trivial ⟨rfl, rfl, rfl, rfl, rfl, rfl, rfl, rfl, trivial⟩ (fun _ h => h)
          · intro b99 _
            refine ⟨⟨_, rfl⟩, ?_⟩
            refine Go_aloneM rfl rfl rfl (OpTo_xcall [.blk b99 44 (Tk.encT Tk.zeroT), .blk b15 44 (Tk.encT Tk.zeroT), rowB b6 K5, actB b3 a, runB bx I J] (qR I S) (rqR J P) rfl rfl rfl rfl rfl rfl (by kernel_rfl) (fun w hb hm hio hsp k => pr_open J P y1 y2 y hys (by omega) hne (by omega) w _ k) ?_)
            rintro _ _ (⟨g1, rfl, rfl⟩ | ⟨g1, h2, rfl, rfl⟩ | ⟨g1, t2, A2, c2, h2, rfl, rfl⟩)
            rotate_left
            · exact absurd hop g1
            · exact absurd hop g1
            refine VC_sound tabOk 100 ?_
            (repeat (first | refine Or.inl ⟨rfl, rfl, ?_⟩ | refine Or.inl ⟨rfl, ?_⟩ | refine Or.inr ?_))
            exact Go_put b99 trivial ⟨rfl, rfl, rfl, rfl, rfl, rfl, rfl, rfl, trivial⟩ (fun _ h => h)
        · intro b99 _
          refine ⟨⟨_, rfl⟩, ?_⟩
          refine Go_aloneL rfl rfl (OpTo_pcall (v := .string y.name) rfl rfl rfl rfl rfl (by kernel_rfl) (fun w hm _ => name15 a ho.2.1 hnm w) ?_)
          refine And.intro (fun w hm _ => ⟨Holds.of_idx [2, 3, 4] hm, trivial⟩) ?_
          refine VC_sound tabOk 100 ?_
          refine Go_aloneM rfl rfl rfl (OpTo_xcall [.blk b99 44 (Tk.encT Tk.zeroT), .blk b15 44 (Tk.encT Tk.zeroT), rowB b6 K5, actB b3 a, runB bx I J] (qR I S) (rqR J P) rfl rfl rfl rfl rfl rfl (by kernel_rfl) (fun w hb hm hio hsp k => pr_open J P y1 y2 y hys (by omega) hne (by omega) w _ k) ?_)
          rintro _ _ (⟨g1, rfl, rfl⟩ | ⟨g1, h2, rfl, rfl⟩ | ⟨g1, t2, A2, c2, h2, rfl, rfl⟩)
          rotate_left
          · exact absurd hop g1
          · exact absurd hop g1
          refine VC_sound tabOk 100 ?_
          (repeat (first | refine Or.inl ⟨rfl, rfl, ?_⟩ | refine Or.inl ⟨rfl, ?_⟩ | refine Or.inr ?_))
          exact Go_put b99 trivial ⟨rfl, rfl, rfl, rfl, rfl, rfl, rfl, rfl, trivial⟩ (fun _ h => h)
      intro b17 _
      refine VC_sound tabOk 100 ?_
      refine ⟨fun _ => ?_, fun h => by first | (simp at h; done) | (simp at h; omega) | (simp_all; done)⟩
      (repeat (first | refine Or.inl ⟨rfl, rfl, ?_⟩ | refine Or.inl ⟨rfl, ?_⟩ | refine Or.inr ?_))
      refine Go_ops rfl (OpTo_pcall (v := .bool true) rfl rfl rfl rfl rfl (by kernel_rfl) (fun w hm _ => Tk.r11_same Tk.zeroT Tk.zeroT rfl rfl rfl rfl w (.inl rfl) (.inl rfl) (by decide)) ?_)
      refine VC_sound tabOk 100 ?_
      exact ⟨_, ⟨S, P, hv.up, rfl, rfl⟩, fun _ _ h => h.drop (a := [_, _, _, _])⟩
    cases hft : S.ts.find? (Tk.tkAft y.last) with
    | none =>
      rw [hft] at hfk
      have hfu2 : P.us.find? (Tk.tkAft y.last) = none := by cases hh : P.us.find? (Tk.tkAft y.last) with | none => rfl | some v => rw [hh] at hfk; cases hfk
      refine VC_sound tabOk 100 ?_
      refine Go_cut (σ := Nat) (fun u => [(0, .v (pv bx)), (3, .v (pv b3)), (5, .v (.int .i64 x)), (6, .v (pv b6)), (15, .v (pv u)), (16, .v (.int .i64 9))]) (fun u => .blk u 44 (Tk.encT Tk.zeroT) :: rowB b6 K5 :: actB b3 a :: runB bx I J :: (rqR J P ++ (qR I S))) (fun _ => True) ?_ ?_
      · refine Go_any mixed [6, 11] [(0, false), (1, false), (2, false), (3, false), (4, false), (99, false), (99, false), (99, false), (99, false), (99, false), (99, false), (99, false), (99, false)] rfl (by kernel_rfl) (by kernel_rfl) [rowB b6 K5, actB b3 a, runB bx I J] (fun _ => True) (fun _ _ _ h => h) (fun w hm _ => ⟨Holds.of_idx [0, 1, 2] hm, trivial⟩) ?_
        refine VC_sound tabOk 100 ?_
        (repeat (first | refine Or.inl ⟨rfl, rfl, ?_⟩ | refine Or.inl ⟨rfl, ?_⟩ | refine Or.inr ?_))
        refine Go_forkL 5 10 [(99, false), (99, false), (99, false), (99, false), (99, false), (99, false), (99, false)] [(5, true), (6, true), (7, false), (8, false), (9, false), (11, true), (12, false)] (by kernel_rfl) rfl rfl (by kernel_rfl) (by kernel_rfl) rfl rfl rfl rfl (fun R w hm _ => ⟨Holds.of_idx [1, 2, 3] hm, trivial⟩) ?_ ?_ tabOk
        · refine OpTo_pcall (v := .string y.name) rfl rfl rfl rfl rfl (by kernel_rfl) (fun w hm _ => name15 a ho.2.1 hnm w) ?_
          refine And.intro (fun w hm _ => ⟨Holds.of_idx [0, 1, 2] hm, trivial⟩) ?_
          refine Go_forkA 6 10 [(7, false), (8, false), (9, false), (10, true), (11, true), (12, false)] [(6, true), (7, false), (8, false), (9, false), (11, true), (12, false)] (by kernel_rfl) rfl rfl (by kernel_rfl) (by kernel_rfl) rfl rfl rfl rfl rfl (fun R w hm _ => ⟨Holds.of_idx [1, 2, 3] hm, trivial⟩) ?_ ?_ tabOk
          · refine OpTo_tcall ([rowB b6 K5, actB b3 a, runB bx I J] ++ rqR J P) (qR I S) rfl rfl rfl rfl rfl rfl (by kernel_rfl) (fun w hb hm hio hsp k => q_next I S cs1 cs2 y q hcs hag hv.fit (by omega) w _ k) ?_
            rintro _ _ (⟨g0, rfl, rfl⟩ | ⟨g0, h1, rfl, rfl⟩ | ⟨g0, t1, A1, c1, h1, rfl, rfl⟩)
            · exact absurd g0 hop
            rotate_left
            · rw [hft] at h1; cases h1
            refine VC_sound tabOk 100 ?_
            intro b99 _
            (repeat (first | refine Or.inl ⟨rfl, rfl, ?_⟩ | refine Or.inl ⟨rfl, ?_⟩ | refine Or.inr ?_))
            exact Go_put b99 trivial ⟨rfl, rfl, rfl, rfl, rfl, rfl, trivial⟩ (fun _ h => h)
          · intro b99 _
            refine ⟨⟨_, rfl⟩, ?_⟩
            refine Go_aloneM rfl rfl rfl (OpTo_tcall ([.blk b99 44 (Tk.encT Tk.zeroT), rowB b6 K5, actB b3 a, runB bx I J] ++ rqR J P) (qR I S) rfl rfl rfl rfl rfl rfl (by kernel_rfl) (fun w hb hm hio hsp k => q_next I S cs1 cs2 y q hcs hag hv.fit (by omega) w _ k) ?_)
            rintro _ _ (⟨g0, rfl, rfl⟩ | ⟨g0, h1, rfl, rfl⟩ | ⟨g0, t1, A1, c1, h1, rfl, rfl⟩)
            · exact absurd g0 hop
            rotate_left
            · rw [hft] at h1; cases h1
            refine VC_sound tabOk 100 ?_
            (repeat (first | refine Or.inl ⟨rfl, rfl, ?_⟩ | refine Or.inl ⟨rfl, ?_⟩ | refine Or.inr ?_))
            exact Go_put b99 trivial ⟨rfl, rfl, rfl, rfl, rfl, rfl, trivial⟩ (fun _ h => h)
        · intro b99 _
          refine ⟨⟨_, rfl⟩, ?_⟩
          refine Go_aloneL rfl rfl (OpTo_pcall (v := .string y.name) rfl rfl rfl rfl rfl (by kernel_rfl) (fun w hm _ => name15 a ho.2.1 hnm w) ?_)
          refine And.intro (fun w hm _ => ⟨Holds.of_idx [1, 2, 3] hm, trivial⟩) ?_
          refine VC_sound tabOk 100 ?_
          refine Go_aloneM rfl rfl rfl (OpTo_tcall ([.blk b99 44 (Tk.encT Tk.zeroT), rowB b6 K5, actB b3 a, runB bx I J] ++ rqR J P) (qR I S) rfl rfl rfl rfl rfl rfl (by kernel_rfl) (fun w hb hm hio hsp k => q_next I S cs1 cs2 y q hcs hag hv.fit (by omega) w _ k) ?_)
          rintro _ _ (⟨g0, rfl, rfl⟩ | ⟨g0, h1, rfl, rfl⟩ | ⟨g0, t1, A1, c1, h1, rfl, rfl⟩)
          · exact absurd g0 hop
          rotate_left
          · rw [hft] at h1; cases h1
          refine VC_sound tabOk 100 ?_
          (repeat (first | refine Or.inl ⟨rfl, rfl, ?_⟩ | refine Or.inl ⟨rfl, ?_⟩ | refine Or.inr ?_))
          exact Go_put b99 trivial ⟨rfl, rfl, rfl, rfl, rfl, rfl, trivial⟩ (fun _ h => h)
      intro b15 _
      refine VC_sound tabOk 100 ?_
      refine Go_cut (σ := Nat) (fun u => [(0, .v (pv bx)), (3, .v (pv b3)), (5, .v (.int .i64 x)), (6, .v (pv b6)), (15, .v (pv b15)), (16, .v (.int .i64 9)), (17, .v (pv u)), (18, .v (.int .i64 9))]) (fun u => .blk u 44 (Tk.encT Tk.zeroT) :: .blk b15 44 (Tk.encT Tk.zeroT) :: rowB b6 K5 :: actB b3 a :: runB bx I J :: (rqR J P ++ (qR I S))) (fun _ => True) ?_ ?_
      · refine Go_any mixed [6, 11] [(0, false), (1, false), (2, false), (3, false), (4, false), (99, false), (99, false), (99, false), (99, false), (99, false), (99, false), (99, false), (99, false)] rfl (by kernel_rfl) (by kernel_rfl) [rowB b6 K5, actB b3 a, runB bx I J] (fun _ => True) (fun _ _ _ h => h) (fun w hm _ => ⟨Holds.of_idx [1, 2, 3] hm, trivial⟩) ?_
        refine VC_sound tabOk 100 ?_
        (repeat (first | refine Or.inl ⟨rfl, rfl, ?_⟩ | refine Or.inl ⟨rfl, ?_⟩ | refine Or.inr ?_))
        refine Go_forkL 5 10 [(99, false), (99, false), (99, false), (99, false), (99, false), (99, false), (99, false)] [(5, true), (6, true), (7, false), (8, false), (9, false), (11, true), (12, false)] (by kernel_rfl) rfl rfl (by kernel_rfl) (by kernel_rfl) rfl rfl rfl rfl (fun R w hm _ => ⟨Holds.of_idx [2, 3, 4] hm, trivial⟩) ?_ ?_ tabOk
        · refine OpTo_pcall (v := .string y.name) rfl rfl rfl rfl rfl (by kernel_rfl) (fun w hm _ => name15 a ho.2.1 hnm w) ?_
          refine And.intro (fun w hm _ => ⟨Holds.of_idx [1, 2, 3] hm, trivial⟩) ?_
          refine Go_forkA 6 10 [(7, false), (8, false), (9, false), (10, true), (11, true), (12, false)] [(6, true), (7, false), (8, false), (9, false), (11, true), (12, false)] (by kernel_rfl) rfl rfl (by kernel_rfl) (by kernel_rfl) rfl rfl rfl rfl rfl (fun R w hm _ => ⟨Holds.of_idx [2, 3, 4] hm, trivial⟩) ?_ ?_ tabOk
          · refine OpTo_xcall [.blk b15 44 (Tk.encT Tk.zeroT), rowB b6 K5, actB b3 a, runB bx I J] (qR I S) (rqR J P) rfl rfl rfl rfl rfl rfl (by kernel_rfl) (fun w hb hm hio hsp k => pr_open J P y1 y2 y hys (by omega) hne (by omega) w _ k) ?_
            rintro _ _ (⟨g1, rfl, rfl⟩ | ⟨g1, h2, rfl, rfl⟩ | ⟨g1, t2, A2, c2, h2, rfl, rfl⟩)
            · exact absurd g1 hop
            rotate_left
            · rw [hfu2] at h2; cases h2
            refine VC_sound tabOk 100 ?_
            intro b99 _
            (repeat (first | refine Or.inl ⟨rfl, rfl, ?_⟩ | refine Or.inl ⟨rfl, ?_⟩ | refine Or.inr ?_))
            exact Go_put b99 trivial ⟨rfl, rfl, rfl, rfl, rfl, rfl, rfl, rfl, trivial⟩ (fun _ h => h)
          · intro b99 _
            refine ⟨⟨_, rfl⟩, ?_⟩
            refine Go_aloneM rfl rfl rfl (OpTo_xcall [.blk b99 44 (Tk.encT Tk.zeroT), .blk b15 44 (Tk.encT Tk.zeroT), rowB b6 K5, actB b3 a, runB bx I J] (qR I S) (rqR J P) rfl rfl rfl rfl rfl rfl (by kernel_rfl) (fun w hb hm hio hsp k => pr_open J P y1 y2 y hys (by omega) hne (by omega) w _ k) ?_)
            rintro _ _ (⟨g1, rfl, rfl⟩ | ⟨g1, h2, rfl, rfl⟩ | ⟨g1, t2, A2, c2, h2, rfl, rfl⟩)
            · exact absurd g1 hop
            rotate_left
            · rw [hfu2] at h2; cases h2
            refine VC_sound tabOk 100 ?_
            (repeat (first | refine Or.inl ⟨rfl, rfl, ?_⟩ | refine Or.inl ⟨rfl, ?_⟩ | refine Or.inr ?_))
            exact Go_put b99 trivial ⟨rfl, rfl, rfl, rfl, rfl, rfl, rfl, rfl, trivial⟩ (fun _ h => h)
        · intro b99 _
          refine ⟨⟨_, rfl⟩, ?_⟩
          refine Go_aloneL rfl rfl (OpTo_pcall (v := .string y.name) rfl rfl rfl rfl rfl (by kernel_rfl) (fun w hm _ => name15 a ho.2.1 hnm w) ?_)
          refine And.intro (fun w hm _ => ⟨Holds.of_idx [2, 3, 4] hm, trivial⟩) ?_
          refine VC_sound tabOk 100 ?_
          refine Go_aloneM rfl rfl rfl (OpTo_xcall [.blk b99 44 (Tk.encT Tk.zeroT), .blk b15 44 (Tk.encT Tk.zeroT), rowB b6 K5, actB b3 a, runB bx I J] (qR I S) (rqR J P) rfl rfl rfl rfl rfl rfl (by kernel_rfl) (fun w hb hm hio hsp k => pr_open J P y1 y2 y hys (by omega) hne (by omega) w _ k) ?_)
          rintro _ _ (⟨g1, rfl, rfl⟩ | ⟨g1, h2, rfl, rfl⟩ | ⟨g1, t2, A2, c2, h2, rfl, rfl⟩)
          · exact absurd g1 hop
          rotate_left
          · rw [hfu2] at h2; cases h2
          refine VC_sound tabOk 100 ?_
          (repeat (first | refine Or.inl ⟨rfl, rfl, ?_⟩ | refine Or.inl ⟨rfl, ?_⟩ | refine Or.inr ?_))
          exact Go_put b99 trivial ⟨rfl, rfl, rfl, rfl, rfl, rfl, rfl, rfl, trivial⟩ (fun _ h => h)
      intro b17 _
      refine VC_sound tabOk 100 ?_
      refine ⟨fun _ => ?_, fun h => by first | (simp at h; done) | (simp at h; omega) | (simp_all; done)⟩
      (repeat (first | refine Or.inl ⟨rfl, rfl, ?_⟩ | refine Or.inl ⟨rfl, ?_⟩ | refine Or.inr ?_))
      refine Go_ops rfl (OpTo_pcall (v := .bool true) rfl rfl rfl rfl rfl (by kernel_rfl) (fun w hm _ => Tk.r11_same Tk.zeroT Tk.zeroT rfl rfl rfl rfl w (.inl rfl) (.inl rfl) (by decide)) ?_)
      refine VC_sound tabOk 100 ?_
      exact ⟨_, ⟨S, P, hv.up, rfl, rfl⟩, fun _ _ h => h.drop (a := [_, _, _, _])⟩
    | some t =>
      rw [hft] at hfk
      obtain ⟨v, hfv, hvk⟩ : ∃ v, P.us.find? (Tk.tkAft y.last) = some v ∧ tkK v = tkK t := by
        cases hh : P.us.find? (Tk.tkAft y.last) with
        | none => rw [hh] at hfk; cases hfk
        | some v => rw [hh] at hfk; exact ⟨v, rfl, Option.some.inj hfk⟩
      simp only [tkK, Prod.mk.injEq] at hvk
      obtain ⟨hk1, hk2, hk3, hk4⟩ := hvk
      have htm := List.mem_of_find?_eq_some hft
      have hgt : y.last < t.n := by simpa [Tk.tkAft] using List.find?_some hft
      have htb := hv.tn.bd t htm
      have htf := hv.fit t htm
      refine VC_sound tabOk 100 ?_
      refine Go_cut (σ := Nat × Option Addr × Nat) (fun u => [(0, .v (pv bx)), (3, .v (pv b3)), (5, .v (.int .i64 x)), (6, .v (pv b6)), (15, .v (pv u.1)), (16, .v (.int .i64 0))]) (fun u => .blk u.1 44 (Tk.encT (Tk.reT t u.2.1 u.2.2)) :: rowB b6 K5 :: actB b3 a :: runB bx I J :: (rqR J P ++ (own (RX.encI .i64) 1 2 u.2.1 u.2.2 t.op :: qR I { S with cs := cs1 ++ (⟨y.name, y.last, t.n⟩, q) :: cs2 }))) (fun _ => True) ?_ ?_
      · refine Go_any mixed [6, 11] [(0, false), (1, false), (2, false), (3, false), (4, false), (99, false), (99, false), (99, false), (99, false), (99, false), (99, false), (99, false), (99, false)] rfl (by kernel_rfl) (by kernel_rfl) [rowB b6 K5, actB b3 a, runB bx I J] (fun _ => True) (fun _ _ _ h => h) (fun w hm _ => ⟨Holds.of_idx [0, 1, 2] hm, trivial⟩) ?_
        refine VC_sound tabOk 100 ?_
        (repeat (first | refine Or.inl ⟨rfl, rfl, ?_⟩ | refine Or.inl ⟨rfl, ?_⟩ | refine Or.inr ?_))
        refine Go_forkL 5 10 [(99, false), (99, false), (99, false), (99, false), (99, false), (99, false), (99, false)] [(5, true), (6, true), (7, false), (8, false), (9, false), (11, true), (12, false)] (by kernel_rfl) rfl rfl (by kernel_rfl) (by kernel_rfl) rfl rfl rfl rfl (fun R w hm _ => ⟨Holds.of_idx [1, 2, 3] hm, trivial⟩) ?_ ?_ tabOk
        · refine OpTo_pcall (v := .string y.name) rfl rfl rfl rfl rfl (by kernel_rfl) (fun w hm _ => name15 a ho.2.1 hnm w) ?_
          refine And.intro (fun w hm _ => ⟨Holds.of_idx [0, 1, 2] hm, trivial⟩) ?_
          refine Go_forkA 6 10 [(7, false), (8, false), (9, false), (10, true), (11, true), (12, false)] [(6, true), (7, false), (8, false), (9, false), (11, true), (12, false)] (by kernel_rfl) rfl rfl (by kernel_rfl) (by kernel_rfl) rfl rfl rfl rfl rfl (fun R w hm _ => ⟨Holds.of_idx [1, 2, 3] hm, trivial⟩) ?_ ?_ tabOk
          · refine OpTo_tcall ([rowB b6 K5, actB b3 a, runB bx I J] ++ rqR J P) (qR I S) rfl rfl rfl rfl rfl rfl (by kernel_rfl) (fun w hb hm hio hsp k => q_next I S cs1 cs2 y q hcs hag hv.fit (by omega) w _ k) ?_
            rintro _ _ (⟨g0, rfl, rfl⟩ | ⟨g0, h1, rfl, rfl⟩ | ⟨g0, t1, A1, c1, h1, rfl, rfl⟩)
            · exact absurd g0 hop
            · rw [hft] at h1; cases h1
            obtain rfl := Option.some.inj (hft.symm.trans h1)
            refine VC_sound tabOk 100 ?_
            intro b99 _
            (repeat (first | refine Or.inl ⟨rfl, rfl, ?_⟩ | refine Or.inl ⟨rfl, ?_⟩ | refine Or.inr ?_))
            exact Go_put (b99, A1, c1) trivial ⟨rfl, rfl, rfl, rfl, rfl, rfl, trivial⟩ (fun _ h => h)
          · intro b99 _
            refine ⟨⟨_, rfl⟩, ?_⟩
            refine Go_aloneM rfl rfl rfl (OpTo_tcall ([.blk b99 44 (Tk.encT Tk.zeroT), rowB b6 K5, actB b3 a, runB bx I J] ++ rqR J P) (qR I S) rfl rfl rfl rfl rfl rfl (by kernel_rfl) (fun w hb hm hio hsp k => q_next I S cs1 cs2 y q hcs hag hv.fit (by omega) w _ k) ?_)
            rintro _ _ (⟨g0, rfl, rfl⟩ | ⟨g0, h1, rfl, rfl⟩ | ⟨g0, t1, A1, c1, h1, rfl, rfl⟩)
            · exact absurd g0 hop
            · rw [hft] at h1; cases h1
            obtain rfl := Option.some.inj (hft.symm.trans h1)
            refine VC_sound tabOk 100 ?_
            (repeat (first | refine Or.inl ⟨rfl, rfl, ?_⟩ | refine Or.inl ⟨rfl, ?_⟩ | refine Or.inr ?_))
            exact Go_put (b99, A1, c1) trivial ⟨rfl, rfl, rfl, rfl, rfl, rfl, trivial⟩ (fun _ h => h)
        · intro b99 _
          refine ⟨⟨_, rfl⟩, ?_⟩
          refine Go_aloneL rfl rfl (OpTo_pcall (v := .string y.name) rfl rfl rfl rfl rfl (by kernel_rfl) (fun w hm _ => name15 a ho.2.1 hnm w) ?_)
          refine And.intro (fun w hm _ => ⟨Holds.of_idx [1, 2, 3] hm, trivial⟩) ?_
          refine VC_sound tabOk 100 ?_
          refine Go_aloneM rfl rfl rfl (OpTo_tcall ([.blk b99 44 (Tk.encT Tk.zeroT), rowB b6 K5, actB b3 a, runB bx I J] ++ rqR J P) (qR I S) rfl rfl rfl rfl rfl rfl (by kernel_rfl) (fun w hb hm hio hsp k => q_next I S cs1 cs2 y q hcs hag hv.fit (by omega) w _ k) ?_)
          rintro _ _ (⟨g0, rfl, rfl⟩ | ⟨g0, h1, rfl, rfl⟩ | ⟨g0, t1, A1, c1, h1, rfl, rfl⟩)
          · exact absurd g0 hop
          · rw [hft] at h1; cases h1
          obtain rfl := Option.some.inj (hft.symm.trans h1)
          refine VC_sound tabOk 100 ?_
          (repeat (first | refine Or.inl ⟨rfl, rfl, ?_⟩ | refine Or.inl ⟨rfl, ?_⟩ | refine Or.inr ?_))
          exact Go_put (b99, A1, c1) trivial ⟨rfl, rfl, rfl, rfl, rfl, rfl, trivial⟩ (fun _ h => h)
      rintro ⟨b15, A1, c1⟩ _
      dsimp only
      refine VC_sound tabOk 100 ?_
      refine Go_cut (σ := Nat × Option Addr × Nat) (fun u => [(0, .v (pv bx)), (3, .v (pv b3)), (5, .v (.int .i64 x)), (6, .v (pv b6)), (15, .v (pv b15)), (16, .v (.int .i64 0)), (17, .v (pv u.1)), (18, .v (.int .i64 0))]) (fun u => .blk u.1 44 (Tk.encT v) :: .blk b15 44 (Tk.encT (Tk.reT t A1 c1)) :: rowB b6 K5 :: actB b3 a :: runB bx I J :: (rqR J { P with yA := u.2.1, yc := u.2.2, ys := y1 ++ ⟨y.name, y.last, v.n⟩ :: y2 } ++ (own (RX.encI .i64) 1 2 A1 c1 t.op :: qR I { S with cs := cs1 ++ (⟨y.name, y.last, t.n⟩, q) :: cs2 }))) (fun _ => True) ?_ ?_
      · refine Go_any mixed [6, 11] [(0, false), (1, false), (2, false), (3, false), (4, false), (99, false), (99, false), (99, false), (99, false), (99, false), (99, false), (99, false), (99, false)] rfl (by kernel_rfl) (by kernel_rfl) [rowB b6 K5, actB b3 a, runB bx I J] (fun _ => True) (fun _ _ _ h => h) (fun w hm _ => ⟨Holds.of_idx [1, 2, 3] hm, trivial⟩) ?_
        refine VC_sound tabOk 100 ?_
        (repeat (first | refine Or.inl ⟨rfl, rfl, ?_⟩ | refine Or.inl ⟨rfl, ?_⟩ | refine Or.inr ?_))
        refine Go_forkL 5 10 [(99, false), (99, false), (99, false), (99, false), (99, false), (99, false), (99, false)] [(5, true), (6, true), (7, false), (8, false), (9, false), (11, true), (12, false)] (by kernel_rfl) rfl rfl (by kernel_rfl) (by kernel_rfl) rfl rfl rfl rfl (fun R w hm _ => ⟨Holds.of_idx [2, 3, 4] hm, trivial⟩) ?_ ?_ tabOk
        · refine OpTo_pcall (v := .string y.name) rfl rfl rfl rfl rfl (by kernel_rfl) (fun w hm _ => name15 a ho.2.1 hnm w) ?_
          refine And.intro (fun w hm _ => ⟨Holds.of_idx [1, 2, 3] hm, trivial⟩) ?_
          refine Go_forkA 6 10 [(7, false), (8, false), (9, false), (10, true), (11, true), (12, false)] [(6, true), (7, false), (8, false), (9, false), (11, true), (12, false)] (by kernel_rfl) rfl rfl (by kernel_rfl) (by kernel_rfl) rfl rfl rfl rfl rfl (fun R w hm _ => ⟨Holds.of_idx [2, 3, 4] hm, trivial⟩) ?_ ?_ tabOk
          · refine OpTo_xcall [.blk b15 44 (Tk.encT (Tk.reT t A1 c1)), rowB b6 K5, actB b3 a, runB bx I J] ([own (RX.encI .i64) 1 2 A1 c1 t.op] ++ qR I { S with cs := cs1 ++ (⟨y.name, y.last, t.n⟩, q) :: cs2 }) (rqR J P) rfl rfl rfl rfl rfl rfl (by kernel_rfl) (fun w hb hm hio hsp k => pr_open J P y1 y2 y hys (by omega) hne (by omega) w _ k) ?_
            rintro _ _ (⟨g1, rfl, rfl⟩ | ⟨g1, h2, rfl, rfl⟩ | ⟨g1, t2, A2, c2, h2, rfl, rfl⟩)
            · exact absurd g1 hop
            · rw [hfv] at h2; cases h2
            obtain rfl := Option.some.inj (hfv.symm.trans h2)
            refine VC_sound tabOk 100 ?_
            intro b99 _
            (repeat (first | refine Or.inl ⟨rfl, rfl, ?_⟩ | refine Or.inl ⟨rfl, ?_⟩ | refine Or.inr ?_))
            exact Go_put (b99, A2, c2) trivial ⟨rfl, rfl, rfl, rfl, rfl, rfl, rfl, rfl, trivial⟩ (fun _ h => h)
          · intro b99 _
            refine ⟨⟨_, rfl⟩, ?_⟩
            refine Go_aloneM rfl rfl rfl (OpTo_xcall [.blk b99 44 (Tk.encT Tk.zeroT), .blk b15 44 (Tk.encT (Tk.reT t A1 c1)), rowB b6 K5, actB b3 a, runB bx I J] ([own (RX.encI .i64) 1 2 A1 c1 t.op] ++ qR I { S with cs := cs1 ++ (⟨y.name, y.last, t.n⟩, q) :: cs2 }) (rqR J P) rfl rfl rfl rfl rfl rfl (by kernel_rfl) (fun w hb hm hio hsp k => pr_open J P y1 y2 y hys (by omega) hne (by omega) w _ k) ?_)
            rintro _ _ (⟨g1, rfl, rfl⟩ | ⟨g1, h2, rfl, rfl⟩ | ⟨g1, t2, A2, c2, h2, rfl, rfl⟩)
            · exact absurd g1 hop
            · rw [hfv] at h2; cases h2
            obtain rfl := Option.some.inj (hfv.symm.trans h2)
            refine VC_sound tabOk 100 ?_
            (repeat (first | refine Or.inl ⟨rfl, rfl, ?_⟩ | refine Or.inl ⟨rfl, ?_⟩ | refine Or.inr ?_))
            exact Go_put (b99, A2, c2) trivial ⟨rfl, rfl, rfl, rfl, rfl, rfl, rfl, rfl, trivial⟩ (fun _ h => h)
        · intro b99 _
          refine ⟨⟨_, rfl⟩, ?_⟩
          refine Go_aloneL rfl rfl (OpTo_pcall (v := .string y.name) rfl rfl rfl rfl rfl (by kernel_rfl) (fun w hm _ => name15 a ho.2.1 hnm w) ?_)
          refine And.intro (fun w hm _ => ⟨Holds.of_idx [2, 3, 4] hm, trivial⟩) ?_
          refine VC_sound tabOk 100 ?_
          refine Go_aloneM rfl rfl rfl (OpTo_xcall [.blk b99 44 (Tk.encT Tk.zeroT), .blk b15 44 (Tk.encT (Tk.reT t A1 c1)), rowB b6 K5, actB b3 a, runB bx I J] ([own (RX.encI .i64) 1 2 A1 c1 t.op] ++ qR I { S with cs := cs1 ++ (⟨y.name, y.last, t.n⟩, q) :: cs2 }) (rqR J P) rfl rfl rfl rfl rfl rfl (by kernel_rfl) (fun w hb hm hio hsp k => pr_open J P y1 y2 y hys (by omega) hne (by omega) w _ k) ?_)
          rintro _ _ (⟨g1, rfl, rfl⟩ | ⟨g1, h2, rfl, rfl⟩ | ⟨g1, t2, A2, c2, h2, rfl, rfl⟩)
          · exact absurd g1 hop
          · rw [hfv] at h2; cases h2
          obtain rfl := Option.some.inj (hfv.symm.trans h2)
          refine VC_sound tabOk 100 ?_
          (repeat (first | refine Or.inl ⟨rfl, rfl, ?_⟩ | refine Or.inl ⟨rfl, ?_⟩ | refine Or.inr ?_))
          exact Go_put (b99, A2, c2) trivial ⟨rfl, rfl, rfl, rfl, rfl, rfl, rfl, rfl, trivial⟩ (fun _ h => h)
      rintro ⟨b17, A2, c2⟩ _
      dsimp only
      refine VC_sound tabOk 100 ?_
      refine ⟨fun _ => ?_, fun h => by first | (simp at h; done) | (simp at h; omega) | (simp_all; done)⟩
      (repeat (first | refine Or.inl ⟨rfl, rfl, ?_⟩ | refine Or.inl ⟨rfl, ?_⟩ | refine Or.inr ?_))
      refine Go_ops rfl (OpTo_pcall (v := .bool true) rfl rfl rfl rfl rfl (by kernel_rfl) (fun w hm _ => Tk.r11_same (Tk.reT t A1 c1) v hk1.symm hk2.symm hk3.symm hk4.symm w (hm.own_rd (i := 15) rfl) (hm.ro_rd (i := 10) rfl (List.mem_map.2 ⟨v, List.mem_of_find?_eq_some hfv, rfl⟩)) (by show t.op.length ≤ 1000000; omega)) ?_)
      refine VC_sound tabOk 100 ?_
      exact ⟨_, ⟨_, _, (by rw [hk1]; exact hv.setC (x' := ⟨y.name, y.last, t.n⟩) hcs hys rfl ⟨hcn.1, fun _ => ⟨hgt, t, htm, rfl⟩, by dsimp only; omega⟩ A2 c2), rfl, rfl⟩, fun _ _ h => (h.drop (a := [_, _, _, _])).dropAt 11⟩
  show Go _ (KI.code (Code.cond _ _ _) :: _) _ _
  refine Go_cut (σ := Bool) (fun q => [(0, .v (pv bx)), (3, .v (pv b3)), (5, .v (.int .i64 x)), (6, .v (pv b6)), (50, .v (.int .u8 D24)), (269, .v (.bool q))]) (fun _ => rowB b6 K5 :: actB b3 a :: runB bx I J :: (rqR J P ++ (qR I S))) (fun _ => True) ?_ ?_
  · refine VC_sound tabOk 100 ?_
    refine ⟨fun h => ?_, fun h => ?_⟩
    · exact Go_put (true) trivial ⟨rfl, rfl, rfl, rfl, rfl, rfl, trivial⟩ (fun _ h => h)
    exact Go_put (decide ((D24 : Int) = 17)) trivial ⟨rfl, rfl, rfl, rfl, rfl, rfl, trivial⟩ (fun _ h => h)
  intro q _
  refine VC_sound tabOk 6 ?_
  refine ⟨fun h => ?_, fun h => ?_⟩
  · obtain ⟨nm, hnm⟩ : ∃ nm, nm = nameA a := ⟨_, rfl⟩
    by_cases hin : nm ∈ P.ys.map Cu.CurV.name
    rotate_left
    · have hno : ∀ z ∈ P.ys, z.name ≠ nm := fun z hz e => hin (e ▸ List.mem_map_of_mem hz)
      have hag := hv.cu.agetN hin
      refine VC_sound tabOk 100 ?_
      show Go _ _ _ _
      refine Go_any mixed [] [(0, false), (1, false), (2, false), (3, false), (4, false), (5, true), (6, true), (7, false), (8, false), (9, false), (10, false), (11, false)] rfl (by kernel_rfl) (by kernel_rfl) [rowB b6 K5, actB b3 a, runB bx I J] (fun _ => True) (fun _ _ _ h => h) (fun w hm _ => ⟨Holds.of_idx [0, 1, 2] hm, trivial⟩) ?_
      refine VC_sound tabOk 100 ?_
      (repeat (first | refine Or.inl ⟨rfl, rfl, ?_⟩ | refine Or.inl ⟨rfl, ?_⟩ | refine Or.inr ?_))
      refine Go_aloneL rfl rfl (OpTo_pcall (v := .string nm) rfl rfl rfl rfl rfl (by kernel_rfl) (fun w hm _ => name15 a ho.2.1 hnm w) ?_)
      refine And.intro (fun w hm _ => ⟨Holds.of_idx [0, 1, 2] hm, trivial⟩) ?_
      refine VC_sound tabOk 100 ?_
      refine Go_aloneL rfl rfl (OpTo_tcall ([rowB b6 K5, actB b3 a, runB bx I J] ++ rqR J P) (qR I S) rfl rfl rfl rfl rfl rfl (by kernel_rfl) (fun w hb hm hio hsp k => q_batch_none I S nm hag w _ k) ?_)
      rintro _ _ ⟨rfl, rfl⟩
      refine And.intro (fun w hm _ => ⟨Holds.of_idx [0, 1, 2] hm, trivial⟩) ?_
      refine VC_sound tabOk 100 ?_
      show Go _ _ _ _
      refine Go_any mixed [] [(0, false), (1, false), (2, false), (3, false), (4, false), (5, true), (6, true), (7, false), (8, false), (9, false), (10, false), (11, false)] rfl (by kernel_rfl) (by kernel_rfl) [rowB b6 K5, actB b3 a, runB bx I J] (fun _ => True) (fun _ _ _ h => h) (fun w hm _ => ⟨Holds.of_idx [0, 1, 2] hm, trivial⟩) ?_
      refine VC_sound tabOk 100 ?_
      (repeat (first | refine Or.inl ⟨rfl, rfl, ?_⟩ | refine Or.inl ⟨rfl, ?_⟩ | refine Or.inr ?_))
      refine Go_aloneL rfl rfl (OpTo_pcall (v := .string nm) rfl rfl rfl rfl rfl (by kernel_rfl) (fun w hm _ => name15 a ho.2.1 hnm w) ?_)
      refine And.intro (fun w hm _ => ⟨Holds.of_idx [0, 1, 2] hm, trivial⟩) ?_
      refine VC_sound tabOk 100 ?_
      refine Go_aloneL rfl rfl (OpTo_xcall [rowB b6 K5, actB b3 a, runB bx I J] (qR I S) (rqR J P) rfl rfl rfl rfl rfl rfl (by kernel_rfl) (fun w hb hm hio hsp k => pr_batch_no J P nm (by omega) hno w _ k) ?_)
      rintro _ _ ⟨rfl, rfl⟩
      refine And.intro (fun w hm _ => ⟨Holds.of_idx [0, 1, 2] hm, trivial⟩) ?_
      refine VC_sound tabOk 100 ?_
      refine ⟨fun _ => ?_, fun h => by first | (simp at h; done) | (simp at h; omega) | (simp_all; done)⟩
      refine Go_ops rfl (OpTo_pcall (v := .bool true) rfl rfl rfl rfl rfl (by kernel_rfl) (fun w hm _ => r09_same none none 0 0 [] w (.inl rfl) (.inl rfl) (by simp)) ?_)
      refine VC_sound tabOk 100 ?_
      exact ⟨_, ⟨_, _, hv.up, rfl, rfl⟩, fun _ _ h => h.drop (a := [_, _])⟩
    obtain ⟨cs1, cs2, y, q, y1, y2, hcs, hys, rfl, hne⟩ := hv.cu.split hin
    have hcu := hv.cu
    rw [hcs] at hcu
    have hag : aget y.name (Cu.alOf S.cs) = some q := by rw [hcs]; exact hcu.aget
    have hBH : ∀ ys zs, BatE S y ys → BatP P y zs → zs = ys := fun _ _ => hv.batch
    by_cases hop : y.opn = 0
    · refine VC_sound tabOk 100 ?_
      show Go _ _ _ _
      refine Go_any mixed [] [(0, false), (1, false), (2, false), (3, false), (4, false), (5, true), (6, true), (7, false), (8, false), (9, false), (10, false), (11, false)] rfl (by kernel_rfl) (by kernel_rfl) [rowB b6 K5, actB b3 a, runB bx I J] (fun _ => True) (fun _ _ _ h => h) (fun w hm _ => ⟨Holds.of_idx [0, 1, 2] hm, trivial⟩) ?_
      refine VC_sound tabOk 100 ?_
      (repeat (first | refine Or.inl ⟨rfl, rfl, ?_⟩ | refine Or.inl ⟨rfl, ?_⟩ | refine Or.inr ?_))
      refine Go_aloneL rfl rfl (OpTo_pcall (v := .string y.name) rfl rfl rfl rfl rfl (by kernel_rfl) (fun w hm _ => name15 a ho.2.1 hnm w) ?_)
      refine And.intro (fun w hm _ => ⟨Holds.of_idx [0, 1, 2] hm, trivial⟩) ?_
      refine VC_sound tabOk 100 ?_
      refine Go_aloneL rfl rfl (OpTo_tcall ([rowB b6 K5, actB b3 a, runB bx I J] ++ rqR J P) (qR I S) rfl rfl rfl rfl rfl rfl (by kernel_rfl) (fun w hb hm hio hsp k => q_batch I S cs1 cs2 y q hcs hag hv.fit (by omega) (by omega) w _ k) ?_)
      rintro _ _ (⟨g0, rfl, rfl⟩ | ⟨g0, _⟩)
      rotate_left
      · exact absurd hop g0
      refine And.intro (fun w hm _ => ⟨Holds.of_idx [0, 1, 2] hm, trivial⟩) ?_
      refine VC_sound tabOk 100 ?_
      show Go _ _ _ _
      refine Go_any mixed [] [(0, false), (1, false), (2, false), (3, false), (4, false), (5, true), (6, true), (7, false), (8, false), (9, false), (10, false), (11, false)] rfl (by kernel_rfl) (by kernel_rfl) [rowB b6 K5, actB b3 a, runB bx I J] (fun _ => True) (fun _ _ _ h => h) (fun w hm _ => ⟨Holds.of_idx [0, 1, 2] hm, trivial⟩) ?_
      refine VC_sound tabOk 100 ?_
      (repeat (first | refine Or.inl ⟨rfl, rfl, ?_⟩ | refine Or.inl ⟨rfl, ?_⟩ | refine Or.inr ?_))
      refine Go_aloneL rfl rfl (OpTo_pcall (v := .string y.name) rfl rfl rfl rfl rfl (by kernel_rfl) (fun w hm _ => name15 a ho.2.1 hnm w) ?_)
      refine And.intro (fun w hm _ => ⟨Holds.of_idx [0, 1, 2] hm, trivial⟩) ?_
      refine VC_sound tabOk 100 ?_
      refine Go_aloneL rfl rfl (OpTo_xcall [rowB b6 K5, actB b3 a, runB bx I J] (qR I S) (rqR J P) rfl rfl rfl rfl rfl rfl (by kernel_rfl) (fun w hb hm hio hsp k => pr_batch J P y1 y2 y hys (by omega) hne (by omega) hfu (by omega) (by omega) w _ k) ?_)
      rintro _ _ (⟨g1, rfl, rfl⟩ | ⟨g1, _⟩)
      rotate_left
      · exact absurd hop g1
      refine And.intro (fun w hm _ => ⟨Holds.of_idx [0, 1, 2] hm, trivial⟩) ?_
      refine VC_sound tabOk 100 ?_
      refine ⟨fun _ => ?_, fun h => by first | (simp at h; done) | (simp at h; omega) | (simp_all; done)⟩
      refine Go_ops rfl (OpTo_pcall (v := .bool true) rfl rfl rfl rfl rfl (by kernel_rfl) (fun w hm _ => r09_same none none 0 0 [] w (.inl rfl) (.inl rfl) (by simp)) ?_)
      refine VC_sound tabOk 100 ?_
      exact ⟨_, ⟨_, _, hv.up, rfl, rfl⟩, fun _ _ h => h.drop (a := [_, _])⟩
    · refine VC_sound tabOk 100 ?_
      show Go _ _ _ _
      refine Go_any mixed [] [(0, false), (1, false), (2, false), (3, false), (4, false), (5, true), (6, true), (7, false), (8, false), (9, false), (10, false), (11, false)] rfl (by kernel_rfl) (by kernel_rfl) [rowB b6 K5, actB b3 a, runB bx I J] (fun _ => True) (fun _ _ _ h => h) (fun w hm _ => ⟨Holds.of_idx [0, 1, 2] hm, trivial⟩) ?_
      refine VC_sound tabOk 100 ?_
      (repeat (first | refine Or.inl ⟨rfl, rfl, ?_⟩ | refine Or.inl ⟨rfl, ?_⟩ | refine Or.inr ?_))
      refine Go_aloneL rfl rfl (OpTo_pcall (v := .string y.name) rfl rfl rfl rfl rfl (by kernel_rfl) (fun w hm _ => name15 a ho.2.1 hnm w) ?_)
      refine And.intro (fun w hm _ => ⟨Holds.of_idx [0, 1, 2] hm, trivial⟩) ?_
      refine VC_sound tabOk 100 ?_
      refine Go_aloneL rfl rfl (OpTo_tcall ([rowB b6 K5, actB b3 a, runB bx I J] ++ rqR J P) (qR I S) rfl rfl rfl rfl rfl rfl (by kernel_rfl) (fun w hb hm hio hsp k => q_batch I S cs1 cs2 y q hcs hag hv.fit (by omega) (by omega) w _ k) ?_)
      rintro _ _ (⟨g0, _⟩ | ⟨g0, ys, A1, c1, hB, rfl, rfl⟩)
      · exact absurd g0 hop
      refine And.intro (fun w hm _ => ⟨Holds.of_idx [0, 1, 2] hm, trivial⟩) ?_
      refine VC_sound tabOk 100 ?_
      show Go _ _ _ _
      refine Go_any mixed [] [(0, false), (1, false), (2, false), (3, false), (4, false), (5, true), (6, true), (7, false), (8, false), (9, false), (10, false), (11, false)] rfl (by kernel_rfl) (by kernel_rfl) [rowB b6 K5, actB b3 a, runB bx I J] (fun _ => True) (fun _ _ _ h => h) (fun w hm _ => ⟨Holds.of_idx [0, 1, 2] hm, trivial⟩) ?_
      refine VC_sound tabOk 100 ?_
      (repeat (first | refine Or.inl ⟨rfl, rfl, ?_⟩ | refine Or.inl ⟨rfl, ?_⟩ | refine Or.inr ?_))
      refine Go_aloneL rfl rfl (OpTo_pcall (v := .string y.name) rfl rfl rfl rfl rfl (by kernel_rfl) (fun w hm _ => name15 a ho.2.1 hnm w) ?_)
      refine And.intro (fun w hm _ => ⟨Holds.of_idx [0, 1, 2] hm, trivial⟩) ?_
      refine VC_sound tabOk 100 ?_
      refine Go_aloneL rfl rfl (OpTo_xcall [rowB b6 K5, actB b3 a, runB bx I J] ([own encE 8 65 A1 c1 ys] ++ qR I S) (rqR J P) rfl rfl rfl rfl rfl rfl (by kernel_rfl) (fun w hb hm hio hsp k => pr_batch J P y1 y2 y hys (by omega) hne (by omega) hfu (by omega) (by omega) w _ k) ?_)
      rintro _ _ (⟨g1, _⟩ | ⟨g1, zs, A2, c2, hB2, rfl, rfl⟩)
      · exact absurd g1 hop
      obtain rfl := hBH _ _ hB hB2
      have hyl2 := hB.len
      refine And.intro (fun w hm _ => ⟨Holds.of_idx [0, 1, 2] hm, trivial⟩) ?_
      refine VC_sound tabOk 100 ?_
      refine ⟨fun _ => ?_, fun h => by first | (simp at h; done) | (simp at h; omega) | (simp_all; done)⟩
      refine Go_ops rfl (OpTo_pcall (v := .bool true) rfl rfl rfl rfl rfl (by kernel_rfl) (fun w hm _ => r09_same A1 A2 c1 c2 zs w (hm.own_rd (i := 14) rfl) (hm.own_rd (i := 3) rfl) (by omega)) ?_)
      refine VC_sound tabOk 100 ?_
      exact ⟨_, ⟨S, P, hv.up, rfl, rfl⟩, fun _ _ h => ((h.drop (a := [_, _])).dropAt 12).dropAt 1⟩
  refine VC_sound tabOk 18 ?_
  refine ⟨fun h => ?_, fun h => ?_⟩
  · obtain ⟨nm, hnm⟩ : ∃ nm, nm = nameA a := ⟨_, rfl⟩
    by_cases hin : nm ∈ P.ys.map Cu.CurV.name
    rotate_left
    · have hno : ∀ z ∈ P.ys, z.name ≠ nm := fun z hz e => hin (e ▸ List.mem_map_of_mem hz)
      have hag := hv.cu.agetN hin
      refine VC_sound tabOk 100 ?_
      show Go _ _ _ _
      refine Go_any mixed [] [(0, false), (1, false), (2, false), (3, false), (4, false), (5, true), (6, true), (7, false), (8, false), (9, false), (10, false), (11, false)] rfl (by kernel_rfl) (by kernel_rfl) [rowB b6 K5, actB b3 a, runB bx I J] (fun _ => True) (fun _ _ _ h => h) (fun w hm _ => ⟨Holds.of_idx [0, 1, 2] hm, trivial⟩) ?_
      refine VC_sound tabOk 100 ?_
      (repeat (first | refine Or.inl ⟨rfl, rfl, ?_⟩ | refine Or.inl ⟨rfl, ?_⟩ | refine Or.inr ?_))
      refine Go_aloneL rfl rfl (OpTo_pcall (v := .string nm) rfl rfl rfl rfl rfl (by kernel_rfl) (fun w hm _ => name15 a ho.2.1 hnm w) ?_)
      refine And.intro (fun w hm _ => ⟨Holds.of_idx [0, 1, 2] hm, trivial⟩) ?_
      refine VC_sound tabOk 100 ?_
      refine Go_aloneL rfl rfl (OpTo_tcall ([rowB b6 K5, actB b3 a, runB bx I J] ++ rqR J P) (qR I S) rfl rfl rfl rfl rfl rfl (by kernel_rfl) (fun w hb hm hio hsp k => q_finish_none I S nm hag w _ k) ?_)
      rintro _ _ ⟨rfl, rfl⟩
      refine And.intro (fun w hm _ => ⟨Holds.of_idx [0, 1, 2] hm, trivial⟩) ?_
      refine VC_sound tabOk 100 ?_
      show Go _ _ _ _
      refine Go_any mixed [] [(0, false), (1, false), (2, false), (3, false), (4, false), (5, false), (6, false), (7, true), (8, true), (9, false), (10, false), (11, false), (12, false), (13, false)] rfl (by kernel_rfl) (by kernel_rfl) [rowB b6 K5, actB b3 a, runB bx I J] (fun _ => True) (fun _ _ _ h => h) (fun w hm _ => ⟨Holds.of_idx [0, 1, 2] hm, trivial⟩) ?_
      refine VC_sound tabOk 100 ?_
      (repeat (first | refine Or.inl ⟨rfl, rfl, ?_⟩ | refine Or.inl ⟨rfl, ?_⟩ | refine Or.inr ?_))
      refine Go_aloneL rfl rfl (OpTo_pcall (v := .string nm) rfl rfl rfl rfl rfl (by kernel_rfl) (fun w hm _ => name15 a ho.2.1 hnm w) ?_)
      refine And.intro (fun w hm _ => ⟨Holds.of_idx [0, 1, 2] hm, trivial⟩) ?_
      refine VC_sound tabOk 100 ?_
      refine Go_aloneL rfl rfl (OpTo_xcall [rowB b6 K5, actB b3 a, runB bx I J] (qR I S) (rqR J P) rfl rfl rfl rfl rfl rfl (by kernel_rfl) (fun w hb hm hio hsp k => ps_cfin_no J P nm (by omega) hno w _ k) ?_)
      rintro _ _ ⟨rfl, rfl⟩
      refine And.intro (fun w hm _ => ⟨Holds.of_idx [0, 1, 2] hm, trivial⟩) ?_
      refine VC_sound tabOk 100 ?_
      refine Go_ops rfl (OpTo_pcall (v := .bool true) rfl rfl rfl rfl rfl (by kernel_rfl) (fun w hm _ => first15 0 4 w) ?_)
      refine VC_sound tabOk 100 ?_
      exact ⟨_, ⟨_, _, hv.up, rfl, rfl⟩, fun _ _ h => h.drop (a := [_, _])⟩
    obtain ⟨cs1, cs2, y, q, y1, y2, hcs, hys, rfl, hne⟩ := hv.cu.split hin
    have hcu := hv.cu
    rw [hcs] at hcu
    have hag : aget y.name (Cu.alOf S.cs) = some q := by rw [hcs]; exact hcu.aget
    have hcn := hv.cn y (by rw [hys]; simp)
    by_cases hop : y.opn = 0
    · refine VC_sound tabOk 100 ?_
      show Go _ _ _ _
      refine Go_any mixed [] [(0, false), (1, false), (2, false), (3, false), (4, false), (5, true), (6, true), (7, false), (8, false), (9, false), (10, false), (11, false)] rfl (by kernel_rfl) (by kernel_rfl) [rowB b6 K5, actB b3 a, runB bx I J] (fun _ => True) (fun _ _ _ h => h) (fun w hm _ => ⟨Holds.of_idx [0, 1, 2] hm, trivial⟩) ?_
      refine VC_sound tabOk 100 ?_
      (repeat (first | refine Or.inl ⟨rfl, rfl, ?_⟩ | refine Or.inl ⟨rfl, ?_⟩ | refine Or.inr ?_))
      refine Go_aloneL rfl rfl (OpTo_pcall (v := .string y.name) rfl rfl rfl rfl rfl (by kernel_rfl) (fun w hm _ => name15 a ho.2.1 hnm w) ?_)
      refine And.intro (fun w hm _ => ⟨Holds.of_idx [0, 1, 2] hm, trivial⟩) ?_
      refine VC_sound tabOk 100 ?_
      refine Go_aloneL rfl rfl (OpTo_tcall ([rowB b6 K5, actB b3 a, runB bx I J] ++ rqR J P) (qR I S) rfl rfl rfl rfl rfl rfl (by kernel_rfl) (fun w hb hm hio hsp k => q_finish I S cs1 cs2 y q hcs hag w _ k) ?_)
      rintro _ _ ⟨rfl, rfl⟩
      simp only [if_pos hop]
      refine And.intro (fun w hm _ => ⟨Holds.of_idx [0, 1, 2] hm, trivial⟩) ?_
      refine VC_sound tabOk 100 ?_
      show Go _ _ _ _
      refine Go_any mixed [] [(0, false), (1, false), (2, false), (3, false), (4, false), (5, false), (6, false), (7, true), (8, true), (9, false), (10, false), (11, false), (12, false), (13, false)] rfl (by kernel_rfl) (by kernel_rfl) [rowB b6 K5, actB b3 a, runB bx I J] (fun _ => True) (fun _ _ _ h => h) (fun w hm _ => ⟨Holds.of_idx [0, 1, 2] hm, trivial⟩) ?_
      refine VC_sound tabOk 100 ?_
      (repeat (first | refine Or.inl ⟨rfl, rfl, ?_⟩ | refine Or.inl ⟨rfl, ?_⟩ | refine Or.inr ?_))
      refine Go_aloneL rfl rfl (OpTo_pcall (v := .string y.name) rfl rfl rfl rfl rfl (by kernel_rfl) (fun w hm _ => name15 a ho.2.1 hnm w) ?_)
      refine And.intro (fun w hm _ => ⟨Holds.of_idx [0, 1, 2] hm, trivial⟩) ?_
      refine VC_sound tabOk 100 ?_
      refine Go_aloneL rfl rfl (OpTo_xcall [rowB b6 K5, actB b3 a, runB bx I J] (qR I { S with cs := cs1 ++ (y, q) :: cs2 }) (rqR J P) rfl rfl rfl rfl rfl rfl (by kernel_rfl) (fun w hb hm hio hsp k => ps_cfin J P y1 y2 y y.name hys (by rw [← hys]; omega) rfl hne w _ k) ?_)
      rintro _ _ ⟨rfl, A', c', rfl⟩
      simp only [if_pos hop]
      refine And.intro (fun w hm _ => ⟨Holds.of_idx [0, 1, 2] hm, trivial⟩) ?_
      refine VC_sound tabOk 100 ?_
      refine Go_ops rfl (OpTo_pcall (v := .bool true) rfl rfl rfl rfl rfl (by kernel_rfl) (fun w hm _ => first15 0 7 w) ?_)
      refine VC_sound tabOk 100 ?_
      exact ⟨_, ⟨_, _, hv.setC hcs hys rfl hcn A' c', rfl, rfl⟩, fun _ _ h => h.drop (a := [_, _])⟩
    · refine VC_sound tabOk 100 ?_
      show Go _ _ _ _
      refine Go_any mixed [] [(0, false), (1, false), (2, false), (3, false), (4, false), (5, true), (6, true), (7, false), (8, false), (9, false), (10, false), (11, false)] rfl (by kernel_rfl) (by kernel_rfl) [rowB b6 K5, actB b3 a, runB bx I J] (fun _ => True) (fun _ _ _ h => h) (fun w hm _ => ⟨Holds.of_idx [0, 1, 2] hm, trivial⟩) ?_
      refine VC_sound tabOk 100 ?_
      (repeat (first | refine Or.inl ⟨rfl, rfl, ?_⟩ | refine Or.inl ⟨rfl, ?_⟩ | refine Or.inr ?_))
      refine Go_aloneL rfl rfl (OpTo_pcall (v := .string y.name) rfl rfl rfl rfl rfl (by kernel_rfl) (fun w hm _ => name15 a ho.2.1 hnm w) ?_)
      refine And.intro (fun w hm _ => ⟨Holds.of_idx [0, 1, 2] hm, trivial⟩) ?_
      refine VC_sound tabOk 100 ?_
      refine Go_aloneL rfl rfl (OpTo_tcall ([rowB b6 K5, actB b3 a, runB bx I J] ++ rqR J P) (qR I S) rfl rfl rfl rfl rfl rfl (by kernel_rfl) (fun w hb hm hio hsp k => q_finish I S cs1 cs2 y q hcs hag w _ k) ?_)
      rintro _ _ ⟨rfl, rfl⟩
      simp only [if_neg hop]
      refine And.intro (fun w hm _ => ⟨Holds.of_idx [0, 1, 2] hm, trivial⟩) ?_
      refine VC_sound tabOk 100 ?_
      show Go _ _ _ _
      refine Go_any mixed [] [(0, false), (1, false), (2, false), (3, false), (4, false), (5, false), (6, false), (7, true), (8, true), (9, false), (10, false), (11, false), (12, false), (13, false)] rfl (by kernel_rfl) (by kernel_rfl) [rowB b6 K5, actB b3 a, runB bx I J] (fun _ => True) (fun _ _ _ h => h) (fun w hm _ => ⟨Holds.of_idx [0, 1, 2] hm, trivial⟩) ?_
      refine VC_sound tabOk 100 ?_
      (repeat (first | refine Or.inl ⟨rfl, rfl, ?_⟩ | refine Or.inl ⟨rfl, ?_⟩ | refine Or.inr ?_))
      refine Go_aloneL rfl rfl (OpTo_pcall (v := .string y.name) rfl rfl rfl rfl rfl (by kernel_rfl) (fun w hm _ => name15 a ho.2.1 hnm w) ?_)
      refine And.intro (fun w hm _ => ⟨Holds.of_idx [0, 1, 2] hm, trivial⟩) ?_
      refine VC_sound tabOk 100 ?_
      refine Go_aloneL rfl rfl (OpTo_xcall [rowB b6 K5, actB b3 a, runB bx I J] (qR I { S with cs := cs1 ++ (⟨y.name, y.opn, 0⟩, q) :: cs2 }) (rqR J P) rfl rfl rfl rfl rfl rfl (by kernel_rfl) (fun w hb hm hio hsp k => ps_cfin J P y1 y2 y y.name hys (by rw [← hys]; omega) rfl hne w _ k) ?_)
      rintro _ _ ⟨rfl, A', c', rfl⟩
      simp only [if_neg hop]
      refine And.intro (fun w hm _ => ⟨Holds.of_idx [0, 1, 2] hm, trivial⟩) ?_
      refine VC_sound tabOk 100 ?_
      refine Go_ops rfl (OpTo_pcall (v := .bool true) rfl rfl rfl rfl rfl (by kernel_rfl) (fun w hm _ => first15 y.opn 0 w) ?_)
      refine VC_sound tabOk 100 ?_
      exact ⟨_, ⟨_, _, hv.setC (x' := ⟨y.name, y.opn, 0⟩) hcs hys rfl ⟨(hcn.2.1 (by have := hcn.2.2; omega)).2, fun h0 => absurd h0 (by dsimp only; decide), Int.le_refl _⟩ A' c', rfl, rfl⟩, fun _ _ h => h.drop (a := [_, _])⟩
  refine ⟨fun h => ?_, fun h => ?_⟩
  · obtain ⟨nm, hnm⟩ : ∃ nm, nm = nameA a := ⟨_, rfl⟩
    obtain ⟨id, hid0⟩ : ∃ id, id = a.key.tmod 20 := ⟨_, rfl⟩
    obtain ⟨qt, hqt⟩ : ∃ qt, qt = a.n.tmod 9 := ⟨_, rfl⟩
    have hid1 : 0 ≤ id ∧ id < 20 := by rw [hid0]; exact ⟨Int.tmod_nonneg _ ho.2.2.1, Int.tmod_lt_of_pos _ (by decide)⟩
    have htrS : ∀ e ∈ Sp.pre3 S.T.1 S.T.2.1 S.T.2.2 3, OkTr e := hv.tr
    have htrP : ∀ e ∈ Sp.pre3 P.T.1 P.T.2.1 P.T.2.2 3, OkTr e := fun e he => hv.tr e (by rw [← Sp.pre3_eq hv.tb.same] at he; exact he)
    by_cases hin : nm ∈ P.ys.map Cu.CurV.name
    rotate_left
    · have hno : ∀ z ∈ P.ys, z.name ≠ nm := fun z hz e => hin (e ▸ List.mem_map_of_mem hz)
      have hag := hv.cu.agetN hin
      (repeat (first | refine Or.inl ⟨rfl, rfl, ?_⟩ | refine Or.inl ⟨rfl, ?_⟩ | refine Or.inr ?_))
      refine ⟨by decide, _, hid0, ?_⟩
      refine ⟨_, wrap_i64 (n := id) (by omega) (by omega), ?_⟩
      show Go _ _ _ _
      refine Go_any mixed [] [(0, false), (1, false), (2, false), (6, false), (7, false), (11, false), (12, false), (13, false), (17, false), (18, false), (3, false), (4, false), (8, false), (9, false), (14, false), (15, false), (19, false), (20, false), (5, true), (10, true), (16, true), (21, true), (22, false), (23, false)] rfl (by kernel_rfl) (by kernel_rfl) [rowB b6 K5, actB b3 a, runB bx I J] (fun _ => True) (fun _ _ _ h => h) (fun w hm _ => ⟨Holds.of_idx [0, 1, 2] hm, trivial⟩) ?_
      refine VC_sound tabOk 100 ?_
      (repeat (first | refine Or.inl ⟨rfl, rfl, ?_⟩ | refine Or.inl ⟨rfl, ?_⟩ | refine Or.inr ?_))
      refine ⟨by decide, _, hqt, ?_⟩
      (repeat (first | refine Or.inl ⟨rfl, rfl, ?_⟩ | refine Or.inl ⟨rfl, ?_⟩ | refine Or.inr ?_))
      refine ⟨by decide, _, hqt, ?_⟩
      refine Go_aloneL rfl rfl (OpTo_pcall (v := .string nm) rfl rfl rfl rfl rfl (by kernel_rfl) (fun w hm _ => name15 a ho.2.1 hnm w) ?_)
      refine And.intro (fun w hm _ => ⟨Holds.of_idx [0, 1, 2] hm, trivial⟩) ?_
      refine VC_sound tabOk 100 ?_
      refine Go_aloneL rfl rfl (OpTo_tcall ([rowB b6 K5, actB b3 a, runB bx I J] ++ rqR J P) (qR I S) rfl rfl rfl rfl rfl rfl (by kernel_rfl) (fun w hb hm hio hsp k => q_retry_none I S nm id qt hag w _ k) ?_)
      rintro _ _ ⟨rfl, rfl⟩
      refine And.intro (fun w hm _ => ⟨Holds.of_idx [0, 1, 2] hm, trivial⟩) ?_
      refine VC_sound tabOk 100 ?_
      refine Go_aloneL rfl rfl (OpTo_pcall (v := .string nm) rfl rfl rfl rfl rfl (by kernel_rfl) (fun w hm _ => name15 a ho.2.1 hnm w) ?_)
      refine And.intro (fun w hm _ => ⟨Holds.of_idx [0, 1, 2] hm, trivial⟩) ?_
      refine VC_sound tabOk 100 ?_
      refine Go_aloneL rfl rfl (OpTo_xcall [rowB b6 K5, actB b3 a, runB bx I J] (qR I S) (rqR J P) rfl rfl rfl rfl rfl rfl (by kernel_rfl) (fun w hb hm hio hsp k => pr_retry_no J P id qt nm (by omega) hno w _ k) ?_)
      rintro _ _ ⟨rfl, rfl⟩
      refine And.intro (fun w hm _ => ⟨Holds.of_idx [0, 1, 2] hm, trivial⟩) ?_
      refine VC_sound tabOk 100 ?_
      exact ⟨_, ⟨_, _, hv.up, rfl, rfl⟩, fun _ _ h => h.drop (a := [_, _])⟩
    obtain ⟨cs1, cs2, y, q, y1, y2, hcs, hys, rfl, hne⟩ := hv.cu.split hin
    have hcu := hv.cu
    rw [hcs] at hcu
    have hag : aget y.name (Cu.alOf S.cs) = some q := by rw [hcs]; exact hcu.aget
    have hBH : ∀ ys zs, BatE S y ys → BatP P y zs → zs = ys := fun _ _ => hv.batch
    by_cases hop : y.opn = 0
    · (repeat (first | refine Or.inl ⟨rfl, rfl, ?_⟩ | refine Or.inl ⟨rfl, ?_⟩ | refine Or.inr ?_))
      refine ⟨by decide, _, hid0, ?_⟩
      refine ⟨_, wrap_i64 (n := id) (by omega) (by omega), ?_⟩
      show Go _ _ _ _
      refine Go_any mixed [] [(0, false), (1, false), (2, false), (6, false), (7, false), (11, false), (12, false), (13, false), (17, false), (18, false), (3, false), (4, false), (8, false), (9, false), (14, false), (15, false), (19, false), (20, false), (5, true), (10, true), (16, true), (21, true), (22, false), (23, false)] rfl (by kernel_rfl) (by kernel_rfl) [rowB b6 K5, actB b3 a, runB bx I J] (fun _ => True) (fun _ _ _ h => h) (fun w hm _ => ⟨Holds.of_idx [0, 1, 2] hm, trivial⟩) ?_
      refine VC_sound tabOk 100 ?_
      (repeat (first | refine Or.inl ⟨rfl, rfl, ?_⟩ | refine Or.inl ⟨rfl, ?_⟩ | refine Or.inr ?_))
      refine ⟨by decide, _, hqt, ?_⟩
      (repeat (first | refine Or.inl ⟨rfl, rfl, ?_⟩ | refine Or.inl ⟨rfl, ?_⟩ | refine Or.inr ?_))
      refine ⟨by decide, _, hqt, ?_⟩
      refine Go_aloneL rfl rfl (OpTo_pcall (v := .string y.name) rfl rfl rfl rfl rfl (by kernel_rfl) (fun w hm _ => name15 a ho.2.1 hnm w) ?_)
      refine And.intro (fun w hm _ => ⟨Holds.of_idx [0, 1, 2] hm, trivial⟩) ?_
      refine VC_sound tabOk 100 ?_
      refine Go_aloneL rfl rfl (OpTo_tcall ([rowB b6 K5, actB b3 a, runB bx I J] ++ rqR J P) (qR I S) rfl rfl rfl rfl rfl rfl (by kernel_rfl) (fun w hb hm hio hsp k => q_retry I S id qt cs1 cs2 y q hcs hag hv.fit (by omega) (by omega) (by omega) (fun e he => (htrS e he).1) w _ k) ?_)
      rintro _ _ (⟨g0, rfl, rfl⟩ | ⟨g0, _⟩)
      rotate_left
      · exact absurd hop g0
      refine And.intro (fun w hm _ => ⟨Holds.of_idx [0, 1, 2] hm, trivial⟩) ?_
      refine VC_sound tabOk 100 ?_
      refine Go_aloneL rfl rfl (OpTo_pcall (v := .string y.name) rfl rfl rfl rfl rfl (by kernel_rfl) (fun w hm _ => name15 a ho.2.1 hnm w) ?_)
      refine And.intro (fun w hm _ => ⟨Holds.of_idx [0, 1, 2] hm, trivial⟩) ?_
      refine VC_sound tabOk 100 ?_
      refine Go_aloneL rfl rfl (OpTo_xcall [rowB b6 K5, actB b3 a, runB bx I J] (qR I S) (rqR J P) rfl rfl rfl rfl rfl rfl (by kernel_rfl) (fun w hb hm hio hsp k => pr_retry J P id qt y1 y2 y hys (by omega) hne (by omega) hfu (by omega) (by omega) (by rw [hv.xs]; omega) (by rw [hv.xs]; exact hv.ri) htrP w _ k) ?_)
      rintro _ _ (⟨g1, rfl, rfl⟩ | ⟨g1, _⟩)
      rotate_left
      · exact absurd hop g1
      refine And.intro (fun w hm _ => ⟨Holds.of_idx [0, 1, 2] hm, trivial⟩) ?_
      refine VC_sound tabOk 100 ?_
      exact ⟨_, ⟨_, _, hv.up, rfl, rfl⟩, fun _ _ h => h.drop (a := [_, _])⟩
    by_cases hdb : ∃ ys, BatE S y ys ∧ ∀ e ∈ ys, e.id ≠ id
    · (repeat (first | refine Or.inl ⟨rfl, rfl, ?_⟩ | refine Or.inl ⟨rfl, ?_⟩ | refine Or.inr ?_))
      refine ⟨by decide, _, hid0, ?_⟩
      refine ⟨_, wrap_i64 (n := id) (by omega) (by omega), ?_⟩
      show Go _ _ _ _
      refine Go_any mixed [] [(0, false), (1, false), (2, false), (6, false), (7, false), (11, false), (12, false), (13, false), (17, false), (18, false), (3, false), (4, false), (8, false), (9, false), (14, false), (15, false), (19, false), (20, false), (5, true), (10, true), (16, true), (21, true), (22, false), (23, false)] rfl (by kernel_rfl) (by kernel_rfl) [rowB b6 K5, actB b3 a, runB bx I J] (fun _ => True) (fun _ _ _ h => h) (fun w hm _ => ⟨Holds.of_idx [0, 1, 2] hm, trivial⟩) ?_
      refine VC_sound tabOk 100 ?_
      (repeat (first | refine Or.inl ⟨rfl, rfl, ?_⟩ | refine Or.inl ⟨rfl, ?_⟩ | refine Or.inr ?_))
      refine ⟨by decide, _, hqt, ?_⟩
      (repeat (first | refine Or.inl ⟨rfl, rfl, ?_⟩ | refine Or.inl ⟨rfl, ?_⟩ | refine Or.inr ?_))
      refine ⟨by decide, _, hqt, ?_⟩
      refine Go_aloneL rfl rfl (OpTo_pcall (v := .string y.name) rfl rfl rfl rfl rfl (by kernel_rfl) (fun w hm _ => name15 a ho.2.1 hnm w) ?_)
      refine And.intro (fun w hm _ => ⟨Holds.of_idx [0, 1, 2] hm, trivial⟩) ?_
      refine VC_sound tabOk 100 ?_
      refine Go_aloneL rfl rfl (OpTo_tcall ([rowB b6 K5, actB b3 a, runB bx I J] ++ rqR J P) (qR I S) rfl rfl rfl rfl rfl rfl (by kernel_rfl) (fun w hb hm hio hsp k => q_retry I S id qt cs1 cs2 y q hcs hag hv.fit (by omega) (by omega) (by omega) (fun e he => (htrS e he).1) w _ k) ?_)
      rintro _ _ (⟨g0, _⟩ | ⟨g0, ys, hB, (⟨hn1, rfl, rfl⟩ | ⟨i, e, A1, c1, us, hge, hei, hne1, rfl, hA, rfl⟩)⟩)
      · exact absurd g0 hop
      rotate_left
      · obtain ⟨ys2, hb2, hn2⟩ := hdb; obtain rfl := batE_uniq hB hb2; exact absurd hei (hn2 e (List.mem_of_getElem? hge))
      refine And.intro (fun w hm _ => ⟨Holds.of_idx [0, 1, 2] hm, trivial⟩) ?_
      refine VC_sound tabOk 100 ?_
      refine Go_aloneL rfl rfl (OpTo_pcall (v := .string y.name) rfl rfl rfl rfl rfl (by kernel_rfl) (fun w hm _ => name15 a ho.2.1 hnm w) ?_)
      refine And.intro (fun w hm _ => ⟨Holds.of_idx [0, 1, 2] hm, trivial⟩) ?_
      refine VC_sound tabOk 100 ?_
      refine Go_aloneL rfl rfl (OpTo_xcall [rowB b6 K5, actB b3 a, runB bx I J] (qR I S) (rqR J P) rfl rfl rfl rfl rfl rfl (by kernel_rfl) (fun w hb hm hio hsp k => pr_retry J P id qt y1 y2 y hys (by omega) hne (by omega) hfu (by omega) (by omega) (by rw [hv.xs]; omega) (by rw [hv.xs]; exact hv.ri) htrP w _ k) ?_)
      rintro _ _ (⟨g1, _⟩ | ⟨g1, zs, hB2, (⟨hn2, rfl, rfl⟩ | ⟨i2, e2, A2, c2, us2, hge2, hei2, hne2, rfl, hA2, rfl⟩)⟩)
      · exact absurd g1 hop
      rotate_left
      · obtain rfl := hBH _ _ hB hB2; exact absurd hei2 (hn1 e2 (List.mem_of_getElem? hge2))
      refine And.intro (fun w hm _ => ⟨Holds.of_idx [0, 1, 2] hm, trivial⟩) ?_
      refine VC_sound tabOk 100 ?_
      exact ⟨_, ⟨_, _, hv.up, rfl, rfl⟩, fun _ _ h => h.drop (a := [_, _])⟩
    · (repeat (first | refine Or.inl ⟨rfl, rfl, ?_⟩ | refine Or.inl ⟨rfl, ?_⟩ | refine Or.inr ?_))
      refine ⟨by decide, _, hid0, ?_⟩
      refine ⟨_, wrap_i64 (n := id) (by omega) (by omega), ?_⟩
      show Go _ _ _ _
      refine Go_any mixed [] [(0, false), (1, false), (2, false), (6, false), (7, false), (11, false), (12, false), (13, false), (17, false), (18, false), (3, false), (4, false), (8, false), (9, false), (14, false), (15, false), (19, false), (20, false), (5, true), (10, true), (16, true), (21, true), (22, false), (23, false)] rfl (by kernel_rfl) (by kernel_rfl) [rowB b6 K5, actB b3 a, runB bx I J] (fun _ => True) (fun _ _ _ h => h) (fun w hm _ => ⟨Holds.of_idx [0, 1, 2] hm, trivial⟩) ?_
      refine VC_sound tabOk 100 ?_
      (repeat (first | refine Or.inl ⟨rfl, rfl, ?_⟩ | refine Or.inl ⟨rfl, ?_⟩ | refine Or.inr ?_))
      refine ⟨by decide, _, hqt, ?_⟩
      (repeat (first | refine Or.inl ⟨rfl, rfl, ?_⟩ | refine Or.inl ⟨rfl, ?_⟩ | refine Or.inr ?_))
      refine ⟨by decide, _, hqt, ?_⟩
      refine Go_aloneL rfl rfl (OpTo_pcall (v := .string y.name) rfl rfl rfl rfl rfl (by kernel_rfl) (fun w hm _ => name15 a ho.2.1 hnm w) ?_)
      refine And.intro (fun w hm _ => ⟨Holds.of_idx [0, 1, 2] hm, trivial⟩) ?_
      refine VC_sound tabOk 100 ?_
      refine Go_aloneL rfl rfl (OpTo_tcall ([rowB b6 K5, actB b3 a, runB bx I J] ++ rqR J P) (qR I S) rfl rfl rfl rfl rfl rfl (by kernel_rfl) (fun w hb hm hio hsp k => q_retry I S id qt cs1 cs2 y q hcs hag hv.fit (by omega) (by omega) (by omega) (fun e he => (htrS e he).1) w _ k) ?_)
      rintro _ _ (⟨g0, _⟩ | ⟨g0, ys, hB, (⟨hn1, rfl, rfl⟩ | ⟨i, e, A1, c1, us, hge, hei, hne1, rfl, hA, rfl⟩)⟩)
      · exact absurd g0 hop
      · exact absurd ⟨ys, hB, hn1⟩ hdb
      refine And.intro (fun w hm _ => ⟨Holds.of_idx [0, 1, 2] hm, trivial⟩) ?_
      refine VC_sound tabOk 100 ?_
      refine Go_aloneL rfl rfl (OpTo_pcall (v := .string y.name) rfl rfl rfl rfl rfl (by kernel_rfl) (fun w hm _ => name15 a ho.2.1 hnm w) ?_)
      refine And.intro (fun w hm _ => ⟨Holds.of_idx [0, 1, 2] hm, trivial⟩) ?_
      refine VC_sound tabOk 100 ?_
      refine Go_aloneL rfl rfl (OpTo_xcall [rowB b6 K5, actB b3 a, runB bx I J] (qR I { S with rA := A1, rc := c1, xs := us }) (rqR J P) rfl rfl rfl rfl rfl rfl (by kernel_rfl) (fun w hb hm hio hsp k => pr_retry J P id qt y1 y2 y hys (by omega) hne (by omega) hfu (by omega) (by omega) (by rw [hv.xs]; omega) (by rw [hv.xs]; exact hv.ri) htrP w _ k) ?_)
      rintro _ _ (⟨g1, _⟩ | ⟨g1, zs, hB2, (⟨hn2, rfl, rfl⟩ | ⟨i2, e2, A2, c2, us2, hge2, hei2, hne2, rfl, hA2, rfl⟩)⟩)
      · exact absurd g1 hop
      · obtain rfl := hBH _ _ hB hB2; exact absurd hei (hn2 e (List.mem_of_getElem? hge))
      obtain rfl := hBH _ _ hB hB2
      obtain rfl := first_ev hge hei hne1 hge2 hei2 hne2
      rw [hv.xs] at hA2 ⊢
      obtain rfl := hA.unique hv.ok hA2
      refine And.intro (fun w hm _ => ⟨Holds.of_idx [0, 1, 2] hm, trivial⟩) ?_
      refine VC_sound tabOk 100 ?_
      exact ⟨_, ⟨_, _, hv.retry (htrS e (hB.mem (List.mem_of_getElem? hge))) hA A1 c1 A2 c2, congrArg Value.bool (decide_eq_true rfl), rfl⟩, fun _ _ h => h.drop (a := [_, _])⟩
  refine ⟨fun h => ?_, fun h => ?_⟩
  · obtain ⟨qt, hqt⟩ : ∃ qt, qt = a.n.tmod 9 := ⟨_, rfl⟩
    have hdl := Rt.dueL_len qt S.xs
    have hpm := pr_maint J P x qt hc3.2 (by omega) (by rw [hv.xs]; omega) (by rw [hv.xs]; exact hv.ri)
    rw [hv.xs] at hpm
    refine VC_sound tabOk 100 ?_
    show Go _ _ _ _
    refine Go_any mixed [] [(0, false), (1, false), (2, false), (4, false), (5, false), (9, false), (10, false), (11, false), (13, false), (14, false), (3, false), (6, false), (7, false), (12, false), (15, false), (16, false), (8, true), (17, true), (18, true), (19, false)] rfl (by kernel_rfl) (by kernel_rfl) [rowB b6 K5, actB b3 a, runB bx I J] (fun _ => True) (fun _ _ _ h => h) (fun w hm _ => ⟨Holds.of_idx [0, 1, 2] hm, trivial⟩) ?_
    refine VC_sound tabOk 100 ?_
    (repeat (first | refine Or.inl ⟨rfl, rfl, ?_⟩ | refine Or.inl ⟨rfl, ?_⟩ | refine Or.inr ?_))
    refine ⟨by decide, _, hqt, ?_⟩
    (repeat (first | refine Or.inl ⟨rfl, rfl, ?_⟩ | refine Or.inl ⟨rfl, ?_⟩ | refine Or.inr ?_))
    refine ⟨by decide, _, hqt, ?_⟩
    refine Go_aloneL rfl rfl (OpTo_tcall ([rowB b6 K5, actB b3 a, runB bx I J] ++ rqR J P) (qR I S) rfl rfl rfl rfl rfl rfl (by kernel_rfl) (fun w hb hm hio hsp k => q_maint I S x qt hc3.1 (by omega) (by omega) w _ k) ?_)
    rintro _ _ ⟨A1, c1, A', c', A2, c2, rfl, rfl⟩
    refine And.intro (fun w hm _ => ⟨Holds.of_idx [0, 1, 2] hm, trivial⟩) ?_
    refine VC_sound tabOk 100 ?_
    refine Go_aloneL rfl rfl (OpTo_xcall [rowB b6 K5, actB b3 a, runB bx I J] ([own encE 8 65 A1 c1 (mtL x (Rt.dueL qt S.xs))] ++ qR I (S.mt x qt A' c' A2 c2)) (rqR J P) rfl rfl rfl rfl rfl rfl (by kernel_rfl) (fun w hb hm hio hsp k => hpm w _ k) ?_)
    rintro _ _ ⟨B1, d1, B', d', B2, d2, rfl, rfl⟩
    refine And.intro (fun w hm _ => ⟨Holds.of_idx [0, 1, 2] hm, trivial⟩) ?_
    refine VC_sound tabOk 100 ?_
    refine Go_aloneL rfl rfl (OpTo_pcall (v := .bool true) rfl rfl rfl rfl rfl (by kernel_rfl) (fun w hm _ => r09_same A1 B1 c1 d1 (mtL x (Rt.dueL qt S.xs)) w (hm.own_rd (i := 14) rfl) (hm.own_rd (i := 3) rfl) (by rw [mtL_len]; omega)) ?_)
    refine And.intro (fun w hm _ => ⟨Holds.of_idx [0, 1, 2] hm, trivial⟩) ?_
    refine VC_sound tabOk 100 ?_
    exact ⟨_, ⟨_, _, hv.maint x qt A' c' A2 c2 B' d' B2 d2, rfl, rfl⟩, fun _ _ h => ((h.drop (a := [_, _])).dropAt 12).dropAt 1⟩
  show Go _ (KI.code (Code.cond _ _ _) :: _) _ _
  refine Go_cut (σ := Bool) (fun q => [(0, .v (pv bx)), (3, .v (pv b3)), (5, .v (.int .i64 x)), (6, .v (pv b6)), (50, .v (.int .u8 D24)), (379, .v (.bool q))]) (fun _ => rowB b6 K5 :: actB b3 a :: runB bx I J :: (rqR J P ++ (qR I S))) (fun _ => True) ?_ ?_
  · refine VC_sound tabOk 100 ?_
    refine ⟨fun h => ?_, fun h => ?_⟩
    · exact Go_put (true) trivial ⟨rfl, rfl, rfl, rfl, rfl, rfl, trivial⟩ (fun _ h => h)
    exact Go_put (decide ((D24 : Int) = 22)) trivial ⟨rfl, rfl, rfl, rfl, rfl, rfl, trivial⟩ (fun _ h => h)
  intro q _
  refine VC_sound tabOk 100 ?_
  refine ⟨fun h => ?_, fun h => ?_⟩
  · have hfr := pr_free J P (by omega) hfu (by omega) hc3.2 (by omega) (by omega)
    have hnt : (Sp.get3 P.T (Sp.nxt P.cur)).xs = (Sp.get3 S.T (Sp.nxt S.cur)).xs := by rw [hv.cur]; exact (hv.tb.same _ (nxt_lt _)).symm
    (repeat (first | refine Or.inl ⟨rfl, rfl, ?_⟩ | refine Or.inl ⟨rfl, ?_⟩ | refine Or.inr ?_))
    refine Go_ops rfl (OpTo_tcall ([rowB b6 K5, actB b3 a, runB bx I J] ++ rqR J P) (qR I S) rfl rfl rfl rfl rfl rfl (by kernel_rfl) (fun w hb hm hio hsp k => q_rotate I S (by omega) hv.fit (by omega) hc3.1 (by omega) w _ k) ?_)
    rintro _ _ ⟨b, hF, hcases⟩
    rw [hv.free hF] at hfr
    rcases hcases with ⟨h0, rfl, rfl⟩ | ⟨h0, h1, rfl, rfl⟩ | ⟨h0, h1, rfl, rfl⟩
    · refine VC_sound tabOk 100 ?_
      refine Go_res (rowB b6 K5 :: actB b3 a :: runB bx I J :: (rqR J P ++ (qR I { S with cur := Sp.nxt S.cur }))) (fun _ h => h) ?_
      show Go _ _ _ _
      refine Go_any mixed [] [(0, false), (1, false), (2, false), (6, false), (7, false), (8, false), (3, false), (4, false), (5, false), (9, false), (10, true), (11, true), (12, false), (13, false), (14, false), (15, false), (16, false)] rfl (by kernel_rfl) (by kernel_rfl) [rowB b6 K5, actB b3 a, runB bx I J] (fun _ => True) (fun _ _ _ h => h) (fun w hm _ => ⟨Holds.of_idx [0, 1, 2] hm, trivial⟩) ?_
      refine VC_sound tabOk 100 ?_
      (repeat (first | refine Or.inl ⟨rfl, rfl, ?_⟩ | refine Or.inl ⟨rfl, ?_⟩ | refine Or.inr ?_))
      refine Go_aloneL rfl rfl (OpTo_xcall [rowB b6 K5, actB b3 a, runB bx I J] (qR I { S with cur := Sp.nxt S.cur }) (rqR J P) rfl rfl rfl rfl rfl rfl (by kernel_rfl) (fun w hb hm hio hsp k => hfr w _ k) ?_)
      rintro _ _ ⟨rfl, rfl⟩
      refine And.intro (fun w hm _ => ⟨Holds.of_idx [0, 1, 2] hm, trivial⟩) ?_
      refine VC_sound tabOk 100 ?_
      refine Go_aloneL rfl rfl (OpTo_xcall [rowB b6 K5, actB b3 a, runB bx I J] (qR I { S with cur := Sp.nxt S.cur }) (rqR J P) rfl rfl rfl rfl rfl rfl (by kernel_rfl) (fun w hb hm hio hsp k => ps_rotate J P b hc3.2 w _ k) ?_)
      rintro _ _ (⟨g0, rfl, rfl⟩ | ⟨g0, g1, rfl, rfl⟩ | ⟨g0, g1, rfl, rfl⟩)
      rotate_left
      · exact absurd (hnt ▸ h0) g0
      · exact absurd (hnt ▸ h0) g0
      refine And.intro (fun w hm _ => ⟨Holds.of_idx [0, 1, 2] hm, trivial⟩) ?_
      refine VC_sound tabOk 100 ?_
      refine ⟨fun _ => ?_, fun h => by first | (simp at h; done) | (simp at h; omega) | (simp_all; done)⟩
      exact ⟨_, ⟨_, _, hv.turn, rfl, rfl⟩, fun _ _ h => h.drop (a := [_, _])⟩
    · refine VC_sound tabOk 100 ?_
      refine Go_res (rowB b6 K5 :: actB b3 a :: runB bx I J :: (rqR J P ++ (qR I S))) (fun _ h => h) ?_
      show Go _ _ _ _
      refine Go_any mixed [] [(0, false), (1, false), (2, false), (6, false), (7, false), (8, false), (3, false), (4, false), (5, false), (9, false), (10, true), (11, true), (12, false), (13, false), (14, false), (15, false), (16, false)] rfl (by kernel_rfl) (by kernel_rfl) [rowB b6 K5, actB b3 a, runB bx I J] (fun _ => True) (fun _ _ _ h => h) (fun w hm _ => ⟨Holds.of_idx [0, 1, 2] hm, trivial⟩) ?_
      refine VC_sound tabOk 100 ?_
      (repeat (first | refine Or.inl ⟨rfl, rfl, ?_⟩ | refine Or.inl ⟨rfl, ?_⟩ | refine Or.inr ?_))
      refine Go_aloneL rfl rfl (OpTo_xcall [rowB b6 K5, actB b3 a, runB bx I J] (qR I S) (rqR J P) rfl rfl rfl rfl rfl rfl (by kernel_rfl) (fun w hb hm hio hsp k => hfr w _ k) ?_)
      rintro _ _ ⟨rfl, rfl⟩
      refine And.intro (fun w hm _ => ⟨Holds.of_idx [0, 1, 2] hm, trivial⟩) ?_
      refine VC_sound tabOk 100 ?_
      refine Go_aloneL rfl rfl (OpTo_xcall [rowB b6 K5, actB b3 a, runB bx I J] (qR I S) (rqR J P) rfl rfl rfl rfl rfl rfl (by kernel_rfl) (fun w hb hm hio hsp k => ps_rotate J P b hc3.2 w _ k) ?_)
      rintro _ _ (⟨g0, rfl, rfl⟩ | ⟨g0, g1, rfl, rfl⟩ | ⟨g0, g1, rfl, rfl⟩)
      · exact absurd (hnt ▸ g0) h0
      rotate_left
      · rw [h1] at g1; cases g1
      refine And.intro (fun w hm _ => ⟨Holds.of_idx [0, 1, 2] hm, trivial⟩) ?_
      refine VC_sound tabOk 100 ?_
      refine ⟨fun _ => ?_, fun h => by first | (simp at h; done) | (simp at h; omega) | (simp_all; done)⟩
      exact ⟨_, ⟨_, _, hv.up, rfl, rfl⟩, fun _ _ h => h.drop (a := [_, _])⟩
    · refine VC_sound tabOk 100 ?_
      refine Go_res (rowB b6 K5 :: actB b3 a :: runB bx I J :: (rqR J P ++ (qR I { S with T := Sp.set3 S.T (Sp.nxt S.cur) Sp.noTb }))) (fun _ h => h) ?_
      show Go _ _ _ _
      refine Go_any mixed [] [(0, false), (1, false), (2, false), (6, false), (7, false), (8, false), (3, false), (4, false), (5, false), (9, false), (10, true), (11, true), (12, false), (13, false), (14, false), (15, false), (16, false)] rfl (by kernel_rfl) (by kernel_rfl) [rowB b6 K5, actB b3 a, runB bx I J] (fun _ => True) (fun _ _ _ h => h) (fun w hm _ => ⟨Holds.of_idx [0, 1, 2] hm, trivial⟩) ?_
      refine VC_sound tabOk 100 ?_
      (repeat (first | refine Or.inl ⟨rfl, rfl, ?_⟩ | refine Or.inl ⟨rfl, ?_⟩ | refine Or.inr ?_))
      refine Go_aloneL rfl rfl (OpTo_xcall [rowB b6 K5, actB b3 a, runB bx I J] (qR I { S with T := Sp.set3 S.T (Sp.nxt S.cur) Sp.noTb }) (rqR J P) rfl rfl rfl rfl rfl rfl (by kernel_rfl) (fun w hb hm hio hsp k => hfr w _ k) ?_)
      rintro _ _ ⟨rfl, rfl⟩
      refine And.intro (fun w hm _ => ⟨Holds.of_idx [0, 1, 2] hm, trivial⟩) ?_
      refine VC_sound tabOk 100 ?_
      refine Go_aloneL rfl rfl (OpTo_xcall [rowB b6 K5, actB b3 a, runB bx I J] (qR I { S with T := Sp.set3 S.T (Sp.nxt S.cur) Sp.noTb }) (rqR J P) rfl rfl rfl rfl rfl rfl (by kernel_rfl) (fun w hb hm hio hsp k => ps_rotate J P b hc3.2 w _ k) ?_)
      rintro _ _ (⟨g0, rfl, rfl⟩ | ⟨g0, g1, rfl, rfl⟩ | ⟨g0, g1, rfl, rfl⟩)
      · exact absurd (hnt ▸ g0) h0
      · rw [h1] at g1; cases g1
      refine And.intro (fun w hm _ => ⟨Holds.of_idx [0, 1, 2] hm, trivial⟩) ?_
      refine VC_sound tabOk 100 ?_
      refine ⟨fun _ => ?_, fun h => by first | (simp at h; done) | (simp at h; omega) | (simp_all; done)⟩
      exact ⟨_, ⟨_, _, hv.clear, rfl, rfl⟩, fun _ _ h => h.drop (a := [_, _])⟩
  refine VC_sound tabOk 100 ?_
  show Go _ _ _ _
  refine Go_any mixed [] [(0, false), (1, false), (2, false), (5, false), (6, false), (7, false), (11, false), (12, false), (13, false), (3, false), (8, false), (9, false), (10, false), (14, false), (4, true), (15, true), (16, true), (17, false), (18, false)] rfl (by kernel_rfl) (by kernel_rfl) [rowB b6 K5, actB b3 a, runB bx I J] (fun _ => True) (fun _ _ _ h => h) (fun w hm _ => ⟨Holds.of_idx [0, 1, 2] hm, trivial⟩) ?_
  refine VC_sound tabOk 100 ?_
  (repeat (first | refine Or.inl ⟨rfl, rfl, ?_⟩ | refine Or.inl ⟨rfl, ?_⟩ | refine Or.inr ?_))
  refine Go_aloneL rfl rfl (OpTo_tcall ([rowB b6 K5, actB b3 a, runB bx I J] ++ rqR J P) (qR I S) rfl rfl rfl rfl rfl rfl (by kernel_rfl) (fun w hb hm hio hsp k => q_trim I S (by omega) (by omega) w _ k) ?_)
  rintro _ _ ⟨ys, hp, hr, rfl, rfl⟩
  obtain rfl := LikeY.uniq hv.cu hp hr
  refine And.intro (fun w hm _ => ⟨Holds.of_idx [0, 1, 2] hm, trivial⟩) ?_
  refine VC_sound tabOk 100 ?_
  refine Go_aloneL rfl rfl (OpTo_xcall [rowB b6 K5, actB b3 a, runB bx I J] (qR I { S with ts := trimTs S (lowL P.ys) }) (rqR J P) rfl rfl rfl rfl rfl rfl (by kernel_rfl) (fun w hb hm hio hsp k => pr_low J P (by omega) w _ k) ?_)
  rintro _ _ ⟨rfl, rfl⟩
  refine And.intro (fun w hm _ => ⟨Holds.of_idx [0, 1, 2] hm, trivial⟩) ?_
  refine VC_sound tabOk 100 ?_
  refine Go_aloneL rfl rfl (OpTo_xcall [rowB b6 K5, actB b3 a, runB bx I J] (qR I { S with ts := trimTs S (lowL P.ys) }) (rqR J P) rfl rfl rfl rfl rfl rfl (by kernel_rfl) (fun w hb hm hio hsp k => ps_ttrim J P (lowL P.ys) (by omega) w _ k) ?_)
  rintro _ _ ⟨rfl, A', c', rfl⟩
  refine And.intro (fun w hm _ => ⟨Holds.of_idx [0, 1, 2] hm, trivial⟩) ?_
  refine VC_sound tabOk 100 ?_
  have ht := hv.trim A' c'
  exact ⟨_, ⟨_, _, ht.2, congrArg Value.bool (decide_eq_true ht.1), rfl⟩, fun _ _ h => h.drop (a := [_, _])⟩
end Go.Proofs.YthpcahgdobnljaaGreat
