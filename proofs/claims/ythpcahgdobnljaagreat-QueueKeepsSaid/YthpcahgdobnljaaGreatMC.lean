/- Texts of layer 15 put together (Pa, Pb, Pc, Pd, Pe). -/
import Derived.Test.YthpcahgdobnljaaGreatMB
import Derived.Test.YthpcahgdobnljaaGreatP11
import Derived.Test.YthpcahgdobnljaaGreatMA
import Derived.Test.YthpcahgdobnljaaGreatR12b
/- Layer 15's reference as a whole: what it owns; calls on its parts. -/
set_option maxRecDepth 100000
set_option autoImplicit false
set_option linter.unusedVariables false
set_option linter.unusedSimpArgs false
namespace Go.Proofs.YthpcahgdobnljaaGreat
open Go.RX Go Go.RowKit


structure RI where
  b : Nat
  br : Nat
structure RS where
  T : Sp.Tbs
  cur : Nat
  A : Option Addr
  c : Nat
  us : List Tk.TickM
  last : Int
  yA : Option Addr
  yc : Nat
  ys : List Cu.CurV
  xA : Option Addr
  xc : Nat
  xs : List Rt.ItemM
  nx : Int
  RA : Option Addr
  Rc : Nat
  R : List Int
abbrev gq (J : RI) (P : RS) : QJ := ⟨J.b, pv J.br, P.T.1.v, P.T.2.1.v, P.T.2.2.v, .int .i64 P.cur, .slice P.A P.us.length P.c, .int .i64 P.last, .slice P.yA P.ys.length P.yc, .slice P.xA P.xs.length P.xc, .int .i64 P.nx⟩
abbrev rqB (J : RI) (P : RS) : Res := .blk J.b 100 [pv J.br, P.T.1.v, P.T.2.1.v, P.T.2.2.v, .int .i64 P.cur, .slice P.A P.us.length P.c, .int .i64 P.last, .slice P.yA P.ys.length P.yc, .slice P.xA P.xs.length P.xc, .int .i64 P.nx]
abbrev rqR (J : RI) (P : RS) : List Res := [rqB J P, P.T.1.r, P.T.2.1.r, P.T.2.2.r, own Tk.encT 4 44 P.A P.c P.us, ro (Tk.tkBag P.us), own Cu.encC 3 101 P.yA P.yc P.ys, own Rt.encT 9 205 P.xA P.xc P.xs] ++ refB J.br P.RA P.Rc P.R
theorem ps_addTo (J : RI) (P : RS) (i : Nat) (e : EventM) (hi : i < 3) (hl : Sp.len3 P.T ≤ 100000) (w0 : World) (hfs : List PH) (hm : Mod hfs (rqR J P) w0) :
    Calls Tryz.prog 112 #[.pointer (some ⟨J.b, 1, none⟩), .int .i64 i, mkE e] w0 fun e' w' => ∃ v Rs', e' = .returned v ∧ (v = .int .i64 0 ∧ ∃ A' c', Rs' = rqR J { P with T := Sp.set3 P.T i ⟨A', c', (Sp.get3 P.T i).xs ++ [e]⟩ }) ∧ Mod hfs Rs' w' ∧ Oth w0 w' := by
  refine part_call (Sp.rsR (gq J P) P.T P.cur) ([own Tk.encT 4 44 P.A P.c P.us, ro (Tk.tkBag P.us), own Cu.encC 3 101 P.yA P.yc P.ys, own Rt.encT 9 205 P.xA P.xc P.xs] ++ refB J.br P.RA P.Rc P.R) (by classical exact List.perm_iff_count.2 fun a => by simp only [rqR, rqB, gq, Sp.rsR, Tk.rfT, Cu.rfC, Rt.rfR, refB, List.length_nil, List.cons_append, List.nil_append, List.append_nil, List.count_cons, List.count_append, List.count_nil] <;> omega) hm (fun hb hsp h => Sp.r10_addTo (gq J P) P.T P.cur i e w0 _ h hi hl) ?_
  rintro v Rs' ⟨A', c', rfl, rfl⟩
  exact ⟨_, ⟨rfl, A', c', rfl⟩, (by classical exact List.perm_iff_count.2 fun a => by simp only [rqR, rqB, gq, Sp.rsR, Tk.rfT, Cu.rfC, Rt.rfR, refB, List.length_nil, List.cons_append, List.nil_append, List.append_nil, List.count_cons, List.count_append, List.count_nil] <;> omega)⟩
theorem ps_all (J : RI) (P : RS) (hl : Sp.len3 P.T ≤ 10000) (w0 : World) (hfs : List PH) (hm : Mod hfs (rqR J P) w0) :
    Calls Tryz.prog 77 #[.pointer (some ⟨J.b, 1, none⟩)] w0 fun e' w' => ∃ v Rs', e' = .returned v ∧ (∃ ys A' c', SrtR (Sp.pre3 P.T.1 P.T.2.1 P.T.2.2 3) ys ∧ v = .slice A' ys.length c' ∧ Rs' = own encE 8 65 A' c' ys :: rqR J P) ∧ Mod hfs Rs' w' ∧ Oth w0 w' := by
  refine part_call (Sp.rsR (gq J P) P.T P.cur) ([own Tk.encT 4 44 P.A P.c P.us, ro (Tk.tkBag P.us), own Cu.encC 3 101 P.yA P.yc P.ys, own Rt.encT 9 205 P.xA P.xc P.xs] ++ refB J.br P.RA P.Rc P.R) (by classical exact List.perm_iff_count.2 fun a => by simp only [rqR, rqB, gq, Sp.rsR, Tk.rfT, Cu.rfC, Rt.rfR, refB, List.length_nil, List.cons_append, List.nil_append, List.append_nil, List.count_cons, List.count_append, List.count_nil] <;> omega) hm (fun hb hsp h => Sp.r10_all (gq J P) P.T P.cur w0 _ h hl) ?_
  rintro v Rs' ⟨ys, A', c', h1, rfl, rfl⟩
  exact ⟨_, ⟨ys, A', c', h1, rfl, rfl⟩, (by classical exact List.perm_iff_count.2 fun a => by simp only [rqR, rqB, gq, Sp.rsR, Tk.rfT, Cu.rfC, Rt.rfR, refB, List.length_nil, List.cons_append, List.nil_append, List.append_nil, List.count_cons, List.count_append, List.count_nil] <;> omega)⟩
theorem ps_next (J : RI) (P : RS) (hi : P.cur < 3) (w0 : World) (hfs : List PH) (hm : Mod hfs (rqR J P) w0) :
    Calls Tryz.prog 128 #[.pointer (some ⟨J.b, 1, none⟩)] w0 fun e' w' => ∃ v Rs', e' = .returned v ∧ (v = (Sp.get3 P.T (Sp.nxt P.cur)).v ∧ Rs' = rqR J P) ∧ Mod hfs Rs' w' ∧ Oth w0 w' := by
  refine part_call (Sp.rsR (gq J P) P.T P.cur) ([own Tk.encT 4 44 P.A P.c P.us, ro (Tk.tkBag P.us), own Cu.encC 3 101 P.yA P.yc P.ys, own Rt.encT 9 205 P.xA P.xc P.xs] ++ refB J.br P.RA P.Rc P.R) (by classical exact List.perm_iff_count.2 fun a => by simp only [rqR, rqB, gq, Sp.rsR, Tk.rfT, Cu.rfC, Rt.rfR, refB, List.length_nil, List.cons_append, List.nil_append, List.append_nil, List.count_cons, List.count_append, List.count_nil] <;> omega) hm (fun hb hsp h => Sp.r10_next (gq J P) P.T P.cur w0 _ h hi) ?_
  rintro v Rs' ⟨rfl, rfl⟩
  exact ⟨_, ⟨rfl, rfl⟩, (by classical exact List.perm_iff_count.2 fun a => by simp only [rqR, rqB, gq, Sp.rsR, Tk.rfT, Cu.rfC, Rt.rfR, refB, List.length_nil, List.cons_append, List.nil_append, List.append_nil, List.count_cons, List.count_append, List.count_nil] <;> omega)⟩
theorem ps_rotate (J : RI) (P : RS) (free : Bool) (hi : P.cur < 3) (w0 : World) (hfs : List PH) (hm : Mod hfs (rqR J P) w0) :
    Calls Tryz.prog 66 #[.pointer (some ⟨J.b, 1, none⟩), .bool free] w0 fun e' w' => ∃ v Rs', e' = .returned v ∧ (((Sp.get3 P.T (Sp.nxt P.cur)).xs = [] ∧ v = .tuple #[.int .u8 2, .int .i64 0] ∧ Rs' = rqR J { P with cur := Sp.nxt P.cur }) ∨ ((Sp.get3 P.T (Sp.nxt P.cur)).xs ≠ [] ∧ free = false ∧ v = .tuple #[.int .u8 0, .int .i64 9] ∧ Rs' = rqR J P) ∨ ((Sp.get3 P.T (Sp.nxt P.cur)).xs ≠ [] ∧ free = true ∧ v = .tuple #[.int .u8 1, .int .i64 0] ∧ Rs' = rqR J { P with T := Sp.set3 P.T (Sp.nxt P.cur) Sp.noTb })) ∧ Mod hfs Rs' w' ∧ Oth w0 w' := by
  refine part_call (Sp.rsR (gq J P) P.T P.cur) ([own Tk.encT 4 44 P.A P.c P.us, ro (Tk.tkBag P.us), own Cu.encC 3 101 P.yA P.yc P.ys, own Rt.encT 9 205 P.xA P.xc P.xs] ++ refB J.br P.RA P.Rc P.R) (by classical exact List.perm_iff_count.2 fun a => by simp only [rqR, rqB, gq, Sp.rsR, Tk.rfT, Cu.rfC, Rt.rfR, refB, List.length_nil, List.cons_append, List.nil_append, List.append_nil, List.count_cons, List.count_append, List.count_nil] <;> omega) hm (fun hb hsp h => Sp.r10_rotate (gq J P) P.T P.cur free w0 _ h hi) ?_
  rintro v Rs' (⟨h0, rfl, rfl⟩ | ⟨h0, h1, rfl, rfl⟩ | ⟨h0, h1, rfl, rfl⟩)
  · exact ⟨_, .inl ⟨h0, rfl, rfl⟩, (by classical exact List.perm_iff_count.2 fun a => by simp only [rqR, rqB, gq, Sp.rsR, Tk.rfT, Cu.rfC, Rt.rfR, refB, List.length_nil, List.cons_append, List.nil_append, List.append_nil, List.count_cons, List.count_append, List.count_nil] <;> omega)⟩
  · exact ⟨_, .inr (.inl ⟨h0, h1, rfl, rfl⟩), (by classical exact List.perm_iff_count.2 fun a => by simp only [rqR, rqB, gq, Sp.rsR, Tk.rfT, Cu.rfC, Rt.rfR, refB, List.length_nil, List.cons_append, List.nil_append, List.append_nil, List.count_cons, List.count_append, List.count_nil] <;> omega)⟩
  · exact ⟨_, .inr (.inr ⟨h0, h1, rfl, rfl⟩), (by classical exact List.perm_iff_count.2 fun a => by simp only [rqR, rqB, gq, Sp.rsR, Tk.rfT, Cu.rfC, Rt.rfR, refB, List.length_nil, List.cons_append, List.nil_append, List.append_nil, List.count_cons, List.count_append, List.count_nil] <;> omega)⟩
theorem ps_forget (J : RI) (P : RS) (x : Int) (hl : Sp.len3 P.T ≤ 10000) (w0 : World) (hfs : List PH) (hm : Mod hfs (rqR J P) w0) :
    Calls Tryz.prog 53 #[.pointer (some ⟨J.b, 1, none⟩), .int .i64 x] w0 fun e' w' => ∃ v Rs', e' = .returned v ∧ (∃ S : Sp.Tbs, v = .int .i64 ((Sp.len3 P.T : Int) - Sp.len3 S) ∧ (∀ k, k < 3 → (Sp.get3 S k).xs = Sp.ntx x (Sp.get3 P.T k).xs) ∧ Rs' = rqR J { P with T := S }) ∧ Mod hfs Rs' w' ∧ Oth w0 w' := by
  refine part_call (Sp.rsR (gq J P) P.T P.cur) ([own Tk.encT 4 44 P.A P.c P.us, ro (Tk.tkBag P.us), own Cu.encC 3 101 P.yA P.yc P.ys, own Rt.encT 9 205 P.xA P.xc P.xs] ++ refB J.br P.RA P.Rc P.R) (by classical exact List.perm_iff_count.2 fun a => by simp only [rqR, rqB, gq, Sp.rsR, Tk.rfT, Cu.rfC, Rt.rfR, refB, List.length_nil, List.cons_append, List.nil_append, List.append_nil, List.count_cons, List.count_append, List.count_nil] <;> omega) hm (fun hb hsp h => Sp.r10_forget (gq J P) P.T P.cur x w0 _ h hl) ?_
  rintro v Rs' ⟨S, rfl, h1, rfl⟩
  exact ⟨_, ⟨S, rfl, h1, rfl⟩, (by classical exact List.perm_iff_count.2 fun a => by simp only [rqR, rqB, gq, Sp.rsR, Tk.rfT, Cu.rfC, Rt.rfR, refB, List.length_nil, List.cons_append, List.nil_append, List.append_nil, List.count_cons, List.count_append, List.count_nil] <;> omega)⟩
theorem ps_tadd (J : RI) (P : RS) (mx : Int) (S : Option Addr) (d : Nat) (op : List Int) (q : Int) (hn2 : op.length ≤ 1000000) (hf : Tk.TkFit P.us) (hmx : 0 ≤ mx ∧ mx ≤ 9223372036854775807) (hl : 0 ≤ P.last ∧ P.last ≤ 1000000) (hts : P.us.length ≤ 1000000) (w0 : World) (hfs : List PH) (hm : Mod hfs (Tk.snR S op :: rqR J P) w0) :
    Calls Tryz.prog 54 #[.pointer (some ⟨J.b, 5, none⟩), snV mx S op.length d, .int .i64 q] w0 fun e' w' => ∃ v Rs', e' = .returned v ∧ ((Tk.tkAdd P.us mx op q ≠ 0 ∧ v = .tuple #[Tk.mkT Tk.zeroT, .int .i64 (Tk.tkAdd P.us mx op q)] ∧ Rs' = rqR J P) ∨ (Tk.tkAdd P.us mx op q = 0 ∧ v = .tuple #[Tk.mkT ⟨P.last + 1, mx, S, d, op, q⟩, .int .i64 0] ∧ ∃ A' c', Rs' = rqR J { P with A := A', c := c', us := P.us ++ [⟨P.last + 1, mx, S, d, op, q⟩], last := P.last + 1 })) ∧ Mod hfs Rs' w' ∧ Oth w0 w' := by
  refine part_call (Tk.rfT (gq J P) P.A P.c P.us P.last ++ [Tk.snR S op]) ([P.T.1.r, P.T.2.1.r, P.T.2.2.r, own Cu.encC 3 101 P.yA P.yc P.ys, own Rt.encT 9 205 P.xA P.xc P.xs] ++ refB J.br P.RA P.Rc P.R) (by classical exact List.perm_iff_count.2 fun a => by simp only [rqR, rqB, gq, Sp.rsR, Tk.rfT, Cu.rfC, Rt.rfR, refB, List.length_nil, List.cons_append, List.nil_append, List.append_nil, List.count_cons, List.count_append, List.count_nil] <;> omega) hm (fun hb hsp h => Tk.r11_add (gq J P) P.A P.c P.us P.last mx S d op q w0 _ h hn2 hf hmx hl hts) ?_
  rintro v Rs' (⟨h0, rfl, rfl⟩ | ⟨h0, rfl, A', c', rfl⟩)
  · exact ⟨_, .inl ⟨h0, rfl, rfl⟩, (by classical exact List.perm_iff_count.2 fun a => by simp only [rqR, rqB, gq, Sp.rsR, Tk.rfT, Cu.rfC, Rt.rfR, refB, List.length_nil, List.cons_append, List.nil_append, List.append_nil, List.count_cons, List.count_append, List.count_nil] <;> omega)⟩
  · exact ⟨_, .inr ⟨h0, rfl, A', c', rfl⟩, (by classical exact List.perm_iff_count.2 fun a => by simp only [rqR, rqB, gq, Sp.rsR, Tk.rfT, Cu.rfC, Rt.rfR, refB, List.length_nil, List.cons_append, List.nil_append, List.append_nil, List.count_cons, List.count_append, List.count_nil] <;> omega)⟩
theorem ps_ttrim (J : RI) (P : RS) (below : Int) (hn : P.us.length ≤ 1000000) (w0 : World) (hfs : List PH) (hm : Mod hfs (rqR J P) w0) :
    Calls Tryz.prog 68 #[.pointer (some ⟨J.b, 5, none⟩), .int .i64 below] w0 fun e' w' => ∃ v Rs', e' = .returned v ∧ (v = .int .i64 ((P.us.length : Int) - (P.us.filter (Tk.keepR below P.last)).length) ∧ ∃ A' c', Rs' = rqR J { P with A := A', c := c', us := P.us.filter (Tk.keepR below P.last) }) ∧ Mod hfs Rs' w' ∧ Oth w0 w' := by
  refine part_call (Tk.rfT (gq J P) P.A P.c P.us P.last) ([P.T.1.r, P.T.2.1.r, P.T.2.2.r, own Cu.encC 3 101 P.yA P.yc P.ys, own Rt.encT 9 205 P.xA P.xc P.xs] ++ refB J.br P.RA P.Rc P.R) (by classical exact List.perm_iff_count.2 fun a => by simp only [rqR, rqB, gq, Sp.rsR, Tk.rfT, Cu.rfC, Rt.rfR, refB, List.length_nil, List.cons_append, List.nil_append, List.append_nil, List.count_cons, List.count_append, List.count_nil] <;> omega) hm (fun hb hsp h => Tk.r11_trim (gq J P) P.A P.c P.us P.last below w0 _ h hn) ?_
  rintro v Rs' ⟨rfl, A', c', rfl⟩
  exact ⟨_, ⟨rfl, A', c', rfl⟩, (by classical exact List.perm_iff_count.2 fun a => by simp only [rqR, rqB, gq, Sp.rsR, Tk.rfT, Cu.rfC, Rt.rfR, refB, List.length_nil, List.cons_append, List.nil_append, List.append_nil, List.count_cons, List.count_append, List.count_nil] <;> omega)⟩
theorem ps_creg (J : RI) (P : RS) (k : ByteArray) (at_ : Int) (hl : P.ys.length ≤ 1000) (hrise : Rise ltS Cu.CurV.name P.ys) (w0 : World) (hfs : List PH) (hm : Mod hfs (rqR J P) w0) :
    Calls Tryz.prog 116 #[.pointer (some ⟨J.b, 7, none⟩), .string k, .int .i64 at_] w0 fun e' w' => ∃ v Rs', e' = .returned v ∧ (v = .int .i64 (Cu.regY k at_ P.ys) ∧ ∃ A' c' zs, Rs' = rqR J { P with yA := A', yc := c', ys := zs } ∧ ((Cu.regY k at_ P.ys = 0 ∧ (P.ys ++ [(⟨k, at_, 0⟩ : Cu.CurV)]).Perm zs ∧ Rise ltS Cu.CurV.name zs) ∨ (Cu.regY k at_ P.ys ≠ 0 ∧ zs = P.ys))) ∧ Mod hfs Rs' w' ∧ Oth w0 w' := by
  refine part_call (Cu.rfC (gq J P) P.yA P.yc P.ys) ([P.T.1.r, P.T.2.1.r, P.T.2.2.r, own Tk.encT 4 44 P.A P.c P.us, ro (Tk.tkBag P.us), own Rt.encT 9 205 P.xA P.xc P.xs] ++ refB J.br P.RA P.Rc P.R) (by classical exact List.perm_iff_count.2 fun a => by simp only [rqR, rqB, gq, Sp.rsR, Tk.rfT, Cu.rfC, Rt.rfR, refB, List.length_nil, List.cons_append, List.nil_append, List.append_nil, List.count_cons, List.count_append, List.count_nil] <;> omega) hm (fun hb hsp h => Cu.r13_register (gq J P) P.yA P.yc P.ys k at_ hl hrise w0 _ h) ?_
  rintro v Rs' ⟨rfl, A', c', zs, rfl, h1⟩
  exact ⟨_, ⟨rfl, A', c', zs, rfl, h1⟩, (by classical exact List.perm_iff_count.2 fun a => by simp only [rqR, rqB, gq, Sp.rsR, Tk.rfT, Cu.rfC, Rt.rfR, refB, List.length_nil, List.cons_append, List.nil_append, List.append_nil, List.count_cons, List.count_append, List.count_nil] <;> omega)⟩
theorem ps_cunr_no (J : RI) (P : RS) (k : ByteArray) (hl : P.ys.length ≤ 1000) (hk : ∀ y ∈ P.ys, y.name ≠ k) (w0 : World) (hfs : List PH) (hm : Mod hfs (rqR J P) w0) :
    Calls Tryz.prog 117 #[.pointer (some ⟨J.b, 7, none⟩), .string k] w0 fun e' w' => ∃ v Rs', e' = .returned v ∧ (v = .int .i64 4 ∧ Rs' = rqR J P) ∧ Mod hfs Rs' w' ∧ Oth w0 w' := by
  refine part_call (Cu.rfC (gq J P) P.yA P.yc P.ys) ([P.T.1.r, P.T.2.1.r, P.T.2.2.r, own Tk.encT 4 44 P.A P.c P.us, ro (Tk.tkBag P.us), own Rt.encT 9 205 P.xA P.xc P.xs] ++ refB J.br P.RA P.Rc P.R) (by classical exact List.perm_iff_count.2 fun a => by simp only [rqR, rqB, gq, Sp.rsR, Tk.rfT, Cu.rfC, Rt.rfR, refB, List.length_nil, List.cons_append, List.nil_append, List.append_nil, List.count_cons, List.count_append, List.count_nil] <;> omega) hm (fun hb hsp h => Cu.r13_unregister_no (gq J P) P.yA P.yc P.ys k hl hk w0 _ h) ?_
  rintro v Rs' ⟨rfl, rfl⟩
  exact ⟨_, ⟨rfl, rfl⟩, (by classical exact List.perm_iff_count.2 fun a => by simp only [rqR, rqB, gq, Sp.rsR, Tk.rfT, Cu.rfC, Rt.rfR, refB, List.length_nil, List.cons_append, List.nil_append, List.append_nil, List.count_cons, List.count_append, List.count_nil] <;> omega)⟩
theorem ps_copen_no (J : RI) (P : RS) (k : ByteArray) (next : Int) (hl : P.ys.length ≤ 1000) (hk : ∀ y ∈ P.ys, y.name ≠ k) (w0 : World) (hfs : List PH) (hm : Mod hfs (rqR J P) w0) :
    Calls Tryz.prog 120 #[.pointer (some ⟨J.b, 7, none⟩), .string k, .int .i64 next] w0 fun e' w' => ∃ v Rs', e' = .returned v ∧ (v = .int .i64 4 ∧ Rs' = rqR J P) ∧ Mod hfs Rs' w' ∧ Oth w0 w' := by
  refine part_call (Cu.rfC (gq J P) P.yA P.yc P.ys) ([P.T.1.r, P.T.2.1.r, P.T.2.2.r, own Tk.encT 4 44 P.A P.c P.us, ro (Tk.tkBag P.us), own Rt.encT 9 205 P.xA P.xc P.xs] ++ refB J.br P.RA P.Rc P.R) (by classical exact List.perm_iff_count.2 fun a => by simp only [rqR, rqB, gq, Sp.rsR, Tk.rfT, Cu.rfC, Rt.rfR, refB, List.length_nil, List.cons_append, List.nil_append, List.append_nil, List.count_cons, List.count_append, List.count_nil] <;> omega) hm (fun hb hsp h => Cu.r13_open_no (gq J P) P.yA P.yc P.ys k next hl hk w0 _ h) ?_
  rintro v Rs' ⟨rfl, rfl⟩
  exact ⟨_, ⟨rfl, rfl⟩, (by classical exact List.perm_iff_count.2 fun a => by simp only [rqR, rqB, gq, Sp.rsR, Tk.rfT, Cu.rfC, Rt.rfR, refB, List.length_nil, List.cons_append, List.nil_append, List.append_nil, List.count_cons, List.count_append, List.count_nil] <;> omega)⟩
theorem ps_cfin_no (J : RI) (P : RS) (k : ByteArray) (hl : P.ys.length ≤ 1000) (hk : ∀ y ∈ P.ys, y.name ≠ k) (w0 : World) (hfs : List PH) (hm : Mod hfs (rqR J P) w0) :
    Calls Tryz.prog 63 #[.pointer (some ⟨J.b, 7, none⟩), .string k] w0 fun e' w' => ∃ v Rs', e' = .returned v ∧ (v = .tuple #[.int .i64 0, .int .i64 4] ∧ Rs' = rqR J P) ∧ Mod hfs Rs' w' ∧ Oth w0 w' := by
  refine part_call (Cu.rfC (gq J P) P.yA P.yc P.ys) ([P.T.1.r, P.T.2.1.r, P.T.2.2.r, own Tk.encT 4 44 P.A P.c P.us, ro (Tk.tkBag P.us), own Rt.encT 9 205 P.xA P.xc P.xs] ++ refB J.br P.RA P.Rc P.R) (by classical exact List.perm_iff_count.2 fun a => by simp only [rqR, rqB, gq, Sp.rsR, Tk.rfT, Cu.rfC, Rt.rfR, refB, List.length_nil, List.cons_append, List.nil_append, List.append_nil, List.count_cons, List.count_append, List.count_nil] <;> omega) hm (fun hb hsp h => Cu.r13_finish_no (gq J P) P.yA P.yc P.ys k hl hk w0 _ h) ?_
  rintro v Rs' ⟨rfl, rfl⟩
  exact ⟨_, ⟨rfl, rfl⟩, (by classical exact List.perm_iff_count.2 fun a => by simp only [rqR, rqB, gq, Sp.rsR, Tk.rfT, Cu.rfC, Rt.rfR, refB, List.length_nil, List.cons_append, List.nil_append, List.append_nil, List.count_cons, List.count_append, List.count_nil] <;> omega)⟩
theorem ps_cunr (J : RI) (P : RS) (y1 y2 : List Cu.CurV) (y : Cu.CurV) (k : ByteArray) (hys : P.ys = y1 ++ y :: y2) (hl : (y1 ++ y :: y2).length ≤ 1000) (hy : y.name = k) (hk : ∀ z ∈ y1, z.name ≠ k) (w0 : World) (hfs : List PH) (hm : Mod hfs (rqR J P) w0) :
    Calls Tryz.prog 117 #[.pointer (some ⟨J.b, 7, none⟩), .string k] w0 fun e' w' => ∃ v Rs', e' = .returned v ∧ (v = .int .i64 0 ∧ ∃ A' c', Rs' = rqR J { P with yA := A', yc := c', ys := y1 ++ y2 }) ∧ Mod hfs Rs' w' ∧ Oth w0 w' := by
  obtain ⟨T, cur, A, c, us, last, yA, yc, ys, xA, xc, xs, nx, RA, Rc, R⟩ := P
  dsimp only at hys
  subst hys
  obtain ⟨P, hP⟩ : ∃ P : RS, P = ⟨T, cur, A, c, us, last, yA, yc, y1 ++ y :: y2, xA, xc, xs, nx, RA, Rc, R⟩ := ⟨_, rfl⟩
  have e2 : P.ys = y1 ++ y :: y2 := by rw [hP]
  refine part_call (Cu.rfC (gq J ⟨T, cur, A, c, us, last, yA, yc, y1 ++ y :: y2, xA, xc, xs, nx, RA, Rc, R⟩) yA yc (y1 ++ y :: y2)) ([T.1.r, T.2.1.r, T.2.2.r, own Tk.encT 4 44 A c us, ro (Tk.tkBag us), own Rt.encT 9 205 xA xc xs] ++ refB J.br RA Rc R) (by classical exact List.perm_iff_count.2 fun a => by simp only [rqR, rqB, gq, Sp.rsR, Tk.rfT, Cu.rfC, Rt.rfR, refB, List.length_nil, List.cons_append, List.nil_append, List.append_nil, List.count_cons, List.count_append, List.count_nil] <;> omega) hm (fun hb hsp h => Cu.r13_unregister_ok (gq J ⟨T, cur, A, c, us, last, yA, yc, y1 ++ y :: y2, xA, xc, xs, nx, RA, Rc, R⟩) yA yc y1 y2 y k hl hy hk w0 _ h) ?_
  rintro v Rs' ⟨rfl, A', c', rfl⟩
  exact ⟨_, ⟨rfl, A', c', rfl⟩, (by classical exact List.perm_iff_count.2 fun a => by simp only [rqR, rqB, gq, Sp.rsR, Tk.rfT, Cu.rfC, Rt.rfR, refB, List.length_nil, List.cons_append, List.nil_append, List.append_nil, List.count_cons, List.count_append, List.count_nil] <;> omega)⟩
theorem ps_copen (J : RI) (P : RS) (y1 y2 : List Cu.CurV) (y : Cu.CurV) (k : ByteArray) (next : Int) (hys : P.ys = y1 ++ y :: y2) (hl : (y1 ++ y :: y2).length ≤ 1000) (hy : y.name = k) (hk : ∀ z ∈ y1, z.name ≠ k) (w0 : World) (hfs : List PH) (hm : Mod hfs (rqR J P) w0) :
    Calls Tryz.prog 120 #[.pointer (some ⟨J.b, 7, none⟩), .string k, .int .i64 next] w0 fun e' w' => ∃ v Rs', e' = .returned v ∧ (v = .int .i64 (Cu.openE y next) ∧ ∃ A' c', Rs' = rqR J { P with yA := A', yc := c', ys := y1 ++ (if Cu.openE y next = 0 then ⟨y.name, y.last, next⟩ else y) :: y2 }) ∧ Mod hfs Rs' w' ∧ Oth w0 w' := by
  obtain ⟨T, cur, A, c, us, last, yA, yc, ys, xA, xc, xs, nx, RA, Rc, R⟩ := P
  dsimp only at hys
  subst hys
  obtain ⟨P, hP⟩ : ∃ P : RS, P = ⟨T, cur, A, c, us, last, yA, yc, y1 ++ y :: y2, xA, xc, xs, nx, RA, Rc, R⟩ := ⟨_, rfl⟩
  have e2 : P.ys = y1 ++ y :: y2 := by rw [hP]
  refine part_call (Cu.rfC (gq J ⟨T, cur, A, c, us, last, yA, yc, y1 ++ y :: y2, xA, xc, xs, nx, RA, Rc, R⟩) yA yc (y1 ++ y :: y2)) ([T.1.r, T.2.1.r, T.2.2.r, own Tk.encT 4 44 A c us, ro (Tk.tkBag us), own Rt.encT 9 205 xA xc xs] ++ refB J.br RA Rc R) (by classical exact List.perm_iff_count.2 fun a => by simp only [rqR, rqB, gq, Sp.rsR, Tk.rfT, Cu.rfC, Rt.rfR, refB, List.length_nil, List.cons_append, List.nil_append, List.append_nil, List.count_cons, List.count_append, List.count_nil] <;> omega) hm (fun hb hsp h => Cu.r13_open (gq J ⟨T, cur, A, c, us, last, yA, yc, y1 ++ y :: y2, xA, xc, xs, nx, RA, Rc, R⟩) yA yc y1 y2 y k next hl hy hk w0 _ h) ?_
  rintro v Rs' ⟨rfl, A', c', rfl⟩
  exact ⟨_, ⟨rfl, A', c', rfl⟩, (by classical exact List.perm_iff_count.2 fun a => by simp only [rqR, rqB, gq, Sp.rsR, Tk.rfT, Cu.rfC, Rt.rfR, refB, List.length_nil, List.cons_append, List.nil_append, List.append_nil, List.count_cons, List.count_append, List.count_nil] <;> omega)⟩
theorem ps_cfin (J : RI) (P : RS) (y1 y2 : List Cu.CurV) (y : Cu.CurV) (k : ByteArray) (hys : P.ys = y1 ++ y :: y2) (hl : (y1 ++ y :: y2).length ≤ 1000) (hy : y.name = k) (hk : ∀ z ∈ y1, z.name ≠ k) (w0 : World) (hfs : List PH) (hm : Mod hfs (rqR J P) w0) :
    Calls Tryz.prog 63 #[.pointer (some ⟨J.b, 7, none⟩), .string k] w0 fun e' w' => ∃ v Rs', e' = .returned v ∧ (v = (if y.opn = 0 then .tuple #[.int .i64 0, .int .i64 7] else .tuple #[.int .i64 y.opn, .int .i64 0]) ∧ ∃ A' c', Rs' = rqR J { P with yA := A', yc := c', ys := y1 ++ (if y.opn = 0 then y else ⟨y.name, y.opn, 0⟩) :: y2 }) ∧ Mod hfs Rs' w' ∧ Oth w0 w' := by
  obtain ⟨T, cur, A, c, us, last, yA, yc, ys, xA, xc, xs, nx, RA, Rc, R⟩ := P
  dsimp only at hys
  subst hys
  obtain ⟨P, hP⟩ : ∃ P : RS, P = ⟨T, cur, A, c, us, last, yA, yc, y1 ++ y :: y2, xA, xc, xs, nx, RA, Rc, R⟩ := ⟨_, rfl⟩
  have e2 : P.ys = y1 ++ y :: y2 := by rw [hP]
  refine part_call (Cu.rfC (gq J ⟨T, cur, A, c, us, last, yA, yc, y1 ++ y :: y2, xA, xc, xs, nx, RA, Rc, R⟩) yA yc (y1 ++ y :: y2)) ([T.1.r, T.2.1.r, T.2.2.r, own Tk.encT 4 44 A c us, ro (Tk.tkBag us), own Rt.encT 9 205 xA xc xs] ++ refB J.br RA Rc R) (by classical exact List.perm_iff_count.2 fun a => by simp only [rqR, rqB, gq, Sp.rsR, Tk.rfT, Cu.rfC, Rt.rfR, refB, List.length_nil, List.cons_append, List.nil_append, List.append_nil, List.count_cons, List.count_append, List.count_nil] <;> omega) hm (fun hb hsp h => Cu.r13_finish (gq J ⟨T, cur, A, c, us, last, yA, yc, y1 ++ y :: y2, xA, xc, xs, nx, RA, Rc, R⟩) yA yc y1 y2 y k hl hy hk w0 _ h) ?_
  rintro v Rs' ⟨rfl, A', c', rfl⟩
  exact ⟨_, ⟨rfl, A', c', rfl⟩, (by classical exact List.perm_iff_count.2 fun a => by simp only [rqR, rqB, gq, Sp.rsR, Tk.rfT, Cu.rfC, Rt.rfR, refB, List.length_nil, List.cons_append, List.nil_append, List.append_nil, List.count_cons, List.count_append, List.count_nil] <;> omega)⟩
theorem ps_least (J : RI) (P : RS) (hl : P.ys.length ≤ 1000) (w0 : World) (hfs : List PH) (hm : Mod hfs (rqR J P) w0) :
    Calls Tryz.prog 129 #[.pointer (some ⟨J.b, 7, none⟩)] w0 fun e' w' => ∃ v Rs', e' = .returned v ∧ (v = Cu.leastT P.ys ∧ Rs' = rqR J P) ∧ Mod hfs Rs' w' ∧ Oth w0 w' := by
  refine part_call (Cu.rfC (gq J P) P.yA P.yc P.ys) ([P.T.1.r, P.T.2.1.r, P.T.2.2.r, own Tk.encT 4 44 P.A P.c P.us, ro (Tk.tkBag P.us), own Rt.encT 9 205 P.xA P.xc P.xs] ++ refB J.br P.RA P.Rc P.R) (by classical exact List.perm_iff_count.2 fun a => by simp only [rqR, rqB, gq, Sp.rsR, Tk.rfT, Cu.rfC, Rt.rfR, refB, List.length_nil, List.cons_append, List.nil_append, List.append_nil, List.count_cons, List.count_append, List.count_nil] <;> omega) hm (fun hb hsp h => Cu.r13_least (gq J P) P.yA P.yc P.ys hl w0 _ h) ?_
  rintro v Rs' ⟨rfl, rfl⟩
  exact ⟨_, ⟨rfl, rfl⟩, (by classical exact List.perm_iff_count.2 fun a => by simp only [rqR, rqB, gq, Sp.rsR, Tk.rfT, Cu.rfC, Rt.rfR, refB, List.length_nil, List.cons_append, List.nil_append, List.append_nil, List.count_cons, List.count_append, List.count_nil] <;> omega)⟩
theorem ps_radd (J : RI) (P : RS) (e : EventM) (o : ByteArray) (at_ : Int) (hl : P.xs.length ≤ 1000) (ht : 0 ≤ e.tries ∧ e.tries ≤ 2147483647) (hrise : Rt.RiseT P.xs) (w0 : World) (hfs : List PH) (hm : Mod hfs (rqR J P) w0) :
    Calls Tryz.prog 125 #[.pointer (some ⟨J.b, 8, none⟩), mkE e, .string o, .int .i64 at_] w0 fun e' w' => ∃ v Rs', e' = .returned v ∧ (∃ A' c' ys, v = .int .i64 (Rt.addE P.xs e o) ∧ Rt.AddT P.xs e o at_ ys ∧ Rs' = rqR J { P with xA := A', xc := c', xs := ys }) ∧ Mod hfs Rs' w' ∧ Oth w0 w' := by
  refine part_call (Rt.rfR (gq J P) P.xA P.xc P.xs) ([P.T.1.r, P.T.2.1.r, P.T.2.2.r, own Tk.encT 4 44 P.A P.c P.us, ro (Tk.tkBag P.us), own Cu.encC 3 101 P.yA P.yc P.ys] ++ refB J.br P.RA P.Rc P.R) (by classical exact List.perm_iff_count.2 fun a => by simp only [rqR, rqB, gq, Sp.rsR, Tk.rfT, Cu.rfC, Rt.rfR, refB, List.length_nil, List.cons_append, List.nil_append, List.append_nil, List.count_cons, List.count_append, List.count_nil] <;> omega) hm (fun hb hsp h => Rt.r14_add (gq J P) P.xA P.xc P.xs e o at_ hl ht hrise w0 _ h) ?_
  rintro v Rs' ⟨A', c', ys, rfl, h1, rfl⟩
  exact ⟨_, ⟨A', c', ys, rfl, h1, rfl⟩, (by classical exact List.perm_iff_count.2 fun a => by simp only [rqR, rqB, gq, Sp.rsR, Tk.rfT, Cu.rfC, Rt.rfR, refB, List.length_nil, List.cons_append, List.nil_append, List.append_nil, List.count_cons, List.count_append, List.count_nil] <;> omega)⟩
theorem ps_rtake (J : RI) (P : RS) (now : Int) (hl : P.xs.length ≤ 10000) (hrise : Rt.RiseT P.xs) (w0 : World) (hfs : List PH) (hm : Mod hfs (rqR J P) w0) :
    Calls Tryz.prog 126 #[.pointer (some ⟨J.b, 8, none⟩), .int .i64 now] w0 fun e' w' => ∃ v Rs', e' = .returned v ∧ (∃ A1 c1 A' c', v = .slice A1 (Rt.dueL now P.xs).length c1 ∧ Rs' = own encE 8 65 A1 c1 (Rt.dueL now P.xs) :: rqR J { P with xA := A', xc := c', xs := P.xs.drop (Rt.dueL now P.xs).length }) ∧ Mod hfs Rs' w' ∧ Oth w0 w' := by
  refine part_call (Rt.rfR (gq J P) P.xA P.xc P.xs) ([P.T.1.r, P.T.2.1.r, P.T.2.2.r, own Tk.encT 4 44 P.A P.c P.us, ro (Tk.tkBag P.us), own Cu.encC 3 101 P.yA P.yc P.ys] ++ refB J.br P.RA P.Rc P.R) (by classical exact List.perm_iff_count.2 fun a => by simp only [rqR, rqB, gq, Sp.rsR, Tk.rfT, Cu.rfC, Rt.rfR, refB, List.length_nil, List.cons_append, List.nil_append, List.append_nil, List.count_cons, List.count_append, List.count_nil] <;> omega) hm (fun hb hsp h => Rt.r14_take (gq J P) P.xA P.xc P.xs now hl hrise w0 _ h) ?_
  rintro v Rs' ⟨A1, c1, A', c', rfl, rfl⟩
  exact ⟨_, ⟨A1, c1, A', c', rfl, rfl⟩, (by classical exact List.perm_iff_count.2 fun a => by simp only [rqR, rqB, gq, Sp.rsR, Tk.rfT, Cu.rfC, Rt.rfR, refB, List.length_nil, List.cons_append, List.nil_append, List.append_nil, List.count_cons, List.count_append, List.count_nil] <;> omega)⟩
theorem ps_rdrop (J : RI) (P : RS) (o : ByteArray) (hl : P.xs.length ≤ 10000) (w0 : World) (hfs : List PH) (hm : Mod hfs (rqR J P) w0) :
    Calls Tryz.prog 118 #[.pointer (some ⟨J.b, 8, none⟩), .string o] w0 fun e' w' => ∃ v Rs', e' = .returned v ∧ (v = .int .i64 ((P.xs.length : Int) - (Rt.leftL o P.xs).length) ∧ ∃ A' c', Rs' = rqR J { P with xA := A', xc := c', xs := Rt.leftL o P.xs }) ∧ Mod hfs Rs' w' ∧ Oth w0 w' := by
  refine part_call (Rt.rfR (gq J P) P.xA P.xc P.xs) ([P.T.1.r, P.T.2.1.r, P.T.2.2.r, own Tk.encT 4 44 P.A P.c P.us, ro (Tk.tkBag P.us), own Cu.encC 3 101 P.yA P.yc P.ys] ++ refB J.br P.RA P.Rc P.R) (by classical exact List.perm_iff_count.2 fun a => by simp only [rqR, rqB, gq, Sp.rsR, Tk.rfT, Cu.rfC, Rt.rfR, refB, List.length_nil, List.cons_append, List.nil_append, List.append_nil, List.count_cons, List.count_append, List.count_nil] <;> omega) hm (fun hb hsp h => Rt.r14_drop (gq J P) P.xA P.xc P.xs o hl w0 _ h) ?_
  rintro v Rs' ⟨rfl, A', c', rfl⟩
  exact ⟨_, ⟨rfl, A', c', rfl⟩, (by classical exact List.perm_iff_count.2 fun a => by simp only [rqR, rqB, gq, Sp.rsR, Tk.rfT, Cu.rfC, Rt.rfR, refB, List.length_nil, List.cons_append, List.nil_append, List.append_nil, List.count_cons, List.count_append, List.count_nil] <;> omega)⟩
theorem ps_begin_ok (J : RI) (P : RS) (hR : begR P.R) (w0 : World) (hfs : List PH) (hm : Mod hfs (rqR J P) w0) :
    Calls Tryz.prog 49 #[pv J.br] w0 fun e' w' => ∃ v Rs', e' = .returned v ∧ (v = .tuple #[.int .i64 ((P.R.length : Int) + 1), .int .i64 0] ∧ ∃ A' c', Rs' = rqR J { P with RA := A', Rc := c', R := P.R ++ [1] }) ∧ Mod hfs Rs' w' ∧ Oth w0 w' := by
  refine part_call (refB J.br P.RA P.Rc P.R) ([rqB J P, P.T.1.r, P.T.2.1.r, P.T.2.2.r, own Tk.encT 4 44 P.A P.c P.us, ro (Tk.tkBag P.us), own Cu.encC 3 101 P.yA P.yc P.ys, own Rt.encT 9 205 P.xA P.xc P.xs]) (by classical exact List.perm_iff_count.2 fun a => by simp only [rqR, rqB, gq, Sp.rsR, Tk.rfT, Cu.rfC, Rt.rfR, refB, List.length_nil, List.cons_append, List.nil_append, List.append_nil, List.count_cons, List.count_append, List.count_nil] <;> omega) hm (fun hb hsp h => r06_begin_ok J.br P.RA P.Rc P.R hR w0 _ h) ?_
  rintro v Rs' ⟨A', c', rfl, rfl⟩
  exact ⟨_, ⟨rfl, A', c', rfl⟩, (by classical exact List.perm_iff_count.2 fun a => by simp only [rqR, rqB, gq, Sp.rsR, Tk.rfT, Cu.rfC, Rt.rfR, refB, List.length_nil, List.cons_append, List.nil_append, List.append_nil, List.count_cons, List.count_append, List.count_nil] <;> omega)⟩
theorem ps_begin_no (J : RI) (P : RS) (hl : P.R.length ≤ 1000) (hR : 6 ≤ (pos 1 P.R).length) (w0 : World) (hfs : List PH) (hm : Mod hfs (rqR J P) w0) :
    Calls Tryz.prog 49 #[pv J.br] w0 fun e' w' => ∃ v Rs', e' = .returned v ∧ (v = .tuple #[.int .i64 0, .int .i64 8] ∧ Rs' = rqR J P) ∧ Mod hfs Rs' w' ∧ Oth w0 w' := by
  refine part_call (refB J.br P.RA P.Rc P.R) ([rqB J P, P.T.1.r, P.T.2.1.r, P.T.2.2.r, own Tk.encT 4 44 P.A P.c P.us, ro (Tk.tkBag P.us), own Cu.encC 3 101 P.yA P.yc P.ys, own Rt.encT 9 205 P.xA P.xc P.xs]) (by classical exact List.perm_iff_count.2 fun a => by simp only [rqR, rqB, gq, Sp.rsR, Tk.rfT, Cu.rfC, Rt.rfR, refB, List.length_nil, List.cons_append, List.nil_append, List.append_nil, List.count_cons, List.count_append, List.count_nil] <;> omega) hm (fun hb hsp h => r06_begin_no J.br P.RA P.Rc P.R hl hR w0 _ h) ?_
  rintro v Rs' ⟨rfl, rfl⟩
  exact ⟨_, ⟨rfl, rfl⟩, (by classical exact List.perm_iff_count.2 fun a => by simp only [rqR, rqB, gq, Sp.rsR, Tk.rfT, Cu.rfC, Rt.rfR, refB, List.length_nil, List.cons_append, List.nil_append, List.append_nil, List.count_cons, List.count_append, List.count_nil] <;> omega)⟩
theorem ps_end (J : RI) (P : RS) (x st : Int) (hl : P.R.length ≤ 1100000) (w0 : World) (hfs : List PH) (hm : Mod hfs (rqR J P) w0) :
    Calls Tryz.prog 52 #[pv J.br, .int .i64 x, .int .u8 st] w0 fun e' w' => ∃ v Rs', e' = .returned v ∧ ((rState P.R x = 1 ∧ v = .int .i64 0 ∧ Rs' = rqR J { P with R := endR P.R x st }) ∨ (rState P.R x ≠ 1 ∧ v = .int .i64 7 ∧ Rs' = rqR J P)) ∧ Mod hfs Rs' w' ∧ Oth w0 w' := by
  refine part_call (refB J.br P.RA P.Rc P.R) ([rqB J P, P.T.1.r, P.T.2.1.r, P.T.2.2.r, own Tk.encT 4 44 P.A P.c P.us, ro (Tk.tkBag P.us), own Cu.encC 3 101 P.yA P.yc P.ys, own Rt.encT 9 205 P.xA P.xc P.xs]) (by classical exact List.perm_iff_count.2 fun a => by simp only [rqR, rqB, gq, Sp.rsR, Tk.rfT, Cu.rfC, Rt.rfR, refB, List.length_nil, List.cons_append, List.nil_append, List.append_nil, List.count_cons, List.count_append, List.count_nil] <;> omega) hm (fun hb hsp h => r06_end J.br P.RA P.Rc P.R x st hl w0 _ h) ?_
  rintro v Rs' (⟨h0, rfl, rfl⟩ | ⟨h0, rfl, rfl⟩)
  · exact ⟨_, .inl ⟨h0, rfl, rfl⟩, (by classical exact List.perm_iff_count.2 fun a => by simp only [rqR, rqB, gq, Sp.rsR, Tk.rfT, Cu.rfC, Rt.rfR, refB, List.length_nil, List.cons_append, List.nil_append, List.append_nil, List.count_cons, List.count_append, List.count_nil] <;> omega)⟩
  · exact ⟨_, .inr ⟨h0, rfl, rfl⟩, (by classical exact List.perm_iff_count.2 fun a => by simp only [rqR, rqB, gq, Sp.rsR, Tk.rfT, Cu.rfC, Rt.rfR, refB, List.length_nil, List.cons_append, List.nil_append, List.append_nil, List.count_cons, List.count_append, List.count_nil] <;> omega)⟩
theorem r06_now15 (br : Nat) (A : Option Addr) (c : Nat) (R : List Int) (w0 : World) (hb : w0.heap[br]? = some (.cells #[.slice A R.length c] 106 (0, 0))) (hr : RdW w0 A (R.flatMap encU)) (hl : R.length ≤ 2000000) :
    Calls Tryz.prog 55 #[.pointer (some ⟨br, 0, none⟩)] w0 fun e w' => ∃ v Rs', e = .returned v ∧ (∃ A' c', v = snV ((R.length : Int) + 1) A' (pos 1 R).length c' ∧ Rs' = [own (RX.encI .i64) 1 2 A' c' (pos 1 R)]) ∧ Mod [heapOf w0] Rs' w' ∧ Oth w0 w' := by
  refine enterN (tab := tab) Tryz.func55 rfl Tryz.ntmps55 rfl (args := [_]) rfl (Mod.start w0) ?_
  refine VC_sound tabOk 100 ?_
  intro b2 _
  refine Go_ops rfl (OpTo_pcall (v := .int .i64 ((R.length : Int) + 1)) rfl rfl rfl rfl rfl (by kernel_rfl) (fun w hm _ => r06_next br A c R w (hm.block_old hb) hl) ?_)
  refine VC_sound tabOk 100 ?_
  show Go _ _ _ _
  refine Go_ops rfl (OpTo_ncall rfl rfl rfl rfl rfl (by kernel_rfl) (fun w hm _ => r06_open br A c R w (hm.block_old hb) (hr.mod hm) hl) ?_)
  rintro _ _ ⟨A1, c1, rfl, rfl⟩
  refine VC_sound tabOk 100 ?_
  (repeat (first | refine Or.inl ⟨rfl, rfl, ?_⟩ | refine Or.inl ⟨rfl, ?_⟩ | refine Or.inr ?_))
  exact ⟨_, ⟨A1, c1, rfl, rfl⟩, fun _ _ h => h.sel [0] rfl⟩
end Go.Proofs.YthpcahgdobnljaaGreat

/- What the functions of layer 15's reference do: New Write Register Unregister Low. -/
set_option maxRecDepth 100000
set_option autoImplicit false
set_option linter.unusedVariables false
set_option linter.unusedSimpArgs false
namespace Go.Proofs.YthpcahgdobnljaaGreat
open Go.RX Go Go.RowKit


theorem pr_new (br : Nat) (w0 : World) :
    Calls Tryz.prog 47 #[pv br] w0 fun e w' => ∃ v Rs', e = .returned v ∧ (∃ b, v = pv b ∧ Rs' = [.blk b 100 [pv br, .slice none 0 0, .slice none 0 0, .slice none 0 0, .int .i64 0, .slice none 0 0, .int .i64 0, .slice none 0 0, .slice none 0 0, .int .i64 1]]) ∧ Mod [heapOf w0] Rs' w' ∧ Oth w0 w' := by
  refine enterN (tab := tab) Tryz.func47 rfl Tryz.ntmps47 rfl (args := [_]) rfl (Mod.start w0) ?_
  refine VC_sound tabOk 100 ?_
  intro b _
  exact ⟨_, ⟨b, rfl, rfl⟩, fun _ _ h => h⟩
abbrev evP (P : RS) (x table kind key : Int) (text : ByteArray) : EventM := ⟨P.nx, x, ⟨#[]⟩, 0, table, kind, key, text⟩
abbrev RS.put (P : RS) (A : Option Addr) (c : Nat) (e : EventM) : RS := { P with T := Sp.set3 P.T P.cur ⟨A, c, (Sp.get3 P.T P.cur).xs ++ [e]⟩ }
set_option maxHeartbeats 1000000 in
theorem pr_write (J : RI) (P : RS) (x table kind key : Int) (text : ByteArray) (hc : P.cur < 3) (hl : Sp.len3 P.T ≤ 100000) (hnx : 0 ≤ P.nx ∧ P.nx ≤ 1000000) (w0 : World) (hfs : List PH) (hm : Mod hfs (rqR J P) w0) :
    Calls Tryz.prog 51 #[pv J.b, .int .i64 x, .int .i64 table, .int .u8 kind, .agg #[.int .i64 key, .string text]] w0 fun e w' => ∃ v Rs', e = .returned v ∧ (v = mkE (evP P x table kind key text) ∧ ∃ A c, Rs' = rqR J { P.put A c (evP P x table kind key text) with nx := P.nx + 1 }) ∧ Mod hfs Rs' w' ∧ Oth w0 w' := by
  refine enterN (tab := tab) Tryz.func51 rfl Tryz.ntmps51 rfl (args := [_, _, _, _, _]) rfl hm ?_
  refine VC_sound tabOk 100 ?_
  intro b9 _ b10 _
  refine Go_res (.blk b10 65 (encE zeroE) :: .blk b9 63 [.int .i64 key, .string text] :: rqR J P) (fun _ h => h) ?_
  show Go _ _ _ _
  refine Go_any mixed [10] [(0, false), (1, false), (2, false), (4, false), (5, false), (6, false), (3, false), (7, false), (8, false), (9, true), (10, true)] rfl (by kernel_rfl) (by kernel_rfl) [.blk b9 63 [.int .i64 key, .string text], rqB J P] (fun _ => True) (fun _ _ _ h => h) (fun w hm _ => ⟨Holds.of_idx [1, 2] hm, trivial⟩) ?_
  refine VC_sound tabOk 100 ?_
  (repeat (first | refine Or.inl ⟨rfl, rfl, ?_⟩ | refine Or.inl ⟨rfl, ?_⟩ | refine Or.inr ?_))
  intro b11 _
  (repeat (first | refine Or.inl ⟨rfl, rfl, ?_⟩ | refine Or.inl ⟨rfl, ?_⟩ | refine Or.inr ?_))
  refine ⟨_, wrap_i64 (n := P.nx + 1) (by omega) (by omega), ?_⟩
  (repeat (first | refine Or.inl ⟨rfl, rfl, ?_⟩ | refine Or.inl ⟨rfl, ?_⟩ | refine Or.inr ?_))
  refine Go_res (.blk b11 65 (encE (evP P x table kind key text)) :: .blk b10 65 (encE zeroE) :: .blk b9 63 [.int .i64 key, .string text] :: rqR J { P with nx := P.nx + 1 }) (fun _ h => h) ?_
  show Go _ _ _ _
  refine Go_any mixed [9] [(0, false), (1, false), (2, false), (3, false), (4, false), (5, false), (6, false), (7, false), (8, false), (9, true)] rfl (by kernel_rfl) (by kernel_rfl) [.blk b11 65 (encE (evP P x table kind key text)), rqB J { P with nx := P.nx + 1 }] (fun _ => True) (fun _ _ _ h => h) (fun w hm _ => ⟨Holds.of_idx [0, 3] hm, trivial⟩) ?_
  refine VC_sound tabOk 100 ?_
  (repeat (first | refine Or.inl ⟨rfl, rfl, ?_⟩ | refine Or.inl ⟨rfl, ?_⟩ | refine Or.inr ?_))
  refine Go_aloneM rfl rfl rfl (OpTo_tcall [.blk b11 65 (encE (evP P x table kind key text)), .blk b10 65 (encE zeroE), .blk b9 63 [.int .i64 key, .string text]] (rqR J { P with nx := P.nx + 1 }) rfl rfl rfl rfl rfl rfl (by kernel_rfl) (fun w hb hm hio hsp k => ps_addTo J { P with nx := P.nx + 1 } P.cur (evP P x table kind key text) hc hl w _ k) ?_)
  rintro _ _ ⟨rfl, A, c, rfl⟩
  refine VC_sound tabOk 100 ?_
  (repeat (first | refine Or.inl ⟨rfl, rfl, ?_⟩ | refine Or.inl ⟨rfl, ?_⟩ | refine Or.inr ?_))
  exact ⟨_, ⟨rfl, A, c, rfl⟩, fun _ _ h => h.drop (a := [_, _, _])⟩
def regP (P : RS) (name : ByteArray) : Int := if P.last = 0 then 9 else Cu.regY name P.last P.ys
set_option maxHeartbeats 1000000 in
theorem pr_register (J : RI) (P : RS) (name : ByteArray) (hl : P.ys.length ≤ 1000) (hrise : Rise ltS Cu.CurV.name P.ys) (w0 : World) (hfs : List PH) (hm : Mod hfs (rqR J P) w0) :
    Calls Tryz.prog 58 #[pv J.b, .string name] w0 fun e w' => ∃ v Rs', e = .returned v ∧ (v = .int .i64 (regP P name) ∧ ∃ A' c' zs, Rs' = rqR J { P with yA := A', yc := c', ys := zs } ∧ ((regP P name = 0 ∧ (P.ys ++ [(⟨name, P.last, 0⟩ : Cu.CurV)]).Perm zs ∧ Rise ltS Cu.CurV.name zs) ∨ (regP P name ≠ 0 ∧ zs = P.ys))) ∧ Mod hfs Rs' w' ∧ Oth w0 w' := by
  refine enterN (tab := tab) Tryz.func58 rfl Tryz.ntmps58 rfl (args := [_, _]) rfl hm ?_
  refine VC_sound tabOk 100 ?_
  (repeat (first | refine Or.inl ⟨rfl, rfl, ?_⟩ | refine Or.inl ⟨rfl, ?_⟩ | refine Or.inr ?_))
  refine ⟨fun g => ?_, fun g => ?_⟩
  · have g := of_decide_eq_true g
    have e : regP P name = 9 := by rw [regP, if_pos g]
    exact ⟨_, ⟨by rw [e]; rfl, P.yA, P.yc, P.ys, rfl, .inr ⟨by rw [e]; decide, rfl⟩⟩, fun _ _ h => h⟩
  · have g := of_decide_eq_false g
    have e : regP P name = Cu.regY name P.last P.ys := by rw [regP, if_neg g]
    show Go _ _ _ _
    refine Go_any mixed [9] [(0, false), (1, false), (2, false), (3, false), (4, false), (5, false), (6, false), (7, false), (8, false), (9, true), (10, false)] rfl (by kernel_rfl) (by kernel_rfl) [rqB J P] (fun _ => True) (fun _ _ _ h => h) (fun w hm _ => ⟨Holds.of_idx [0] hm, trivial⟩) ?_
    refine VC_sound tabOk 100 ?_
    (repeat (first | refine Or.inl ⟨rfl, rfl, ?_⟩ | refine Or.inl ⟨rfl, ?_⟩ | refine Or.inr ?_))
    refine Go_aloneM rfl rfl rfl (OpTo_tcall [] (rqR J P) rfl rfl rfl rfl rfl rfl (by kernel_rfl) (fun w hb hm hio hsp k => ps_creg J P name P.last hl hrise w _ k) ?_)
    rintro _ _ ⟨rfl, A', c', zs, rfl, h1⟩
    refine VC_sound tabOk 100 ?_
    exact ⟨_, ⟨by rw [e]; rfl, A', c', zs, rfl, by rw [e]; exact h1⟩, fun _ _ h => h⟩
theorem pr_unreg_no (J : RI) (P : RS) (name : ByteArray) (hl : P.ys.length ≤ 1000) (hk : ∀ y ∈ P.ys, y.name ≠ name) (w0 : World) (hfs : List PH) (hm : Mod hfs (rqR J P) w0) :
    Calls Tryz.prog 59 #[pv J.b, .string name] w0 fun e w' => ∃ v Rs', e = .returned v ∧ (v = .int .i64 4 ∧ Rs' = rqR J P) ∧ Mod hfs Rs' w' ∧ Oth w0 w' := by
  refine enterN (tab := tab) Tryz.func59 rfl Tryz.ntmps59 rfl (args := [_, _]) rfl hm ?_
  refine VC_sound tabOk 100 ?_
  refine Go_ops rfl (OpTo_tcall [] (rqR J P) rfl rfl rfl rfl rfl rfl (by kernel_rfl) (fun w hb hm hio hsp k => ps_cunr_no J P name hl hk w _ k) ?_)
  rintro _ _ ⟨rfl, rfl⟩
  refine VC_sound tabOk 100 ?_
  refine ⟨fun h => by first | (simp at h; done) | (simp at h; omega) | (simp_all; done), fun _ => ?_⟩
  exact ⟨_, ⟨rfl, rfl⟩, fun _ _ h => h⟩
theorem pr_unreg (J : RI) (P : RS) (y1 y2 : List Cu.CurV) (y : Cu.CurV) (name : ByteArray) (hys : P.ys = y1 ++ y :: y2) (hl : (y1 ++ y :: y2).length ≤ 1000) (hy : y.name = name) (hk : ∀ z ∈ y1, z.name ≠ name) (hxl : P.xs.length ≤ 10000) (w0 : World) (hfs : List PH) (hm : Mod hfs (rqR J P) w0) :
    Calls Tryz.prog 59 #[pv J.b, .string name] w0 fun e w' => ∃ v Rs', e = .returned v ∧ (v = .int .i64 0 ∧ ∃ A1 c1 A2 c2, Rs' = rqR J { P with yA := A1, yc := c1, ys := y1 ++ y2, xA := A2, xc := c2, xs := Rt.leftL name P.xs }) ∧ Mod hfs Rs' w' ∧ Oth w0 w' := by
  refine enterN (tab := tab) Tryz.func59 rfl Tryz.ntmps59 rfl (args := [_, _]) rfl hm ?_
  refine VC_sound tabOk 100 ?_
  refine Go_ops rfl (OpTo_tcall [] (rqR J P) rfl rfl rfl rfl rfl rfl (by kernel_rfl) (fun w hb hm hio hsp k => ps_cunr J P y1 y2 y name hys hl hy hk w _ k) ?_)
  rintro _ _ ⟨rfl, A1, c1, rfl⟩
  refine VC_sound tabOk 100 ?_
  refine ⟨fun _ => ?_, fun h => by first | (simp at h; done) | (simp at h; omega) | (simp_all; done)⟩
  refine Go_ops rfl (OpTo_tcall [] (rqR J { P with yA := A1, yc := c1, ys := y1 ++ y2 }) rfl rfl rfl rfl rfl rfl (by kernel_rfl) (fun w hb hm hio hsp k => ps_rdrop J { P with yA := A1, yc := c1, ys := y1 ++ y2 } name hxl w _ k) ?_)
  rintro _ _ ⟨rfl, A2, c2, rfl⟩
  refine VC_sound tabOk 100 ?_
  exact ⟨_, ⟨rfl, A1, c1, A2, c2, rfl⟩, fun _ _ h => h⟩
theorem pr_low (J : RI) (P : RS) (hl : P.ys.length ≤ 1000) (w0 : World) (hfs : List PH) (hm : Mod hfs (rqR J P) w0) :
    Calls Tryz.prog 69 #[pv J.b] w0 fun e w' => ∃ v Rs', e = .returned v ∧ (v = .int .i64 (lowL P.ys) ∧ Rs' = rqR J P) ∧ Mod hfs Rs' w' ∧ Oth w0 w' := by
  refine enterN (tab := tab) Tryz.func69 rfl Tryz.ntmps69 rfl (args := [_]) rfl hm ?_
  refine VC_sound tabOk 100 ?_
  refine Go_ops rfl (OpTo_tcall [] (rqR J P) rfl rfl rfl rfl rfl rfl (by kernel_rfl) (fun w hb hm hio hsp k => ps_least J P hl w _ k) ?_)
  rintro _ _ ⟨rfl, rfl⟩
  unfold Cu.leastT
  refine VC_sound tabOk 100 ?_
  refine ⟨fun g => ?_, fun g => ?_⟩
  · have h0 : lowL P.ys = 9223372036854775807 := by rw [lowL, if_neg (by simpa using g)]
    exact ⟨_, ⟨by rw [h0]; rfl, rfl⟩, fun _ _ h => h⟩
  · have h0 : lowL P.ys = Cu.minL P.ys := by rw [lowL, if_pos (by simpa using g)]
    exact ⟨_, ⟨by rw [h0]; rfl, rfl⟩, fun _ _ h => h⟩
end Go.Proofs.YthpcahgdobnljaaGreat

/- What the functions of layer 15's reference do: After Open Batch. -/
set_option maxRecDepth 100000
set_option autoImplicit false
set_option linter.unusedVariables false
set_option linter.unusedSimpArgs false
namespace Go.Proofs.YthpcahgdobnljaaGreat
open Go.RX Go Go.RowKit


theorem fnd_fd (p : Tk.TickM → Bool) (us : List Tk.TickM) : Tk.fndV p us = .tuple #[Tk.mkT (Tk.fdT p us), .bool (us.find? p).isSome] := by
  unfold Tk.fndV Tk.fdT
  cases us.find? p <;> rfl
theorem pt_get (J : RI) (P : RS) (q : Int) (hn : P.us.length ≤ 1000000) (w0 : World) (hb : w0.heap[J.b]? = some (.cells #[pv J.br, P.T.1.v, P.T.2.1.v, P.T.2.2.v, .int .i64 P.cur, .slice P.A P.us.length P.c, .int .i64 P.last, .slice P.yA P.ys.length P.yc, .slice P.xA P.xs.length P.xc, .int .i64 P.nx] 100 (0, 0))) (hA : RdW w0 P.A (P.us.flatMap Tk.encT)) :
    Calls Tryz.prog 45 #[.pointer (some ⟨J.b, 5, none⟩), .int .i64 q] w0 fun e w' => e = .returned (.tuple #[Tk.mkT (Tk.fdT (Tk.tkIs q) P.us), .bool (P.us.find? (Tk.tkIs q)).isSome]) ∧ BelowD w0.heap.size w0 w' := by
  rw [← fnd_fd]
  exact Tk.r11_get (gq J P) P.A P.c P.us P.last q w0 hb hA hn
theorem pt_after (J : RI) (P : RS) (q : Int) (hn : P.us.length ≤ 1000000) (w0 : World) (hb : w0.heap[J.b]? = some (.cells #[pv J.br, P.T.1.v, P.T.2.1.v, P.T.2.2.v, .int .i64 P.cur, .slice P.A P.us.length P.c, .int .i64 P.last, .slice P.yA P.ys.length P.yc, .slice P.xA P.xs.length P.xc, .int .i64 P.nx] 100 (0, 0))) (hA : RdW w0 P.A (P.us.flatMap Tk.encT)) :
    Calls Tryz.prog 169 #[.pointer (some ⟨J.b, 5, none⟩), .int .i64 q] w0 fun e w' => e = .returned (.tuple #[Tk.mkT (Tk.fdT (Tk.tkAft q) P.us), .bool (P.us.find? (Tk.tkAft q)).isSome]) ∧ BelowD w0.heap.size w0 w' := by
  rw [← fnd_fd]
  exact Tk.r11_after (gq J P) P.A P.c P.us P.last q w0 hb hA hn

/-! ### After -/
set_option maxHeartbeats 1000000 in
theorem pr_after_no (J : RI) (P : RS) (name : ByteArray) (hl : P.ys.length ≤ 1000) (hk : ∀ z ∈ P.ys, z.name ≠ name) (w0 : World) (hfs : List PH) (hm : Mod hfs (rqR J P) w0) :
    Calls Tryz.prog 119 #[pv J.b, .string name] w0 fun e w' => ∃ v Rs', e = .returned v ∧ (v = .tuple #[Tk.mkT Tk.zeroT, .int .i64 4] ∧ Rs' = rqR J P) ∧ Mod hfs Rs' w' ∧ Oth w0 w' := by
  have hf : Cu.fI name P.ys = -1 := Cu.fI_none hk
  refine enterN (tab := tab) Tryz.func119 rfl Tryz.ntmps119 rfl (args := [_, _]) rfl hm ?_
  refine VC_sound tabOk 100 ?_
  intro b4 _
  refine Go_ops rfl (OpTo_pcall (v := .int .i64 (Cu.fI name P.ys)) rfl rfl rfl rfl rfl (by kernel_rfl) (fun w hm _ => Cu.r13_find (gq J P) P.yA P.yc P.ys name hl w (hm.blk_at (i := 1) rfl) (hm.own_rd (i := 7) rfl)) ?_)
  refine VC_sound tabOk 100 ?_
  rw [hf]
  refine ⟨fun _ => ?_, fun h => by first | (simp at h; done) | (simp at h; omega) | (simp_all; done)⟩
  (repeat (first | refine Or.inl ⟨rfl, rfl, ?_⟩ | refine Or.inl ⟨rfl, ?_⟩ | refine Or.inr ?_))
  exact ⟨_, ⟨rfl, rfl⟩, fun _ _ h => h.drop (a := [_])⟩
/-- What After answers, of a consumer that there is. -/
def aftP (us : List Tk.TickM) (y : Cu.CurV) (v : Value) : Prop :=
  (0 < y.opn ∧ v = .tuple #[Tk.mkT Tk.zeroT, .int .i64 7]) ∨
  (¬ 0 < y.opn ∧ us.find? (Tk.tkAft y.last) = none ∧ v = .tuple #[Tk.mkT Tk.zeroT, .int .i64 9]) ∨
  (¬ 0 < y.opn ∧ ∃ t, us.find? (Tk.tkAft y.last) = some t ∧ v = .tuple #[Tk.mkT t, .int .i64 0])
set_option maxHeartbeats 2000000 in
theorem pr_after (J : RI) (P : RS) (y1 y2 : List Cu.CurV) (y : Cu.CurV) (hys : P.ys = y1 ++ y :: y2) (hl : P.ys.length ≤ 1000) (hk : ∀ z ∈ y1, z.name ≠ y.name) (hn : P.us.length ≤ 1000000) (w0 : World) (hfs : List PH) (hm : Mod hfs (rqR J P) w0) :
    Calls Tryz.prog 119 #[pv J.b, .string y.name] w0 fun e w' => ∃ v Rs', e = .returned v ∧ (aftP P.us y v ∧ Rs' = rqR J P) ∧ Mod hfs Rs' w' ∧ Oth w0 w' := by
  obtain ⟨T, cur, A, c, us, last, yA, yc, ys, xA, xc, xs, nx, RA, Rc, R⟩ := P
  dsimp only at hys hl hn
  subst hys
  have hlen : (y1 ++ y :: y2).length = y1.length + 1 + y2.length := by simp; omega
  have hgy : (y1 ++ y :: y2)[y1.length]? = some y := by simp
  have hf : Cu.fI y.name (y1 ++ y :: y2) = y1.length := Cu.fI_split rfl hk
  obtain ⟨bY, oY, rfl⟩ : ∃ b o, yA = some ⟨b, o, none⟩ := hm.own_some (i := 6) rfl (by simp)
  refine enterN (tab := tab) Tryz.func119 rfl Tryz.ntmps119 rfl (args := [_, _]) rfl hm ?_
  refine VC_sound tabOk 100 ?_
  intro b4 _
  refine Go_ops rfl (OpTo_pcall (v := .int .i64 y1.length) rfl rfl rfl rfl rfl (by kernel_rfl) (fun w hm _ => by have h := Cu.r13_find (gq J ⟨T, cur, A, c, us, last, some ⟨bY, oY, none⟩, yc, y1 ++ y :: y2, xA, xc, xs, nx, RA, Rc, R⟩) (some ⟨bY, oY, none⟩) yc (y1 ++ y :: y2) y.name hl w (hm.blk_at (i := 1) rfl) (hm.own_rd (i := 7) rfl); rw [hf] at h; exact h) ?_)
  refine VC_sound tabOk 100 ?_
  refine ⟨fun h => by first | (simp at h; done) | (simp at h; omega) | (simp_all; done), fun _ => ?_⟩
  (repeat (first | refine Or.inl ⟨rfl, rfl, ?_⟩ | refine Or.inl ⟨rfl, ?_⟩ | refine Or.inr ?_))
  refine ⟨⟨by omega, by show (y1.length : Int) < ((y1 ++ y :: y2).length : Int); omega⟩, ?_⟩
  (repeat (first | refine Or.inl ⟨rfl, rfl, ?_⟩ | refine Or.inl ⟨rfl, ?_⟩ | refine Or.inr ?_))
  refine Go_ops rfl (OpTo_loadPart tabOk Cu.encC_is (n := y1.length) (j := 2) (.int .i64 y.opn) rfl rfl rfl (fun w hm _ => hm.own_rd (i := 7) rfl) hgy rfl (by simp only [addA]; rfl) ?_)
  refine VC_sound tabOk 100 ?_
  refine ⟨fun g => ?_, fun g => ?_⟩
  · (repeat (first | refine Or.inl ⟨rfl, rfl, ?_⟩ | refine Or.inl ⟨rfl, ?_⟩ | refine Or.inr ?_))
    exact ⟨_, ⟨.inl ⟨of_decide_eq_true g, rfl⟩, rfl⟩, fun _ _ h => h.drop (a := [_])⟩
  have g0 : ¬ 0 < y.opn := of_decide_eq_false g
  refine Go_cut (σ := Nat) (fun u => [(0, .v (pv J.b)), (1, .v (.string y.name)), (4, .v (pv b4)), (7, .v (pv u)), (8, .v (.bool (us.find? (Tk.tkAft y.last)).isSome))]) (fun u => .blk u 44 (Tk.encT (Tk.fdT (Tk.tkAft y.last) us)) :: .blk b4 44 (Tk.encT Tk.zeroT) :: rqR J ⟨T, cur, A, c, us, last, some ⟨bY, oY, none⟩, yc, y1 ++ y :: y2, xA, xc, xs, nx, RA, Rc, R⟩) (fun _ => True) ?_ ?_
  · refine Go_any mixed [12, 17] [(0, false), (1, false), (2, false), (3, false), (4, false), (5, false), (6, false), (8, false), (7, false), (9, false), (10, false), (11, false), (99, false), (99, false), (99, false), (99, false), (99, false), (99, false), (99, false)] rfl (by kernel_rfl) (by kernel_rfl) [rqB J ⟨T, cur, A, c, us, last, some ⟨bY, oY, none⟩, yc, y1 ++ y :: y2, xA, xc, xs, nx, RA, Rc, R⟩] (fun w => RdW w (some ⟨bY, oY, none⟩) ((y1 ++ y :: y2).flatMap Cu.encC)) (fun w w' hk h => h.old hk) (fun w hm _ => ⟨Holds.of_idx [1] hm, by exact Mod.own_rd (k := 3) (T := 101) (c := yc) (i := 7) hm rfl⟩) ?_
    refine VC_sound tabOk 100 ?_
    (repeat (first | refine Or.inl ⟨rfl, rfl, ?_⟩ | refine Or.inl ⟨rfl, ?_⟩ | refine Or.inr ?_))
    refine ⟨⟨by omega, by show (y1.length : Int) < ((y1 ++ y :: y2).length : Int); omega⟩, ?_⟩
    (repeat (first | refine Or.inl ⟨rfl, rfl, ?_⟩ | refine Or.inl ⟨rfl, ?_⟩ | refine Or.inr ?_))
    refine Go_first (v := .int .i64 y.last) rfl rfl rfl rfl (fun w _ hw => rxLoadPart tabOk rfl Cu.encC_is hw hgy (off := 1) rfl (by simp only [addA]; rfl)) ?_
    refine Go_forkA 12 16 [(13, false), (14, false), (15, false), (16, true), (17, true), (18, false)] [(12, true), (13, false), (14, false), (15, false), (17, true), (18, false)] (by kernel_rfl) rfl rfl (by kernel_rfl) (by kernel_rfl) rfl rfl rfl rfl rfl (fun R w hm _ => ⟨Holds.of_idx [2] hm, by exact Mod.own_rd (k := 3) (T := 101) (c := yc) (i := 8) hm rfl⟩) ?_ ?_ tabOk
    · refine OpTo_pcall rfl rfl rfl rfl rfl (by kernel_rfl) (fun w hm _ => pt_after J ⟨T, cur, A, c, us, last, some ⟨bY, oY, none⟩, yc, y1 ++ y :: y2, xA, xc, xs, nx, RA, Rc, R⟩ y.last hn w (hm.blk_at (i := 1) rfl) (hm.own_rd (i := 5) rfl)) ?_
      refine VC_sound tabOk 100 ?_
      intro b99 _
      (repeat (first | refine Or.inl ⟨rfl, rfl, ?_⟩ | refine Or.inl ⟨rfl, ?_⟩ | refine Or.inr ?_))
      exact Go_put b99 trivial ⟨rfl, rfl, rfl, rfl, rfl, trivial⟩ (fun _ h => h)
    · intro b99 _
      refine ⟨⟨_, rfl⟩, ?_⟩
      refine Go_aloneM rfl rfl rfl (OpTo_pcall rfl rfl rfl rfl rfl (by kernel_rfl) (fun w hm _ => pt_after J ⟨T, cur, A, c, us, last, some ⟨bY, oY, none⟩, yc, y1 ++ y :: y2, xA, xc, xs, nx, RA, Rc, R⟩ y.last hn w (hm.blk_at (i := 2) rfl) (hm.own_rd (i := 6) rfl)) ?_)
      refine VC_sound tabOk 100 ?_
      (repeat (first | refine Or.inl ⟨rfl, rfl, ?_⟩ | refine Or.inl ⟨rfl, ?_⟩ | refine Or.inr ?_))
      exact Go_put b99 trivial ⟨rfl, rfl, rfl, rfl, rfl, trivial⟩ (fun _ h => h)
  intro b7 _
  dsimp only
  refine VC_sound tabOk 100 ?_
  cases hfd : us.find? (Tk.tkAft y.last) with
  | none =>
    refine ⟨fun _ => ?_, fun h => nomatch h⟩
    (repeat (first | refine Or.inl ⟨rfl, rfl, ?_⟩ | refine Or.inl ⟨rfl, ?_⟩ | refine Or.inr ?_))
    exact ⟨_, ⟨.inr (.inl ⟨g0, hfd, rfl⟩), rfl⟩, fun _ _ h => h.drop (a := [_, _])⟩
  | some t =>
    refine ⟨fun h => (nomatch h), fun _ => ?_⟩
    have hX : Tk.fdT (Tk.tkAft y.last) us = t := by simp only [Tk.fdT, hfd]; rfl
    rw [hX]
    (repeat (first | refine Or.inl ⟨rfl, rfl, ?_⟩ | refine Or.inl ⟨rfl, ?_⟩ | refine Or.inr ?_))
    exact ⟨_, ⟨.inr (.inr ⟨g0, t, hfd, rfl⟩), rfl⟩, fun _ _ h => h.drop (a := [_, _])⟩

/-! ### Open -/
set_option maxHeartbeats 1000000 in
theorem pr_open_no (J : RI) (P : RS) (name : ByteArray) (hl : P.ys.length ≤ 1000) (hk : ∀ z ∈ P.ys, z.name ≠ name) (w0 : World) (hfs : List PH) (hm : Mod hfs (rqR J P) w0) :
    Calls Tryz.prog 60 #[pv J.b, .string name] w0 fun e w' => ∃ v Rs', e = .returned v ∧ (v = .tuple #[Tk.mkT Tk.zeroT, .int .i64 4] ∧ Rs' = rqR J P) ∧ Mod hfs Rs' w' ∧ Oth w0 w' := by
  refine enterN (tab := tab) Tryz.func60 rfl Tryz.ntmps60 rfl (args := [_, _]) rfl hm ?_
  refine VC_sound tabOk 100 ?_
  intro b4 _
  refine Go_ops rfl (OpTo_tcall [.blk b4 44 (Tk.encT Tk.zeroT)] (rqR J P) rfl rfl rfl rfl rfl rfl (by kernel_rfl) (fun w hb hm hio hsp k => pr_after_no J P name hl hk w _ k) ?_)
  rintro _ _ ⟨rfl, rfl⟩
  refine VC_sound tabOk 100 ?_
  intro b6 _
  (repeat (first | refine Or.inl ⟨rfl, rfl, ?_⟩ | refine Or.inl ⟨rfl, ?_⟩ | refine Or.inr ?_))
  refine ⟨fun h => by first | (simp at h; done) | (simp at h; omega) | (simp_all; done), fun _ => ?_⟩
  (repeat (first | refine Or.inl ⟨rfl, rfl, ?_⟩ | refine Or.inl ⟨rfl, ?_⟩ | refine Or.inr ?_))
  exact ⟨_, ⟨rfl, rfl⟩, fun _ _ h => h.drop (a := [_, _])⟩
def openP (J : RI) (P : RS) (y1 y2 : List Cu.CurV) (y : Cu.CurV) : Value → List Res → Prop := fun v Rs =>
  (0 < y.opn ∧ v = .tuple #[Tk.mkT Tk.zeroT, .int .i64 7] ∧ Rs = rqR J P) ∨
  (¬ 0 < y.opn ∧ P.us.find? (Tk.tkAft y.last) = none ∧ v = .tuple #[Tk.mkT Tk.zeroT, .int .i64 9] ∧ Rs = rqR J P) ∨
  (¬ 0 < y.opn ∧ ∃ t A' c', P.us.find? (Tk.tkAft y.last) = some t ∧ v = .tuple #[Tk.mkT t, .int .i64 0] ∧ Rs = rqR J { P with yA := A', yc := c', ys := y1 ++ ⟨y.name, y.last, t.n⟩ :: y2 })
set_option maxHeartbeats 1000000 in
theorem pr_open (J : RI) (P : RS) (y1 y2 : List Cu.CurV) (y : Cu.CurV) (hys : P.ys = y1 ++ y :: y2) (hl : P.ys.length ≤ 1000) (hk : ∀ z ∈ y1, z.name ≠ y.name) (hn : P.us.length ≤ 1000000) (w0 : World) (hfs : List PH) (hm : Mod hfs (rqR J P) w0) :
    Calls Tryz.prog 60 #[pv J.b, .string y.name] w0 fun e w' => ∃ v Rs', e = .returned v ∧ openP J P y1 y2 y v Rs' ∧ Mod hfs Rs' w' ∧ Oth w0 w' := by
  refine enterN (tab := tab) Tryz.func60 rfl Tryz.ntmps60 rfl (args := [_, _]) rfl hm ?_
  refine VC_sound tabOk 100 ?_
  intro b4 _
  refine Go_ops rfl (OpTo_tcall [.blk b4 44 (Tk.encT Tk.zeroT)] (rqR J P) rfl rfl rfl rfl rfl rfl (by kernel_rfl) (fun w hb hm hio hsp k => pr_after J P y1 y2 y hys hl hk hn w _ k) ?_)
  rintro _ _ ⟨⟨g0, rfl⟩ | ⟨g0, hfd, rfl⟩ | ⟨g0, t, hfd, rfl⟩, rfl⟩
  · refine VC_sound tabOk 100 ?_
    intro b6 _
    (repeat (first | refine Or.inl ⟨rfl, rfl, ?_⟩ | refine Or.inl ⟨rfl, ?_⟩ | refine Or.inr ?_))
    refine ⟨fun h => by first | (simp at h; done) | (simp at h; omega) | (simp_all; done), fun _ => ?_⟩
    (repeat (first | refine Or.inl ⟨rfl, rfl, ?_⟩ | refine Or.inl ⟨rfl, ?_⟩ | refine Or.inr ?_))
    exact ⟨_, .inl ⟨g0, rfl, rfl⟩, fun _ _ h => h.drop (a := [_, _])⟩
  · refine VC_sound tabOk 100 ?_
    intro b6 _
    (repeat (first | refine Or.inl ⟨rfl, rfl, ?_⟩ | refine Or.inl ⟨rfl, ?_⟩ | refine Or.inr ?_))
    refine ⟨fun h => by first | (simp at h; done) | (simp at h; omega) | (simp_all; done), fun _ => ?_⟩
    (repeat (first | refine Or.inl ⟨rfl, rfl, ?_⟩ | refine Or.inl ⟨rfl, ?_⟩ | refine Or.inr ?_))
    exact ⟨_, .inr (.inl ⟨g0, hfd, rfl, rfl⟩), fun _ _ h => h.drop (a := [_, _])⟩
  · have hgt : y.last < t.n := by simpa [Tk.tkAft] using List.find?_some hfd
    have h0 : Cu.openE y t.n = 0 := by rw [Cu.openE, if_neg g0, if_neg (by omega)]
    refine VC_sound tabOk 100 ?_
    intro b6 _
    (repeat (first | refine Or.inl ⟨rfl, rfl, ?_⟩ | refine Or.inl ⟨rfl, ?_⟩ | refine Or.inr ?_))
    refine ⟨fun _ => ?_, fun h => by first | (simp at h; done) | (simp at h; omega) | (simp_all; done)⟩
    refine Go_res (.blk b6 44 (Tk.encT t) :: .blk b4 44 (Tk.encT Tk.zeroT) :: rqR J P) (fun _ h => h) ?_
    show Go _ _ _ _
    refine Go_any mixed [6] [(0, false), (1, false), (2, false), (3, false), (4, false), (5, false), (6, true), (7, false)] rfl (by kernel_rfl) (by kernel_rfl) [.blk b6 44 (Tk.encT t)] (fun _ => True) (fun _ _ _ h => h) (fun w hm _ => ⟨Holds.of_idx [0] hm, trivial⟩) ?_
    refine VC_sound tabOk 100 ?_
    (repeat (first | refine Or.inl ⟨rfl, rfl, ?_⟩ | refine Or.inl ⟨rfl, ?_⟩ | refine Or.inr ?_))
    refine Go_aloneM rfl rfl rfl (OpTo_tcall [.blk b6 44 (Tk.encT t), .blk b4 44 (Tk.encT Tk.zeroT)] (rqR J P) rfl rfl rfl rfl rfl rfl (by kernel_rfl) (fun w hb hm hio hsp k => ps_copen J P y1 y2 y y.name t.n hys (by rw [← hys]; exact hl) rfl hk w _ k) ?_)
    rintro _ _ ⟨rfl, A', c', rfl⟩
    refine VC_sound tabOk 100 ?_
    (repeat (first | refine Or.inl ⟨rfl, rfl, ?_⟩ | refine Or.inl ⟨rfl, ?_⟩ | refine Or.inr ?_))
    refine ⟨_, .inr (.inr ⟨g0, t, A', c', hfd, by rw [h0]; rfl, rfl⟩), fun _ w h => ?_⟩
    simp only [h0, if_true] at h
    exact h.drop (a := [_, _])
end Go.Proofs.YthpcahgdobnljaaGreat

/- What the functions of layer 15's reference do: Batch Again Retry. -/
set_option maxRecDepth 100000
set_option autoImplicit false
set_option linter.unusedVariables false
set_option linter.unusedSimpArgs false
namespace Go.Proofs.YthpcahgdobnljaaGreat
open Go.RX Go Go.RowKit


abbrev snT (t : Tk.TickM) : Bt.SnM := ⟨t.mx, t.A, t.c, t.op⟩
theorem bag_fd {hfs : List PH} {Rs : List Res} {w : World} {us : List Tk.TickM} {i : Nat} (hm : Mod hfs Rs w) (hi : Rs[i]? = some (ro (Tk.tkBag us))) (p : Tk.TickM → Bool) : RdI w (Tk.fdT p us).A (Tk.fdT p us).op := by
  unfold Tk.fdT
  cases h : us.find? p with
  | none => exact .inl rfl
  | some t => exact hm.ro_rd hi (List.mem_map.2 ⟨t, List.mem_of_find?_eq_some h, rfl⟩)
/-- What a batch has. -/
def BatP (P : RS) (y : Cu.CurV) (ys : List EventM) : Prop := ∃ zs, SrtR (Sp.pre3 P.T.1 P.T.2.1 P.T.2.2 3) zs ∧ SrtR (zs.filter (Bt.rofP (rState P.R) (snT (Tk.fdT (Tk.tkIs y.last) P.us)) (snT (Tk.fdT (Tk.tkIs y.opn) P.us)) y.name)) ys
def batP (J : RI) (P : RS) (y : Cu.CurV) : Value → List Res → Prop := fun v Rs =>
  (y.opn = 0 ∧ v = .tuple #[.slice none 0 0, .int .i64 7] ∧ Rs = rqR J P) ∨
  (y.opn ≠ 0 ∧ ∃ ys A c, BatP P y ys ∧ v = .tuple #[.slice A ys.length c, .int .i64 0] ∧ Rs = own encE 8 65 A c ys :: rqR J P)
set_option maxHeartbeats 1000000 in
theorem pr_batch_no (J : RI) (P : RS) (name : ByteArray) (hl : P.ys.length ≤ 1000) (hk : ∀ z ∈ P.ys, z.name ≠ name) (w0 : World) (hfs : List PH) (hm : Mod hfs (rqR J P) w0) :
    Calls Tryz.prog 61 #[pv J.b, .string name] w0 fun e w' => ∃ v Rs', e = .returned v ∧ (v = .tuple #[.slice none 0 0, .int .i64 4] ∧ Rs' = rqR J P) ∧ Mod hfs Rs' w' ∧ Oth w0 w' := by
  have hf : Cu.fI name P.ys = -1 := Cu.fI_none hk
  refine enterN (tab := tab) Tryz.func61 rfl Tryz.ntmps61 rfl (args := [_, _]) rfl hm ?_
  refine VC_sound tabOk 100 ?_
  refine Go_ops rfl (OpTo_pcall (v := .int .i64 (Cu.fI name P.ys)) rfl rfl rfl rfl rfl (by kernel_rfl) (fun w hm _ => Cu.r13_find (gq J P) P.yA P.yc P.ys name hl w (hm.blk_at (i := 0) rfl) (hm.own_rd (i := 6) rfl)) ?_)
  refine VC_sound tabOk 100 ?_
  rw [hf]
  refine ⟨fun _ => ?_, fun h => by first | (simp at h; done) | (simp at h; omega) | (simp_all; done)⟩
  exact ⟨_, ⟨rfl, rfl⟩, fun _ _ h => h⟩
set_option maxHeartbeats 4000000 in
theorem pr_batch (J : RI) (P : RS) (y1 y2 : List Cu.CurV) (y : Cu.CurV) (hys : P.ys = y1 ++ y :: y2) (hl : P.ys.length ≤ 1000) (hk : ∀ z ∈ y1, z.name ≠ y.name) (hn : P.us.length ≤ 1000000) (hf : Tk.Fit1 P.us) (hT : Sp.len3 P.T ≤ 10000) (hR : P.R.length ≤ 1000000) (w0 : World) (hfs : List PH) (hm : Mod hfs (rqR J P) w0) :
    Calls Tryz.prog 61 #[pv J.b, .string y.name] w0 fun e w' => ∃ v Rs', e = .returned v ∧ batP J P y v Rs' ∧ Mod hfs Rs' w' ∧ Oth w0 w' := by
  obtain ⟨T, cur, A, c, us, last, yA, yc, ys, xA, xc, xs, nx, RA, Rc, R⟩ := P
  dsimp only at hys hl hn hf hT hR
  subst hys
  have hlen : (y1 ++ y :: y2).length = y1.length + 1 + y2.length := by simp; omega
  have hgy : (y1 ++ y :: y2)[y1.length]? = some y := by simp
  have hfi : Cu.fI y.name (y1 ++ y :: y2) = y1.length := Cu.fI_split rfl hk
  obtain ⟨bY, oY, rfl⟩ : ∃ b o, yA = some ⟨b, o, none⟩ := hm.own_some (i := 6) rfl (by simp)
  refine enterN (tab := tab) Tryz.func61 rfl Tryz.ntmps61 rfl (args := [_, _]) rfl hm ?_
  refine VC_sound tabOk 100 ?_
  refine Go_ops rfl (OpTo_pcall (v := .int .i64 y1.length) rfl rfl rfl rfl rfl (by kernel_rfl) (fun w hm _ => by have h := Cu.r13_find (gq J ⟨T, cur, A, c, us, last, some ⟨bY, oY, none⟩, yc, y1 ++ y :: y2, xA, xc, xs, nx, RA, Rc, R⟩) (some ⟨bY, oY, none⟩) yc (y1 ++ y :: y2) y.name hl w (hm.blk_at (i := 0) rfl) (hm.own_rd (i := 6) rfl); rw [hfi] at h; exact h) ?_)
  refine VC_sound tabOk 100 ?_
  refine ⟨fun h => by first | (simp at h; done) | (simp at h; omega) | (simp_all; done), fun _ => ?_⟩
  (repeat (first | refine Or.inl ⟨rfl, rfl, ?_⟩ | refine Or.inl ⟨rfl, ?_⟩ | refine Or.inr ?_))
  refine ⟨⟨by omega, by show (y1.length : Int) < ((y1 ++ y :: y2).length : Int); omega⟩, ?_⟩
  (repeat (first | refine Or.inl ⟨rfl, rfl, ?_⟩ | refine Or.inl ⟨rfl, ?_⟩ | refine Or.inr ?_))
  refine Go_ops rfl (OpTo_loadRow tabOk Cu.encC_is (Cu.mkC y) rfl rfl rfl rfl rfl (fun h => by first | rfl | cases h) (fun w hm _ => hm.own_rd (i := 6) rfl) hgy (by simp only [addA]; rfl) ?_)
  refine VC_sound tabOk 100 ?_
  intro b7 _
  (repeat (first | refine Or.inl ⟨rfl, rfl, ?_⟩ | refine Or.inl ⟨rfl, ?_⟩ | refine Or.inr ?_))
  refine ⟨fun g => ?_, fun g => ?_⟩
  · exact ⟨_, .inl ⟨of_decide_eq_true g, rfl, rfl⟩, fun _ _ h => h.drop (a := [_])⟩
  have g0 : y.opn ≠ 0 := of_decide_eq_false g
  refine Go_res (.blk b7 101 (Cu.encC y) :: rqR J ⟨T, cur, A, c, us, last, some ⟨bY, oY, none⟩, yc, y1 ++ y :: y2, xA, xc, xs, nx, RA, Rc, R⟩) (fun _ h => h) ?_
  refine Go_cut (σ := Nat) (fun u => [(0, .v (pv J.b)), (1, .v (.string y.name)), (7, .v (pv b7)), (8, .v (pv u))]) (fun u => .blk u 44 (Tk.encT (Tk.fdT (Tk.tkIs y.last) us)) :: .blk b7 101 (Cu.encC y) :: rqR J ⟨T, cur, A, c, us, last, some ⟨bY, oY, none⟩, yc, y1 ++ y :: y2, xA, xc, xs, nx, RA, Rc, R⟩) (fun _ => True) ?_ ?_
  · refine Go_any mixed [5, 10] [(0, false), (1, false), (2, false), (3, false), (4, false), (99, false), (99, false), (99, false), (99, false), (99, false), (99, false), (99, false)] rfl (by kernel_rfl) (by kernel_rfl) [.blk b7 101 (Cu.encC y)] (fun _ => True) (fun _ _ _ h => h) (fun w hm _ => ⟨Holds.of_idx [0] hm, trivial⟩) ?_
    refine VC_sound tabOk 100 ?_
    (repeat (first | refine Or.inl ⟨rfl, rfl, ?_⟩ | refine Or.inl ⟨rfl, ?_⟩ | refine Or.inr ?_))
    refine Go_forkA 5 9 [(6, false), (7, false), (8, false), (9, true), (10, true), (11, false)] [(5, true), (6, false), (7, false), (8, false), (10, true), (11, false)] (by kernel_rfl) rfl rfl (by kernel_rfl) (by kernel_rfl) rfl rfl rfl rfl rfl (fun R w hm _ => ⟨Holds.of_idx [1] hm, trivial⟩) ?_ ?_ tabOk
    · refine OpTo_pcall rfl rfl rfl rfl rfl (by kernel_rfl) (fun w hm _ => pt_get J ⟨T, cur, A, c, us, last, some ⟨bY, oY, none⟩, yc, y1 ++ y :: y2, xA, xc, xs, nx, RA, Rc, R⟩ y.last hn w (hm.blk_at (i := 1) rfl) (hm.own_rd (i := 5) rfl)) ?_
      refine VC_sound tabOk 100 ?_
      intro b99 _
      (repeat (first | refine Or.inl ⟨rfl, rfl, ?_⟩ | refine Or.inl ⟨rfl, ?_⟩ | refine Or.inr ?_))
      exact Go_put b99 trivial ⟨rfl, rfl, rfl, rfl, trivial⟩ (fun _ h => h)
    · intro b99 _
      refine ⟨⟨_, rfl⟩, ?_⟩
      refine Go_aloneM rfl rfl rfl (OpTo_pcall rfl rfl rfl rfl rfl (by kernel_rfl) (fun w hm _ => pt_get J ⟨T, cur, A, c, us, last, some ⟨bY, oY, none⟩, yc, y1 ++ y :: y2, xA, xc, xs, nx, RA, Rc, R⟩ y.last hn w (hm.blk_at (i := 2) rfl) (hm.own_rd (i := 6) rfl)) ?_)
      refine VC_sound tabOk 100 ?_
      (repeat (first | refine Or.inl ⟨rfl, rfl, ?_⟩ | refine Or.inl ⟨rfl, ?_⟩ | refine Or.inr ?_))
      exact Go_put b99 trivial ⟨rfl, rfl, rfl, rfl, trivial⟩ (fun _ h => h)
  intro b8 _
  refine VC_sound tabOk 100 ?_
  refine Go_cut (σ := Nat) (fun u => [(0, .v (pv J.b)), (1, .v (.string y.name)), (7, .v (pv b7)), (8, .v (pv b8)), (10, .v (pv u))]) (fun u => .blk u 44 (Tk.encT (Tk.fdT (Tk.tkIs y.opn) us)) :: .blk b8 44 (Tk.encT (Tk.fdT (Tk.tkIs y.last) us)) :: .blk b7 101 (Cu.encC y) :: rqR J ⟨T, cur, A, c, us, last, some ⟨bY, oY, none⟩, yc, y1 ++ y :: y2, xA, xc, xs, nx, RA, Rc, R⟩) (fun _ => True) ?_ ?_
  · refine Go_any mixed [5, 10] [(0, false), (1, false), (2, false), (3, false), (4, false), (99, false), (99, false), (99, false), (99, false), (99, false), (99, false), (99, false)] rfl (by kernel_rfl) (by kernel_rfl) [.blk b7 101 (Cu.encC y)] (fun _ => True) (fun _ _ _ h => h) (fun w hm _ => ⟨Holds.of_idx [1] hm, trivial⟩) ?_
    refine VC_sound tabOk 100 ?_
    (repeat (first | refine Or.inl ⟨rfl, rfl, ?_⟩ | refine Or.inl ⟨rfl, ?_⟩ | refine Or.inr ?_))
    refine Go_forkA 5 9 [(6, false), (7, false), (8, false), (9, true), (10, true), (11, false)] [(5, true), (6, false), (7, false), (8, false), (10, true), (11, false)] (by kernel_rfl) rfl rfl (by kernel_rfl) (by kernel_rfl) rfl rfl rfl rfl rfl (fun R w hm _ => ⟨Holds.of_idx [2] hm, trivial⟩) ?_ ?_ tabOk
    · refine OpTo_pcall rfl rfl rfl rfl rfl (by kernel_rfl) (fun w hm _ => pt_get J ⟨T, cur, A, c, us, last, some ⟨bY, oY, none⟩, yc, y1 ++ y :: y2, xA, xc, xs, nx, RA, Rc, R⟩ y.opn hn w (hm.blk_at (i := 2) rfl) (hm.own_rd (i := 6) rfl)) ?_
      refine VC_sound tabOk 100 ?_
      intro b99 _
      (repeat (first | refine Or.inl ⟨rfl, rfl, ?_⟩ | refine Or.inl ⟨rfl, ?_⟩ | refine Or.inr ?_))
      exact Go_put b99 trivial ⟨rfl, rfl, rfl, rfl, rfl, trivial⟩ (fun _ h => h)
    · intro b99 _
      refine ⟨⟨_, rfl⟩, ?_⟩
      refine Go_aloneM rfl rfl rfl (OpTo_pcall rfl rfl rfl rfl rfl (by kernel_rfl) (fun w hm _ => pt_get J ⟨T, cur, A, c, us, last, some ⟨bY, oY, none⟩, yc, y1 ++ y :: y2, xA, xc, xs, nx, RA, Rc, R⟩ y.opn hn w (hm.blk_at (i := 3) rfl) (hm.own_rd (i := 7) rfl)) ?_)
      refine VC_sound tabOk 100 ?_
      (repeat (first | refine Or.inl ⟨rfl, rfl, ?_⟩ | refine Or.inl ⟨rfl, ?_⟩ | refine Or.inr ?_))
      exact Go_put b99 trivial ⟨rfl, rfl, rfl, rfl, rfl, trivial⟩ (fun _ h => h)
  intro b10 _
  refine VC_sound tabOk 100 ?_
  show Go _ _ _ _
  refine Go_any mixed [] [(0, false), (1, false), (2, false), (4, false), (5, false), (6, false), (8, false), (10, false), (12, false), (7, false), (9, false), (11, false), (3, true), (13, true), (14, false), (15, false)] rfl (by kernel_rfl) (by kernel_rfl) [.blk b10 44 (Tk.encT (Tk.fdT (Tk.tkIs y.opn) us)), .blk b8 44 (Tk.encT (Tk.fdT (Tk.tkIs y.last) us)), rqB J ⟨T, cur, A, c, us, last, some ⟨bY, oY, none⟩, yc, y1 ++ y :: y2, xA, xc, xs, nx, RA, Rc, R⟩] (fun _ => True) (fun _ _ _ h => h) (fun w hm _ => ⟨Holds.of_idx [0, 1, 3] hm, trivial⟩) ?_
  refine VC_sound tabOk 100 ?_
  (repeat (first | refine Or.inl ⟨rfl, rfl, ?_⟩ | refine Or.inl ⟨rfl, ?_⟩ | refine Or.inr ?_))
  refine Go_aloneL rfl rfl (OpTo_tcall [.blk b10 44 (Tk.encT (Tk.fdT (Tk.tkIs y.opn) us)), .blk b8 44 (Tk.encT (Tk.fdT (Tk.tkIs y.last) us)), .blk b7 101 (Cu.encC y)] (rqR J ⟨T, cur, A, c, us, last, some ⟨bY, oY, none⟩, yc, y1 ++ y :: y2, xA, xc, xs, nx, RA, Rc, R⟩) rfl rfl rfl rfl rfl rfl (by kernel_rfl) (fun w hb hm hio hsp k => ps_all J ⟨T, cur, A, c, us, last, some ⟨bY, oY, none⟩, yc, y1 ++ y :: y2, xA, xc, xs, nx, RA, Rc, R⟩ hT w _ k) ?_)
  rintro _ _ ⟨zs, A1, c1, hz, rfl, rfl⟩
  refine And.intro (fun w hm _ => ⟨Holds.of_idx [0, 1, 4] hm, trivial⟩) ?_
  have hzl : zs.length ≤ 10000 := by rw [hz.2.2, Sp.pre3_len]; exact hT
  have ho1 := hf.fd (Tk.tkIs y.last)
  have ho2 := hf.fd (Tk.tkIs y.opn)
  refine VC_sound tabOk 100 ?_
  refine Go_aloneL rfl rfl (OpTo_ncall rfl rfl rfl rfl rfl (by kernel_rfl) (fun w hm _ => Bt.r12_of A1 c1 zs J.br RA Rc R (snT (Tk.fdT (Tk.tkIs y.last) us)) (snT (Tk.fdT (Tk.tkIs y.opn) us)) y.name w (hm.own_rd (i := 3) rfl) hzl ⟨hm.blk_at (i := 12) rfl, hm.own_rd (i := 13) rfl, hR⟩ ⟨bag_fd (i := 9) hm rfl _, by dsimp only; omega⟩ ⟨bag_fd (i := 9) hm rfl _, by dsimp only; omega⟩) ?_)
  rintro _ _ ⟨ys, hy, A4, c4, rfl, rfl⟩
  refine And.intro (fun w hm _ => ⟨Holds.of_idx [1, 2, 5] hm, trivial⟩) ?_
  refine VC_sound tabOk 100 ?_
  exact ⟨_, .inr ⟨g0, ys, A4, c4, ⟨zs, hz, hy⟩, rfl, rfl⟩, fun _ _ h => ((((h.dropAt 1).dropAt 1).dropAt 1).dropAt 1)⟩
theorem BatP.mem {P : RS} {y : Cu.CurV} {ys : List EventM} (h : BatP P y ys) {e : EventM} (he : e ∈ ys) : e ∈ Sp.pre3 P.T.1 P.T.2.1 P.T.2.2 3 := by
  obtain ⟨zs, hz, hy⟩ := h
  exact (hz.1.mem e).2 (List.mem_filter.1 ((hy.1.mem e).2 he)).1
theorem BatP.len {P : RS} {y : Cu.CurV} {ys : List EventM} (h : BatP P y ys) : ys.length ≤ Sp.len3 P.T := by
  obtain ⟨zs, hz, hy⟩ := h
  rw [hy.2.2]
  refine Nat.le_trans (List.length_filter_le _ _) ?_
  rw [hz.2.2, Sp.pre3_len]
  exact Nat.le_refl _

/-! ### Again, Retry -/
set_option maxHeartbeats 1000000 in
theorem pr_again_no (J : RI) (P : RS) (id : Int) (name : ByteArray) (hl : P.ys.length ≤ 1000) (hk : ∀ z ∈ P.ys, z.name ≠ name) (w0 : World) (hfs : List PH) (hm : Mod hfs (rqR J P) w0) :
    Calls Tryz.prog 124 #[pv J.b, .string name, .int .i64 id] w0 fun e w' => ∃ v Rs', e = .returned v ∧ (v = .tuple #[mkE zeroE, .int .i64 4] ∧ Rs' = rqR J P) ∧ Mod hfs Rs' w' ∧ Oth w0 w' := by
  refine enterN (tab := tab) Tryz.func124 rfl Tryz.ntmps124 rfl (args := [_, _, _]) rfl hm ?_
  refine VC_sound tabOk 100 ?_
  intro b6 _
  refine Go_ops rfl (OpTo_tcall [.blk b6 65 (encE zeroE)] (rqR J P) rfl rfl rfl rfl rfl rfl (by kernel_rfl) (fun w hb hm hio hsp k => pr_batch_no J P name hl hk w _ k) ?_)
  rintro _ _ ⟨rfl, rfl⟩
  refine VC_sound tabOk 100 ?_
  refine ⟨fun _ => ?_, fun h => by first | (simp at h; done) | (simp at h; omega) | (simp_all; done)⟩
  (repeat (first | refine Or.inl ⟨rfl, rfl, ?_⟩ | refine Or.inl ⟨rfl, ?_⟩ | refine Or.inr ?_))
  exact ⟨_, ⟨rfl, rfl⟩, fun _ _ h => h.drop (a := [_])⟩
def agP (P : RS) (y : Cu.CurV) (id : Int) (v : Value) : Prop :=
  (y.opn = 0 ∧ v = .tuple #[mkE zeroE, .int .i64 7]) ∨
  (y.opn ≠ 0 ∧ ∃ ys, BatP P y ys ∧ (((∀ e ∈ ys, e.id ≠ id) ∧ v = .tuple #[mkE zeroE, .int .i64 4]) ∨
    ∃ (i : Nat) (e : EventM), ys[i]? = some e ∧ e.id = id ∧ (∀ z ∈ ys.take i, z.id ≠ id) ∧ v = .tuple #[mkE e, .int .i64 0]))
set_option maxHeartbeats 4000000 in
theorem pr_again (J : RI) (P : RS) (id : Int) (y1 y2 : List Cu.CurV) (y : Cu.CurV) (hys : P.ys = y1 ++ y :: y2) (hl : P.ys.length ≤ 1000) (hk : ∀ z ∈ y1, z.name ≠ y.name) (hn : P.us.length ≤ 1000000) (hf : Tk.Fit1 P.us) (hT : Sp.len3 P.T ≤ 10000) (hR : P.R.length ≤ 1000000) (w0 : World) (hfs : List PH) (hm : Mod hfs (rqR J P) w0) :
    Calls Tryz.prog 124 #[pv J.b, .string y.name, .int .i64 id] w0 fun e w' => ∃ v Rs', e = .returned v ∧ (agP P y id v ∧ Rs' = rqR J P) ∧ Mod hfs Rs' w' ∧ Oth w0 w' := by
  refine enterN (tab := tab) Tryz.func124 rfl Tryz.ntmps124 rfl (args := [_, _, _]) rfl hm ?_
  refine VC_sound tabOk 100 ?_
  intro b6 _
  refine Go_ops rfl (OpTo_tcall [.blk b6 65 (encE zeroE)] (rqR J P) rfl rfl rfl rfl rfl rfl (by kernel_rfl) (fun w hb hm hio hsp k => pr_batch J P y1 y2 y hys hl hk hn hf hT hR w _ k) ?_)
  rintro _ _ (⟨g0, rfl, rfl⟩ | ⟨g0, ys, A, c, hB, rfl, rfl⟩)
  · refine VC_sound tabOk 100 ?_
    refine ⟨fun _ => ?_, fun h => by first | (simp at h; done) | (simp at h; omega) | (simp_all; done)⟩
    (repeat (first | refine Or.inl ⟨rfl, rfl, ?_⟩ | refine Or.inl ⟨rfl, ?_⟩ | refine Or.inr ?_))
    exact ⟨_, ⟨.inl ⟨g0, rfl⟩, rfl⟩, fun _ _ h => h.drop (a := [_])⟩
  have hyl := hB.len
  refine VC_sound tabOk 100 ?_
  refine ⟨fun h => by first | (simp at h; done) | (simp at h; omega) | (simp_all; done), fun _ => ?_⟩
  refine Go_loop (σ := Nat) (fun i => [(2, .v (.int .i64 id)), (6, .v (pv b6)), (8, .v (.slice A ys.length c)), (10, .v (.int .i64 i))]) (fun _ => [.blk b6 65 (encE zeroE), own encE 8 65 A c ys] ++ rqR J P) (fun i => i ≤ ys.length ∧ ∀ z ∈ ys.take i, z.id ≠ id) (fun i => ys.length - i) 0 ⟨Nat.zero_le _, by simp⟩ ⟨rfl, rfl, rfl, rfl, trivial⟩ (fun _ h => h) ?_
  rintro i ⟨hi, hne⟩
  by_cases hlt : i < ys.length
  · obtain ⟨e, hge⟩ : ∃ e, ys[i]? = some e := ⟨_, List.getElem?_eq_getElem hlt⟩
    refine Go_with _ (fun w hm _ => hm.own_some (i := 1) rfl (ne_nil_of_lt hlt)) ?_
    rintro ⟨bv, ov, rfl⟩
    refine VC_sound tabOk 100 ?_
    refine ⟨fun _ => ?_, fun h => by first | (simp at h; done) | (simp at h; omega) | (simp_all; done)⟩
    refine ⟨⟨by omega, by omega⟩, ?_⟩
    (repeat (first | refine Or.inl ⟨rfl, rfl, ?_⟩ | refine Or.inl ⟨rfl, ?_⟩ | refine Or.inr ?_))
    refine Go_ops rfl (OpTo_loadPart tabOk encE_is (n := i) (j := 0) (.int .i64 e.id) rfl rfl rfl (fun w hm _ => hm.own_rd (i := 1) rfl) hge rfl (by simp only [addA]; rfl) ?_)
    refine VC_sound tabOk 100 ?_
    refine ⟨fun g => ?_, fun g => ?_⟩
    · refine ⟨⟨by omega, by omega⟩, ?_⟩
      (repeat (first | refine Or.inl ⟨rfl, rfl, ?_⟩ | refine Or.inl ⟨rfl, ?_⟩ | refine Or.inr ?_))
      refine Go_ops rfl (OpTo_loadRow tabOk encE_is (mkE e) rfl rfl rfl rfl rfl (fun h => by first | rfl | cases h) (fun w hm _ => hm.own_rd (i := 1) rfl) hge (by simp only [addA]; rfl) ?_)
      refine VC_sound tabOk 100 ?_
      (repeat (first | refine Or.inl ⟨rfl, rfl, ?_⟩ | refine Or.inl ⟨rfl, ?_⟩ | refine Or.inr ?_))
      exact ⟨_, ⟨.inr ⟨g0, ys, hB, .inr ⟨i, e, hge, of_decide_eq_true g, hne, rfl⟩⟩, rfl⟩, fun _ _ h => h.drop (a := [_, _])⟩
    · refine ⟨_, wrap_i64 (n := (i : Int) + 1) (by omega) (by omega), ?_⟩
      refine Go_fin (i + 1) ⟨hlt, fun z hz => ?_⟩ (by omega) ⟨rfl, rfl, rfl, rfl, trivial⟩ (fun _ h => h)
      rw [List.take_add_one, hge, List.mem_append] at hz
      rcases hz with hz | hz
      · exact hne z hz
      · simp at hz; subst hz; exact of_decide_eq_false g
  obtain rfl : i = ys.length := by omega
  rw [List.take_length] at hne
  refine VC_sound tabOk 100 ?_
  refine ⟨fun h => by first | (simp at h; done) | (simp at h; omega) | (simp_all; done), fun _ => ?_⟩
  (repeat (first | refine Or.inl ⟨rfl, rfl, ?_⟩ | refine Or.inl ⟨rfl, ?_⟩ | refine Or.inr ?_))
  exact ⟨_, ⟨.inr ⟨g0, ys, hB, .inl ⟨hne, rfl⟩⟩, rfl⟩, fun _ _ h => h.drop (a := [_, _])⟩
set_option maxHeartbeats 1000000 in
theorem pr_retry_no (J : RI) (P : RS) (id at_ : Int) (name : ByteArray) (hl : P.ys.length ≤ 1000) (hk : ∀ z ∈ P.ys, z.name ≠ name) (w0 : World) (hfs : List PH) (hm : Mod hfs (rqR J P) w0) :
    Calls Tryz.prog 64 #[pv J.b, .string name, .int .i64 id, .int .i64 at_] w0 fun e w' => ∃ v Rs', e = .returned v ∧ (v = .int .i64 4 ∧ Rs' = rqR J P) ∧ Mod hfs Rs' w' ∧ Oth w0 w' := by
  refine enterN (tab := tab) Tryz.func64 rfl Tryz.ntmps64 rfl (args := [_, _, _, _]) rfl hm ?_
  refine VC_sound tabOk 100 ?_
  refine Go_ops rfl (OpTo_tcall [] (rqR J P) rfl rfl rfl rfl rfl rfl (by kernel_rfl) (fun w hb hm hio hsp k => pr_again_no J P id name hl hk w _ k) ?_)
  rintro _ _ ⟨rfl, rfl⟩
  refine VC_sound tabOk 100 ?_
  intro b9 _
  (repeat (first | refine Or.inl ⟨rfl, rfl, ?_⟩ | refine Or.inl ⟨rfl, ?_⟩ | refine Or.inr ?_))
  refine ⟨fun _ => ?_, fun h => by first | (simp at h; done) | (simp at h; omega) | (simp_all; done)⟩
  exact ⟨_, ⟨rfl, rfl⟩, fun _ _ h => h.drop (a := [_])⟩
def retP (J : RI) (P : RS) (y : Cu.CurV) (id at_ : Int) : Value → List Res → Prop := fun v Rs =>
  (y.opn = 0 ∧ v = .int .i64 7 ∧ Rs = rqR J P) ∨
  (y.opn ≠ 0 ∧ ∃ ys, BatP P y ys ∧ (((∀ e ∈ ys, e.id ≠ id) ∧ v = .int .i64 4 ∧ Rs = rqR J P) ∨
    ∃ (i : Nat) (e : EventM) (A' : Option Addr) (c' : Nat) (us : List Rt.ItemM), ys[i]? = some e ∧ e.id = id ∧ (∀ z ∈ ys.take i, z.id ≠ id) ∧ v = .int .i64 (Rt.addE P.xs e y.name) ∧ Rt.AddT P.xs e y.name at_ us ∧ Rs = rqR J { P with xA := A', xc := c', xs := us }))
set_option maxHeartbeats 2000000 in
theorem pr_retry (J : RI) (P : RS) (id at_ : Int) (y1 y2 : List Cu.CurV) (y : Cu.CurV) (hys : P.ys = y1 ++ y :: y2) (hl : P.ys.length ≤ 1000) (hk : ∀ z ∈ y1, z.name ≠ y.name) (hn : P.us.length ≤ 1000000) (hf : Tk.Fit1 P.us) (hT : Sp.len3 P.T ≤ 10000) (hR : P.R.length ≤ 1000000) (hxl : P.xs.length ≤ 1000) (hri : Rt.RiseT P.xs) (htr : ∀ e ∈ Sp.pre3 P.T.1 P.T.2.1 P.T.2.2 3, 0 ≤ e.tries ∧ e.tries ≤ 2147483647) (w0 : World) (hfs : List PH) (hm : Mod hfs (rqR J P) w0) :
    Calls Tryz.prog 64 #[pv J.b, .string y.name, .int .i64 id, .int .i64 at_] w0 fun e w' => ∃ v Rs', e = .returned v ∧ retP J P y id at_ v Rs' ∧ Mod hfs Rs' w' ∧ Oth w0 w' := by
  refine enterN (tab := tab) Tryz.func64 rfl Tryz.ntmps64 rfl (args := [_, _, _, _]) rfl hm ?_
  refine VC_sound tabOk 100 ?_
  refine Go_ops rfl (OpTo_tcall [] (rqR J P) rfl rfl rfl rfl rfl rfl (by kernel_rfl) (fun w hb hm hio hsp k => pr_again J P id y1 y2 y hys hl hk hn hf hT hR w _ k) ?_)
  rintro _ _ ⟨⟨g0, rfl⟩ | ⟨g0, ys, hB, ⟨hne, rfl⟩ | ⟨i, e, hge, hid, hne, rfl⟩⟩, rfl⟩
  · refine VC_sound tabOk 100 ?_
    intro b9 _
    (repeat (first | refine Or.inl ⟨rfl, rfl, ?_⟩ | refine Or.inl ⟨rfl, ?_⟩ | refine Or.inr ?_))
    refine ⟨fun _ => ?_, fun h => by first | (simp at h; done) | (simp at h; omega) | (simp_all; done)⟩
    exact ⟨_, .inl ⟨g0, rfl, rfl⟩, fun _ _ h => h.drop (a := [_])⟩
  · refine VC_sound tabOk 100 ?_
    intro b9 _
    (repeat (first | refine Or.inl ⟨rfl, rfl, ?_⟩ | refine Or.inl ⟨rfl, ?_⟩ | refine Or.inr ?_))
    refine ⟨fun _ => ?_, fun h => by first | (simp at h; done) | (simp at h; omega) | (simp_all; done)⟩
    exact ⟨_, .inr ⟨g0, ys, hB, .inl ⟨hne, rfl, rfl⟩⟩, fun _ _ h => h.drop (a := [_])⟩
  · refine VC_sound tabOk 100 ?_
    intro b9 _
    (repeat (first | refine Or.inl ⟨rfl, rfl, ?_⟩ | refine Or.inl ⟨rfl, ?_⟩ | refine Or.inr ?_))
    refine ⟨fun h => by first | (simp at h; done) | (simp at h; omega) | (simp_all; done), fun _ => ?_⟩
    refine Go_res (.blk b9 65 (encE e) :: rqR J P) (fun _ h => h) ?_
    show Go _ _ _ _
    refine Go_any mixed [6] [(0, false), (1, false), (2, false), (4, false), (5, false), (3, false), (6, true), (7, false)] rfl (by kernel_rfl) (by kernel_rfl) [.blk b9 65 (encE e)] (fun _ => True) (fun _ _ _ h => h) (fun w hm _ => ⟨Holds.of_idx [0] hm, trivial⟩) ?_
    refine VC_sound tabOk 100 ?_
    (repeat (first | refine Or.inl ⟨rfl, rfl, ?_⟩ | refine Or.inl ⟨rfl, ?_⟩ | refine Or.inr ?_))
    refine Go_aloneM rfl rfl rfl (OpTo_tcall [.blk b9 65 (encE e)] (rqR J P) rfl rfl rfl rfl rfl rfl (by kernel_rfl) (fun w hb hm hio hsp k => ps_radd J P e y.name at_ hxl (htr e (hB.mem (List.mem_of_getElem? hge))) hri w _ k) ?_)
    rintro _ _ ⟨A', c', us, rfl, hA, rfl⟩
    refine VC_sound tabOk 100 ?_
    exact ⟨_, .inr ⟨g0, ys, hB, .inr ⟨i, e, A', c', us, hge, hid, hne, rfl, hA, rfl⟩⟩, fun _ _ h => h.drop (a := [_])⟩
end Go.Proofs.YthpcahgdobnljaaGreat

/- What the functions of layer 15's reference do: Maint Free. -/
set_option maxRecDepth 100000
set_option autoImplicit false
set_option linter.unusedVariables false
set_option linter.unusedSimpArgs false
namespace Go.Proofs.YthpcahgdobnljaaGreat
open Go.RX Go Go.RowKit


abbrev RS.mt (P : RS) (x now : Int) (A' : Option Addr) (c' : Nat) (A2 : Option Addr) (c2 : Nat) : RS := { P with T := Sp.set3 P.T P.cur ⟨A2, c2, (Sp.get3 P.T P.cur).xs ++ mtL x (Rt.dueL now P.xs)⟩, xA := A', xc := c', xs := P.xs.drop (Rt.dueL now P.xs).length }
set_option maxHeartbeats 4000000 in
theorem pr_maint (J : RI) (P : RS) (x now : Int) (hc : P.cur < 3) (hl : Sp.len3 P.T ≤ 10000) (hxl : P.xs.length ≤ 1000) (hri : Rt.RiseT P.xs) (w0 : World) (hfs : List PH) (hm : Mod hfs (rqR J P) w0) :
    Calls Tryz.prog 65 #[pv J.b, .int .i64 x, .int .i64 now] w0 fun e w' => ∃ v Rs', e = .returned v ∧ (∃ A1 c1 A' c' A2 c2, v = .slice A1 (mtL x (Rt.dueL now P.xs)).length c1 ∧ Rs' = own encE 8 65 A1 c1 (mtL x (Rt.dueL now P.xs)) :: rqR J (P.mt x now A' c' A2 c2)) ∧ Mod hfs Rs' w' ∧ Oth w0 w' := by
  have hdl := Rt.dueL_len now P.xs
  refine enterN (tab := tab) Tryz.func65 rfl Tryz.ntmps65 rfl (args := [_, _, _]) rfl hm ?_
  refine VC_sound tabOk 100 ?_
  refine Go_ops rfl (OpTo_tcall [] (rqR J P) rfl rfl rfl rfl rfl rfl (by kernel_rfl) (fun w hb hm hio hsp k => ps_rtake J P now (by omega) hri w _ k) ?_)
  rintro _ _ ⟨A1, c1, A', c', rfl, rfl⟩
  obtain ⟨dl, hdl2⟩ : ∃ dl, Rt.dueL now P.xs = dl := ⟨_, rfl⟩
  simp only [RS.mt, hdl2] at hdl ⊢
  refine VC_sound tabOk 100 ?_
  refine Go_loop (σ := Nat × Option Addr × Nat × Option Addr × Nat) (fun u => [(0, .v (pv J.b)), (1, .v (.int .i64 x)), (7, .v (.slice A1 dl.length c1)), (8, .v (.slice u.2.1 ((mtL x dl).take u.1).length u.2.2.1)), (9, .v (.int .i64 u.1))]) (fun u => own encE 8 65 u.2.1 u.2.2.1 ((mtL x dl).take u.1) :: own encE 8 65 A1 c1 dl :: rqR J { P with T := Sp.set3 P.T P.cur ⟨u.2.2.2.1, u.2.2.2.2, (Sp.get3 P.T P.cur).xs ++ (mtL x dl).take u.1⟩, xA := A', xc := c', xs := P.xs.drop dl.length }) (fun u => u.1 ≤ dl.length) (fun u => dl.length - u.1) (0, none, 0, (Sp.get3 P.T P.cur).A, (Sp.get3 P.T P.cur).c) (Nat.zero_le _) ⟨rfl, rfl, rfl, rfl, rfl, trivial⟩ (fun _ h => by
    have e1 : Sp.set3 P.T P.cur ⟨(Sp.get3 P.T P.cur).A, (Sp.get3 P.T P.cur).c, (Sp.get3 P.T P.cur).xs ++ (mtL x dl).take 0⟩ = P.T := by rw [List.take_zero, List.append_nil]; exact set3_self _ _ hc
    dsimp only
    rw [e1]
    exact h.own_nil (enc := encE) (k := 8) (T := 65) none) ?_
  rintro ⟨i, Ao, co, A2, c2⟩ hi
  dsimp only at hi ⊢
  have htl : ((mtL x dl).take i).length = i := by rw [List.length_take, mtL_len]; omega
  by_cases hlt : i < dl.length
  rotate_left
  · have he : i = dl.length := by omega
    subst he
    have e1 : (mtL x dl).take dl.length = mtL x dl := List.take_of_length_le (by rw [mtL_len]; exact Nat.le_refl _)
    rw [e1]
    refine VC_sound tabOk 100 ?_
    refine ⟨fun h => by first | (simp at h; done) | (simp at h; omega) | (simp_all; done), fun _ => ?_⟩
    exact ⟨_, ⟨Ao, co, A', c', A2, c2, rfl, rfl⟩, fun _ _ h => h.dropAt 1⟩
  obtain ⟨e, hge⟩ : ∃ e, dl[i]? = some e := ⟨_, List.getElem?_eq_getElem hlt⟩
  have hme : (mtL x dl)[i]? = some { e with tx := x } := by simp [mtL, hge]
  refine Go_with _ (fun w hm _ => hm.own_some (i := 1) rfl (ne_nil_of_lt hlt)) ?_
  rintro ⟨bv, ov, rfl⟩
  refine VC_sound tabOk 100 ?_
  refine ⟨fun _ => ?_, fun h => by first | (simp at h; done) | (simp at h; omega) | (simp_all; done)⟩
  refine ⟨⟨by omega, by omega⟩, ?_⟩
  (repeat (first | refine Or.inl ⟨rfl, rfl, ?_⟩ | refine Or.inl ⟨rfl, ?_⟩ | refine Or.inr ?_))
  refine Go_ops rfl (OpTo_loadRow tabOk encE_is (mkE e) rfl rfl rfl rfl rfl (fun h => by first | rfl | cases h) (fun w hm _ => hm.own_rd (i := 1) rfl) hge (by simp only [addA]; rfl) ?_)
  refine VC_sound tabOk 100 ?_
  intro b10 _
  (repeat (first | refine Or.inl ⟨rfl, rfl, ?_⟩ | refine Or.inl ⟨rfl, ?_⟩ | refine Or.inr ?_))
  intro b30 _
  have e3 : (mtL x dl).take i ++ [{ e with tx := x }] = (mtL x dl).take (i + 1) := by rw [List.take_add_one, hme]; rfl
  have hl3 : Sp.len3 (Sp.set3 P.T P.cur ⟨A2, c2, (Sp.get3 P.T P.cur).xs ++ (mtL x dl).take i⟩) = Sp.len3 P.T + i := Sp.sum_set3 _ P.T P.cur _ i hc (by simp [mtL]; omega)
  have hq3 : Sp.get3 (Sp.set3 P.T P.cur ⟨A2, c2, (Sp.get3 P.T P.cur).xs ++ (mtL x dl).take i⟩) P.cur = ⟨A2, c2, (Sp.get3 P.T P.cur).xs ++ (mtL x dl).take i⟩ := by rw [Sp.get_set3 _ _ _ _ hc hc, if_pos rfl]
  show Go _ _ _ _
  refine Go_ops rfl (OpTo_append tabOk encE_is (ys := [({ e with tx := x } : EventM)]) (i := 2) rfl rfl rfl rfl rfl rfl rfl rfl rfl rfl rfl (fun w hm _ => hm.blk_rd (i := 0) rfl) (by simp; omega) (by simp; omega) (fun A5 c5 => ?_))
  refine VC_sound tabOk 100 ?_
  refine Go_res (.blk b10 65 (encE { e with tx := x }) :: own encE 8 65 A5 c5 ((mtL x dl).take i ++ [({ e with tx := x } : EventM)]) :: own encE 8 65 (some ⟨bv, ov, none⟩) c1 dl :: rqR J { P with T := Sp.set3 P.T P.cur ⟨A2, c2, (Sp.get3 P.T P.cur).xs ++ (mtL x dl).take i⟩, xA := A', xc := c', xs := P.xs.drop dl.length }) (fun _ h => h.dropAt 0) ?_
  show Go _ _ _ _
  refine Go_any mixed [9] [(0, false), (1, false), (2, false), (3, false), (4, false), (5, false), (6, false), (7, false), (8, false), (9, true)] rfl (by kernel_rfl) (by kernel_rfl) [.blk b10 65 (encE { e with tx := x }), rqB J { P with T := Sp.set3 P.T P.cur ⟨A2, c2, (Sp.get3 P.T P.cur).xs ++ (mtL x dl).take i⟩, xA := A', xc := c', xs := P.xs.drop dl.length }] (fun _ => True) (fun _ _ _ h => h) (fun w hm _ => ⟨Holds.of_idx [0, 3] hm, trivial⟩) ?_
  refine VC_sound tabOk 100 ?_
  (repeat (first | refine Or.inl ⟨rfl, rfl, ?_⟩ | refine Or.inl ⟨rfl, ?_⟩ | refine Or.inr ?_))
  refine Go_aloneM rfl rfl rfl (OpTo_tcall [.blk b10 65 (encE { e with tx := x }), own encE 8 65 A5 c5 ((mtL x dl).take i ++ [({ e with tx := x } : EventM)]), own encE 8 65 (some ⟨bv, ov, none⟩) c1 dl] (rqR J { P with T := Sp.set3 P.T P.cur ⟨A2, c2, (Sp.get3 P.T P.cur).xs ++ (mtL x dl).take i⟩, xA := A', xc := c', xs := P.xs.drop dl.length }) rfl rfl rfl rfl rfl rfl (by kernel_rfl) (fun w hb hm hio hsp k => ps_addTo J { P with T := Sp.set3 P.T P.cur ⟨A2, c2, (Sp.get3 P.T P.cur).xs ++ (mtL x dl).take i⟩, xA := A', xc := c', xs := P.xs.drop dl.length } P.cur { e with tx := x } hc (by dsimp only; omega) w _ k) ?_)
  rintro _ _ ⟨rfl, A3, c3, rfl⟩
  refine VC_sound tabOk 100 ?_
  refine ⟨_, wrap_i64 (n := (i : Int) + 1) (by omega) (by omega), ?_⟩
  refine Go_fin (i + 1, A5, c5, A3, c3) (by dsimp only; omega) (by dsimp only; omega) ⟨rfl, rfl, rfl, ?_, rfl, trivial⟩ (fun _ h => ?_)
  · show Value.slice _ _ _ = Value.slice _ _ _
    congr 1
    rw [← e3]; simp
  · dsimp only at h ⊢
    rw [hq3, set3_set3] at h
    rw [← e3, ← List.append_assoc]
    exact h.dropAt 0

/-! ### Free -/
theorem rq_rd {X : Res} {J : RI} {P : RS} {hfs : List PH} {w : World} (hm : Mod hfs (X :: rqR J P) w) (i : Nat) (hi : i < 3) : RdW w (Sp.get3 P.T i).A ((Sp.get3 P.T i).xs.flatMap encE) := by
  have : i = 0 ∨ i = 1 ∨ i = 2 := by omega
  rcases this with rfl | rfl | rfl
  · exact hm.own_rd (i := 2) rfl
  · exact hm.own_rd (i := 3) rfl
  · exact hm.own_rd (i := 4) rfl
def wantP (us : List Tk.TickM) (ys : List Cu.CurV) : List Bt.SnM := (ys.map fun y => snT (Tk.fdT (Tk.tkIs y.last) us)) ++ (match us.getLast? with
  | some t => [snT t]
  | none => [])
set_option maxHeartbeats 4000000 in
theorem pr_free (J : RI) (P : RS) (hyl : P.ys.length ≤ 12) (hf : Tk.Fit1 P.us) (hn : P.us.length ≤ 1000000) (hc : P.cur < 3) (hT : Sp.len3 P.T ≤ 10000) (hR : P.R.length ≤ 1000000) (w0 : World) (hfs : List PH) (hm : Mod hfs (rqR J P) w0) :
    Calls Tryz.prog 67 #[pv J.b] w0 fun e w' => ∃ v Rs', e = .returned v ∧ (v = .bool (Bt.freeB (rState P.R) (wantP P.us P.ys) (Sp.get3 P.T (Sp.nxt P.cur)).xs) ∧ Rs' = rqR J P) ∧ Mod hfs Rs' w' ∧ Oth w0 w' := by
  have hl3 := Sp.len3_le P.T (Sp.nxt P.cur) (by unfold Sp.nxt; omega)
  obtain ⟨T, cur, A, c, us, last, yA, yc, ys, xA, xc, xs, nx, RA, Rc, R⟩ := P
  dsimp only at hyl hf hn hc hT hR hl3
  obtain ⟨tb, htb⟩ : ∃ tb, tb = Sp.get3 T (Sp.nxt cur) := ⟨_, rfl⟩
  rw [← htb] at hl3
  refine enterN (tab := tab) Tryz.func67 rfl Tryz.ntmps67 rfl (args := [_]) rfl hm ?_
  refine VC_sound tabOk 100 ?_
  refine Go_loop (σ := Nat × Option Addr × Nat) (fun u => [(0, .v (pv J.b)), (3, .v (.slice u.2.1 u.1 u.2.2)), (4, .v (.int .i64 u.1))]) (fun u => own Bt.encS 2 42 u.2.1 u.2.2 ((ys.take u.1).map fun y => snT (Tk.fdT (Tk.tkIs y.last) us)) :: rqR J ⟨T, cur, A, c, us, last, yA, yc, ys, xA, xc, xs, nx, RA, Rc, R⟩) (fun u => u.1 ≤ ys.length) (fun u => ys.length - u.1) (0, none, 0) (Nat.zero_le _) ⟨rfl, rfl, rfl, trivial⟩ (fun _ h => h.own_nil none) ?_
  rintro ⟨i, A3, c3⟩ hi
  dsimp only at hi ⊢
  have hsl : ((ys.take i).map fun y => snT (Tk.fdT (Tk.tkIs y.last) us)).length = i := by rw [List.length_map, List.length_take]; omega
  by_cases hlt : i < ys.length
  · obtain ⟨y, hgy⟩ : ∃ y, ys[i]? = some y := ⟨_, List.getElem?_eq_getElem hlt⟩
    refine Go_with _ (fun w hm _ => hm.own_some (i := 7) rfl (ne_nil_of_lt hlt)) ?_
    rintro ⟨bY, oY, rfl⟩
    refine VC_sound tabOk 100 ?_
    (repeat (first | refine Or.inl ⟨rfl, rfl, ?_⟩ | refine Or.inl ⟨rfl, ?_⟩ | refine Or.inr ?_))
    refine ⟨fun _ => ?_, fun h => by first | (simp at h; done) | (simp at h; omega) | (simp_all; done)⟩
    refine Go_cut (σ := Nat) (fun u => [(0, .v (pv J.b)), (3, .v (.slice A3 i c3)), (4, .v (.int .i64 i)), (5, .v (pv u))]) (fun u => .blk u 44 (Tk.encT (Tk.fdT (Tk.tkIs y.last) us)) :: own Bt.encS 2 42 A3 c3 ((ys.take i).map fun y => snT (Tk.fdT (Tk.tkIs y.last) us)) :: rqR J ⟨T, cur, A, c, us, last, some ⟨bY, oY, none⟩, yc, ys, xA, xc, xs, nx, RA, Rc, R⟩) (fun _ => True) ?_ ?_
    · refine Go_any mixed [12, 17] [(0, false), (1, false), (2, false), (3, false), (4, false), (5, false), (6, false), (8, false), (7, false), (9, false), (10, false), (11, false), (99, false), (99, false), (99, false), (99, false), (99, false), (99, false), (99, false)] rfl (by kernel_rfl) (by kernel_rfl) [rqB J ⟨T, cur, A, c, us, last, some ⟨bY, oY, none⟩, yc, ys, xA, xc, xs, nx, RA, Rc, R⟩] (fun w => RdW w (some ⟨bY, oY, none⟩) (ys.flatMap Cu.encC)) (fun w w' hk h => h.old hk) (fun w hm _ => ⟨Holds.of_idx [1] hm, by exact Mod.own_rd (k := 3) (T := 101) (c := yc) (i := 7) hm rfl⟩) ?_
      refine VC_sound tabOk 100 ?_
      (repeat (first | refine Or.inl ⟨rfl, rfl, ?_⟩ | refine Or.inl ⟨rfl, ?_⟩ | refine Or.inr ?_))
      refine ⟨⟨by omega, by show (i : Int) < (ys.length : Int); omega⟩, ?_⟩
      (repeat (first | refine Or.inl ⟨rfl, rfl, ?_⟩ | refine Or.inl ⟨rfl, ?_⟩ | refine Or.inr ?_))
      refine Go_first (v := .int .i64 y.last) rfl rfl rfl rfl (fun w _ hw => rxLoadPart tabOk rfl Cu.encC_is hw hgy (off := 1) rfl (by simp only [addA]; rfl)) ?_
      refine Go_forkA 12 16 [(13, false), (14, false), (15, false), (16, true), (17, true), (18, false)] [(12, true), (13, false), (14, false), (15, false), (17, true), (18, false)] (by kernel_rfl) rfl rfl (by kernel_rfl) (by kernel_rfl) rfl rfl rfl rfl rfl (fun R w hm _ => ⟨Holds.of_idx [2] hm, by exact Mod.own_rd (k := 3) (T := 101) (c := yc) (i := 8) hm rfl⟩) ?_ ?_ tabOk
      · refine OpTo_pcall rfl rfl rfl rfl rfl (by kernel_rfl) (fun w hm _ => pt_get J ⟨T, cur, A, c, us, last, some ⟨bY, oY, none⟩, yc, ys, xA, xc, xs, nx, RA, Rc, R⟩ y.last hn w (hm.blk_at (i := 1) rfl) (hm.own_rd (i := 5) rfl)) ?_
        refine VC_sound tabOk 100 ?_
        intro b99 _
        (repeat (first | refine Or.inl ⟨rfl, rfl, ?_⟩ | refine Or.inl ⟨rfl, ?_⟩ | refine Or.inr ?_))
        exact Go_put b99 trivial ⟨rfl, rfl, rfl, rfl, trivial⟩ (fun _ h => h)
      · intro b99 _
        refine ⟨⟨_, rfl⟩, ?_⟩
        refine Go_aloneM rfl rfl rfl (OpTo_pcall rfl rfl rfl rfl rfl (by kernel_rfl) (fun w hm _ => pt_get J ⟨T, cur, A, c, us, last, some ⟨bY, oY, none⟩, yc, ys, xA, xc, xs, nx, RA, Rc, R⟩ y.last hn w (hm.blk_at (i := 2) rfl) (hm.own_rd (i := 6) rfl)) ?_)
        refine VC_sound tabOk 100 ?_
        (repeat (first | refine Or.inl ⟨rfl, rfl, ?_⟩ | refine Or.inl ⟨rfl, ?_⟩ | refine Or.inr ?_))
        exact Go_put b99 trivial ⟨rfl, rfl, rfl, rfl, trivial⟩ (fun _ h => h)
    intro b5 _
    refine VC_sound tabOk 100 ?_
    (repeat (first | refine Or.inl ⟨rfl, rfl, ?_⟩ | refine Or.inl ⟨rfl, ?_⟩ | refine Or.inr ?_))
    intro b33 _
    show Go _ _ _ _
    refine Go_ops rfl (OpTo_append tabOk Bt.encS_is (ys := [snT (Tk.fdT (Tk.tkIs y.last) us)]) (i := 2) rfl rfl rfl rfl rfl rfl rfl rfl rfl hsl.symm rfl (fun w hm _ => hm.blk_rd (i := 0) rfl) (by rw [hsl]; simp; omega) (by rw [hsl]; simp; omega) (fun A5 c5 => ?_))
    refine VC_sound tabOk 100 ?_
    refine ⟨_, wrap_i64 (n := (i : Int) + 1) (by omega) (by omega), ?_⟩
    have htk : ((ys.take (i + 1)).map fun y => snT (Tk.fdT (Tk.tkIs y.last) us)) = ((ys.take i).map fun y => snT (Tk.fdT (Tk.tkIs y.last) us)) ++ [snT (Tk.fdT (Tk.tkIs y.last) us)] := by rw [List.take_add_one, hgy, List.map_append]; rfl
    refine Go_fin (i + 1, A5, c5) (by dsimp only; omega) (by dsimp only; omega) ⟨rfl, rfl, rfl, trivial⟩ (fun _ h => ?_)
    dsimp only; rw [htk]
    exact (h.dropAt 0).dropAt 0
  have he : i = ys.length := by omega
  subst he
  rw [List.take_length] at hsl ⊢
  obtain ⟨sn, hsn⟩ : ∃ sn, sn = ys.map fun y => snT (Tk.fdT (Tk.tkIs y.last) us) := ⟨_, rfl⟩
  rw [← hsn] at hsl ⊢
  have hsd : ∀ {Rs : List Res} {w : World}, Mod hfs Rs w → Rs[6]? = some (ro (Tk.tkBag us)) → ∀ s ∈ sn, s.rd w := fun hm hi s hs => by
    rw [hsn] at hs
    obtain ⟨y, hy, rfl⟩ := List.mem_map.1 hs
    exact ⟨bag_fd hm hi _, by have := hf.fd (Tk.tkIs y.last); dsimp only; omega⟩
  cases hL : us.getLast? with
  | none =>
    have hu : us = [] := List.getLast?_eq_none_iff.1 hL
    have hw : wantP us ys = sn := by rw [wantP, hL, hsn]; simp
    have hlen : sn.length ≤ 10000 := by omega
    have hrd : ∀ {w : World}, Mod hfs (own Bt.encS 2 42 A3 c3 sn :: rqR J ⟨T, cur, A, c, us, last, yA, yc, ys, xA, xc, xs, nx, RA, Rc, R⟩) w → ∀ s ∈ sn, s.rd w := fun hm => hsd hm rfl
    refine VC_sound tabOk 100 ?_
    (repeat (first | refine Or.inl ⟨rfl, rfl, ?_⟩ | refine Or.inl ⟨rfl, ?_⟩ | refine Or.inr ?_))
    refine ⟨fun h => by first | (simp at h; done) | (simp at h; omega) | (simp_all; done), fun _ => ?_⟩
    (repeat (first | refine Or.inl ⟨rfl, rfl, ?_⟩ | refine Or.inl ⟨rfl, ?_⟩ | refine Or.inr ?_))
    refine ⟨fun h => absurd (of_decide_eq_true h) (by rw [hu]; simp), fun _ => ?_⟩
    show Go _ _ _ _
    refine Go_any mixed [] [(0, false), (1, false), (2, false), (4, false), (5, false), (6, false), (8, false), (7, false), (3, true), (9, true), (10, false)] rfl (by kernel_rfl) (by kernel_rfl) [rqB J ⟨T, cur, A, c, us, last, yA, yc, ys, xA, xc, xs, nx, RA, Rc, R⟩] (fun _ => True) (fun _ _ _ h => h) (fun w hm _ => ⟨Holds.of_idx [1] hm, trivial⟩) ?_
    refine VC_sound tabOk 100 ?_
    (repeat (first | refine Or.inl ⟨rfl, rfl, ?_⟩ | refine Or.inl ⟨rfl, ?_⟩ | refine Or.inr ?_))
    refine Go_aloneL rfl rfl (OpTo_tcall (Qc := fun v Rs' => v = tb.v ∧ Rs' = rqR J ⟨T, cur, A, c, us, last, yA, yc, ys, xA, xc, xs, nx, RA, Rc, R⟩) [own Bt.encS 2 42 A3 c3 sn] (rqR J ⟨T, cur, A, c, us, last, yA, yc, ys, xA, xc, xs, nx, RA, Rc, R⟩) rfl rfl rfl rfl rfl rfl (by kernel_rfl) (fun w hb hm hio hsp k => by rw [htb]; exact ps_next J ⟨T, cur, A, c, us, last, yA, yc, ys, xA, xc, xs, nx, RA, Rc, R⟩ hc w _ k) ?_)
    rintro _ _ ⟨rfl, rfl⟩
    refine And.intro (fun w hm _ => ⟨Holds.of_idx [1] hm, trivial⟩) ?_
    refine VC_sound tabOk 100 ?_
    refine Go_aloneL rfl rfl (OpTo_pcall (v := .bool (Bt.freeB (rState R) (sn) tb.xs)) rfl rfl rfl rfl rfl (by kernel_rfl) (fun w hm _ => by have h := Bt.r12_free tb.A tb.c tb.xs J.br RA Rc R A3 c3 (sn) w (by rw [htb]; exact rq_rd hm (Sp.nxt cur) (by unfold Sp.nxt; omega)) (Nat.le_trans hl3 hT) ⟨hm.blk_at (i := 9) rfl, hm.own_rd (i := 10) rfl, hR⟩ (hm.own_rd (i := 0) rfl) hlen (fun s hs => hrd hm s hs); rw [hsl] at h; exact h) ?_)
    refine And.intro (fun w hm _ => ⟨Holds.of_idx [1] hm, trivial⟩) ?_
    refine VC_sound tabOk 100 ?_
    exact ⟨_, ⟨by show _ = Value.bool (Bt.freeB (rState R) (wantP us ys) (Sp.get3 T (Sp.nxt cur)).xs); rw [hw, htb]; rfl, rfl⟩, fun _ _ h => h.dropAt 0⟩
  | some t =>
    have hgt : us[us.length - 1]? = some t := by rw [← List.getLast?_eq_getElem?]; exact hL
    have hul := (List.getElem?_eq_some_iff.1 hgt).1
    have hidx : ((us.length : Int) - 1).toNat = us.length - 1 := by omega
    have htf := hf t (List.mem_of_getElem? hgt)
    have hw : wantP us ys = sn ++ [snT t] := by rw [wantP, hL, hsn]
    have hlen : (sn ++ [snT t]).length ≤ 10000 := by simp; omega
    refine Go_with _ (fun w hm _ => hm.own_some (i := 5) rfl (ne_nil_of_lt (by omega : 0 < us.length))) ?_
    rintro ⟨bT, oT, rfl⟩
    have hrd : ∀ {As : Option Addr} {cs : Nat} {w : World}, Mod hfs (own Bt.encS 2 42 As cs (sn ++ [snT t]) :: rqR J ⟨T, cur, some ⟨bT, oT, none⟩, c, us, last, yA, yc, ys, xA, xc, xs, nx, RA, Rc, R⟩) w → ∀ s ∈ sn ++ [snT t], s.rd w := fun hm s hs => by
      rcases List.mem_append.1 hs with hs | hs
      · exact hsd hm rfl s hs
      · simp at hs; subst hs
        exact ⟨hm.ro_rd (i := 6) rfl (List.mem_map.2 ⟨t, List.mem_of_getElem? hgt, rfl⟩), by have := htf.2; dsimp only; omega⟩
    refine VC_sound tabOk 100 ?_
    (repeat (first | refine Or.inl ⟨rfl, rfl, ?_⟩ | refine Or.inl ⟨rfl, ?_⟩ | refine Or.inr ?_))
    refine ⟨fun h => by first | (simp at h; done) | (simp at h; omega) | (simp_all; done), fun _ => ?_⟩
    (repeat (first | refine Or.inl ⟨rfl, rfl, ?_⟩ | refine Or.inl ⟨rfl, ?_⟩ | refine Or.inr ?_))
    refine ⟨fun _ => ?_, fun h => absurd (of_decide_eq_false h) (fun hh => hh (by show (0 : Int) < (us.length : Int); omega))⟩
    show Go _ _ _ _
    refine Go_any mixed [17] [(0, false), (1, false), (2, false), (3, false), (4, false), (6, false), (7, false), (8, false), (9, false), (5, false), (10, false), (11, false), (12, false), (13, false), (14, false), (15, false), (16, true), (17, true), (18, false)] rfl (by kernel_rfl) (by kernel_rfl) [rqB J ⟨T, cur, some ⟨bT, oT, none⟩, c, us, last, yA, yc, ys, xA, xc, xs, nx, RA, Rc, R⟩] (fun w => RdW w (some ⟨bT, oT, none⟩) (us.flatMap Tk.encT)) (fun w w' hk h => h.old hk) (fun w hm _ => ⟨Holds.of_idx [1] hm, by exact Mod.own_rd (k := 4) (T := 44) (c := c) (i := 5) hm rfl⟩) ?_
    refine VC_sound tabOk 100 ?_
    (repeat (first | refine Or.inl ⟨rfl, rfl, ?_⟩ | refine Or.inl ⟨rfl, ?_⟩ | refine Or.inr ?_))
    refine ⟨_, wrap_i64 (n := (us.length : Int) - 1) (by omega) (by omega), ?_⟩
    refine ⟨⟨by omega, by show (us.length : Int) - 1 < (us.length : Int); omega⟩, ?_⟩
    (repeat (first | refine Or.inl ⟨rfl, rfl, ?_⟩ | refine Or.inl ⟨rfl, ?_⟩ | refine Or.inr ?_))
    refine Go_first (v := snV t.mx t.A t.op.length t.c) rfl rfl rfl rfl (fun w _ hw => rxLoadPart tabOk rfl Tk.encT_is hw hgt (off := 1) rfl (by rw [show us.length - 1 = ((us.length : Int) - 1).toNat from hidx.symm]; simp only [addA] <;> rfl)) ?_
    refine VC_sound tabOk 100 ?_
    intro b61 _
    refine Go_aloneM rfl rfl rfl (OpTo_append tabOk Bt.encS_is (ys := [snT t]) (i := 1) rfl rfl rfl rfl rfl rfl rfl rfl rfl hsl.symm rfl (fun w hm _ => hm.blk_rd (i := 0) rfl) (by rw [hsl]; simp; omega) (by rw [hsl]; simp; omega) (fun A5 c5 => ?_))
    refine VC_sound tabOk 100 ?_
    refine Go_res (own Bt.encS 2 42 A5 c5 (sn ++ [snT t]) :: rqR J ⟨T, cur, some ⟨bT, oT, none⟩, c, us, last, yA, yc, ys, xA, xc, xs, nx, RA, Rc, R⟩) (fun _ h => h.dropAt 0) ?_
    show Go _ _ _ _
    refine Go_any mixed [] [(0, false), (1, false), (2, false), (4, false), (5, false), (6, false), (8, false), (7, false), (3, true), (9, true), (10, false)] rfl (by kernel_rfl) (by kernel_rfl) [rqB J ⟨T, cur, some ⟨bT, oT, none⟩, c, us, last, yA, yc, ys, xA, xc, xs, nx, RA, Rc, R⟩] (fun _ => True) (fun _ _ _ h => h) (fun w hm _ => ⟨Holds.of_idx [1] hm, trivial⟩) ?_
    refine VC_sound tabOk 100 ?_
    (repeat (first | refine Or.inl ⟨rfl, rfl, ?_⟩ | refine Or.inl ⟨rfl, ?_⟩ | refine Or.inr ?_))
    refine Go_aloneL rfl rfl (OpTo_tcall (Qc := fun v Rs' => v = tb.v ∧ Rs' = rqR J ⟨T, cur, some ⟨bT, oT, none⟩, c, us, last, yA, yc, ys, xA, xc, xs, nx, RA, Rc, R⟩) [own Bt.encS 2 42 A5 c5 (sn ++ [snT t])] (rqR J ⟨T, cur, some ⟨bT, oT, none⟩, c, us, last, yA, yc, ys, xA, xc, xs, nx, RA, Rc, R⟩) rfl rfl rfl rfl rfl rfl (by kernel_rfl) (fun w hb hm hio hsp k => by rw [htb]; exact ps_next J ⟨T, cur, some ⟨bT, oT, none⟩, c, us, last, yA, yc, ys, xA, xc, xs, nx, RA, Rc, R⟩ hc w _ k) ?_)
    rintro _ _ ⟨rfl, rfl⟩
    refine And.intro (fun w hm _ => ⟨Holds.of_idx [1] hm, trivial⟩) ?_
    refine VC_sound tabOk 100 ?_
    refine Go_aloneL rfl rfl (OpTo_pcall (v := .bool (Bt.freeB (rState R) (sn ++ [snT t]) tb.xs)) rfl rfl rfl rfl rfl (by kernel_rfl) (fun w hm _ => by have h := Bt.r12_free tb.A tb.c tb.xs J.br RA Rc R A5 c5 (sn ++ [snT t]) w (by rw [htb]; exact rq_rd hm (Sp.nxt cur) (by unfold Sp.nxt; omega)) (Nat.le_trans hl3 hT) ⟨hm.blk_at (i := 9) rfl, hm.own_rd (i := 10) rfl, hR⟩ (hm.own_rd (i := 0) rfl) hlen (fun s hs => hrd hm s hs); rw [List.length_append, hsl] at h; exact h) ?_)
    refine And.intro (fun w hm _ => ⟨Holds.of_idx [1] hm, trivial⟩) ?_
    refine VC_sound tabOk 100 ?_
    exact ⟨_, ⟨by show _ = Value.bool (Bt.freeB (rState R) (wantP us ys) (Sp.get3 T (Sp.nxt cur)).xs); rw [hw, htb]; rfl, rfl⟩, fun _ _ h => h.dropAt 0⟩
end Go.Proofs.YthpcahgdobnljaaGreat
