/- What the functions of package queue do: what consumers want; Free, Rotate, Trim. -/
import Derived.Test.YthpcahgdobnljaaGreatQd
set_option maxRecDepth 100000
set_option autoImplicit false
set_option linter.unusedVariables false
set_option linter.unusedSimpArgs false
namespace Go.RX
open Go Go.RowKit
/-- A call that keeps the condition, and a new variable, in either order. -/
theorem Go_forkL {E : Env} {ops : Array Oper} {M : List Nat} {LBR : List Res} {LX : World → Prop} {listed : Array Bool} {p : List (Nat × Bool)} {k : List KI} {l : L} {Rs : List Res} (i j : Nat) (p1 p2 : List (Nat × Bool)) {oi oj : Oper}
    (hr : (Region.ready .any ops listed == [i, j]) = true) (n1 : Nat.beq (p1.length + 1) p.length = true) (n2 : Nat.beq (p2.length + 1) p.length = true) (c1 : chk ops M (listed.setIfInBounds i true) p1 = true) (c2 : chk ops M (listed.setIfInBounds j true) p2 = true)
    (hoi : nth ops.toList i = some oi) (hoj : nth ops.toList j = some oj) (gi : wantB ops.toList l oi = true) (gj : wantB ops.toList l oj = true) (sj : ∀ R w, Mod E.hfs (R :: Rs) w → Oth E.w0 w → LBof LBR LX w)
    (hi : OpTo E l Rs oi fun l' Rs' => (∀ w, Mod E.hfs Rs' w → Oth E.w0 w → LBof LBR LX w) ∧ Go E (.any ops M LBR LX (listed.setIfInBounds i true) p1 :: k) l' Rs') (hj : vcDo E.tab E.N E.w0.heap.size l Rs oj (fun l' Rs' => (∃ R, Rs' = R :: Rs) ∧ Go E (.any ops M LBR LX (listed.setIfInBounds j true) p2 :: k) l' Rs') False) (ht : TabOk E.P E.tab) :
    Go E (.any ops M LBR LX listed p :: k) l Rs :=
  Go_fork (Ki := fun l' Rs' => (∀ w, Mod E.hfs Rs' w → Oth E.w0 w → LBof LBR LX w) ∧ Go E (.any ops M LBR LX (listed.setIfInBounds i true) p1 :: k) l' Rs') (Kj := fun l' Rs' => (∃ R, Rs' = R :: Rs) ∧ Go E (.any ops M LBR LX (listed.setIfInBounds j true) p2 :: k) l' Rs') i j p1 p2 hr n1 n2 c1 c2 hoi hoj gi gj
    (.inr fun l' Rs' h w => h.1 w) (.inr fun l' Rs' ⟨⟨R, h⟩, _⟩ w hm hio => sj R w (h ▸ hm) hio) hi (OpTo_do ht hj) (fun _ _ h => h.2) (fun _ _ h => h.2)
end Go.RX
namespace Go.Proofs.YthpcahgdobnljaaGreat
open Go.RX Go Go.RowKit


theorem qs_cuAll (I : QI) (S : QS) (hc : S.cs.length ≤ 12) (w0 : World) (hfs : List PH) (hm : Mod hfs (qR I S) w0) :
    Calls Tryz.prog 14 #[pv I.bc] w0 fun e' w' => ∃ v Rs', e' = .returned v ∧ (∃ A c ys, v = .slice A ys.length c ∧ ys.Perm (S.cs.map (·.1)) ∧ Rise ltS Cu.CurV.name ys ∧ Rs' = own Cu.encC 3 50 A c ys :: qR I S) ∧ Mod hfs Rs' w' ∧ Oth w0 w' := by
  refine part_call (Cu.cuR I.bc I.bm S.cs) ([qBI I S.nx] ++ (txB I.m I.b1 I.b2 S.s ++ (Sp.spT I.bs S.T S.cur ++ (Tk.tkR I.bt S.tA S.tc S.ts S.last ++ (Rt.rtR I.br S.rA S.rc S.xs))))) (by classical exact List.perm_iff_count.2 fun a => by simp only [qR, txB, Sp.spT, Sp.spR, Sp.get3, Tk.tkR, Rt.rtR, Cu.cuR, Cu.cuB, Cu.blks_mid, List.length_nil, List.cons_append, List.nil_append, List.append_nil, List.count_cons, List.count_append, List.count_nil]; omega) hm (fun hb hsp h => Cu.cu_all I.bc I.bm S.cs hc w0 _ h) ?_
  rintro v Rs' ⟨A, c, ys, rfl, h1, h2, rfl⟩
  exact ⟨_, ⟨A, c, ys, rfl, h1, h2, rfl⟩, (by classical exact List.perm_iff_count.2 fun a => by simp only [qR, txB, Sp.spT, Sp.spR, Sp.get3, Tk.tkR, Rt.rtR, Cu.cuR, Cu.cuB, Cu.blks_mid, List.length_nil, List.cons_append, List.nil_append, List.append_nil, List.count_cons, List.count_append, List.count_nil]; omega)⟩
theorem qs_least (I : QI) (S : QS) (hc : S.cs.length ≤ 12) (w0 : World) (hfs : List PH) (hm : Mod hfs (qR I S) w0) :
    Calls Tryz.prog 70 #[pv I.bc] w0 fun e' w' => ∃ v Rs', e' = .returned v ∧ ((∃ ys, v = Cu.leastT ys ∧ ys.Perm (S.cs.map (·.1)) ∧ Rise ltS Cu.CurV.name ys) ∧ Rs' = qR I S) ∧ Mod hfs Rs' w' ∧ Oth w0 w' := by
  refine part_call (Cu.cuR I.bc I.bm S.cs) ([qBI I S.nx] ++ (txB I.m I.b1 I.b2 S.s ++ (Sp.spT I.bs S.T S.cur ++ (Tk.tkR I.bt S.tA S.tc S.ts S.last ++ (Rt.rtR I.br S.rA S.rc S.xs))))) (by classical exact List.perm_iff_count.2 fun a => by simp only [qR, txB, Sp.spT, Sp.spR, Sp.get3, Tk.tkR, Rt.rtR, Cu.cuR, Cu.cuB, Cu.blks_mid, List.length_nil, List.cons_append, List.nil_append, List.append_nil, List.count_cons, List.count_append, List.count_nil]; omega) hm (fun hb hsp h => Cu.cu_least I.bc I.bm S.cs hc w0 _ h) ?_
  rintro v Rs' ⟨⟨ys, rfl, h1, h2⟩, rfl⟩
  exact ⟨_, ⟨⟨ys, rfl, h1, h2⟩, rfl⟩, (by classical exact List.perm_iff_count.2 fun a => by simp only [qR, txB, Sp.spT, Sp.spR, Sp.get3, Tk.tkR, Rt.rtR, Cu.cuR, Cu.cuB, Cu.blks_mid, List.length_nil, List.cons_append, List.nil_append, List.append_nil, List.count_cons, List.count_append, List.count_nil]; omega)⟩
abbrev OSP (I : QI) (S : QS) : List Res := [qBI I S.nx] ++ (txB I.m I.b1 I.b2 S.s ++ (Tk.tkR I.bt S.tA S.tc S.ts S.last ++ (Rt.rtR I.br S.rA S.rc S.xs ++ Cu.cuR I.bc I.bm S.cs)))
/-- What Rotate comes to. -/
def rotQ (I : QI) (S : QS) (free : Bool) : Value → List Res → Prop := fun v Rs =>
  ((Sp.get3 S.T (Sp.nxt S.cur)).xs = [] ∧ v = .tuple #[.int .u8 2, .int .i64 0] ∧ Rs = qR I { S with cur := Sp.nxt S.cur }) ∨
  ((Sp.get3 S.T (Sp.nxt S.cur)).xs ≠ [] ∧ free = false ∧ v = .tuple #[.int .u8 0, .int .i64 9] ∧ Rs = qR I S) ∨
  ((Sp.get3 S.T (Sp.nxt S.cur)).xs ≠ [] ∧ free = true ∧ v = .tuple #[.int .u8 1, .int .i64 0] ∧ Rs = qR I { S with T := Sp.set3 S.T (Sp.nxt S.cur) Sp.noTb })
theorem qs_rotate (I : QI) (S : QS) (free : Bool) (hi : S.cur < 3) (w0 : World) (hfs : List PH) (hm : Mod hfs (qR I S) w0) :
    Calls Tryz.prog 89 #[pv I.bs, .bool free] w0 fun e' w' => ∃ v Rs', e' = .returned v ∧ rotQ I S free v Rs' ∧ Mod hfs Rs' w' ∧ Oth w0 w' := by
  refine part_call (Sp.spT I.bs S.T S.cur) (OSP I S) (by classical exact List.perm_iff_count.2 fun a => by simp only [qR, txB, Sp.spT, Sp.spR, Sp.get3, Tk.tkR, Rt.rtR, Cu.cuR, Cu.cuB, Cu.blks_mid, List.length_nil, List.cons_append, List.nil_append, List.append_nil, List.count_cons, List.count_append, List.count_nil]; omega) hm (fun hb hsp h => Sp.spool_rotate I.bs S.T.1 S.T.2.1 S.T.2.2 S.cur free w0 _ h hi) ?_
  rintro v Rs' (⟨h0, rfl, rfl⟩ | ⟨h0, h1, rfl, rfl⟩ | ⟨h0, h1, rfl, rfl⟩)
  · exact ⟨_, .inl ⟨h0, rfl, rfl⟩, (by classical exact List.perm_iff_count.2 fun a => by simp only [qR, txB, Sp.spT, Sp.spR, Sp.get3, Tk.tkR, Rt.rtR, Cu.cuR, Cu.cuB, Cu.blks_mid, List.length_nil, List.cons_append, List.nil_append, List.append_nil, List.count_cons, List.count_append, List.count_nil]; omega)⟩
  · exact ⟨_, .inr (.inl ⟨h0, h1, rfl, rfl⟩), (by classical exact List.perm_iff_count.2 fun a => by simp only [qR, txB, Sp.spT, Sp.spR, Sp.get3, Tk.tkR, Rt.rtR, Cu.cuR, Cu.cuB, Cu.blks_mid, List.length_nil, List.cons_append, List.nil_append, List.append_nil, List.count_cons, List.count_append, List.count_nil]; omega)⟩
  · refine ⟨_, .inr (.inr ⟨h0, h1, rfl, rfl⟩), ?_⟩
    rw [Sp.spSet_eq]
    exact (by classical exact List.perm_iff_count.2 fun a => by simp only [qR, txB, Sp.spT, Sp.spR, Sp.get3, Tk.tkR, Rt.rtR, Cu.cuR, Cu.cuB, Cu.blks_mid, List.length_nil, List.cons_append, List.nil_append, List.append_nil, List.count_cons, List.count_append, List.count_nil]; omega)
theorem qs_trim (I : QI) (S : QS) (below : Int) (hn : S.ts.length ≤ 1000000) (w0 : World) (hfs : List PH) (hm : Mod hfs (qR I S) w0) :
    Calls Tryz.prog 71 #[pv I.bt, .int .i64 below] w0 fun e' w' => ∃ v Rs', e' = .returned v ∧ (v = .int .i64 ((S.ts.length : Int) - (S.ts.filter fun x => !Tk.tkGone below S.last x).length) ∧ Rs' = qR I { S with ts := S.ts.filter fun x => !Tk.tkGone below S.last x }) ∧ Mod hfs Rs' w' ∧ Oth w0 w' := by
  refine part_call (Tk.tkR I.bt S.tA S.tc S.ts S.last) ([qBI I S.nx] ++ (txB I.m I.b1 I.b2 S.s ++ (Sp.spT I.bs S.T S.cur ++ (Rt.rtR I.br S.rA S.rc S.xs ++ Cu.cuR I.bc I.bm S.cs)))) (by classical exact List.perm_iff_count.2 fun a => by simp only [qR, txB, Sp.spT, Sp.spR, Sp.get3, Tk.tkR, Rt.rtR, Cu.cuR, Cu.cuB, Cu.blks_mid, List.length_nil, List.cons_append, List.nil_append, List.append_nil, List.count_cons, List.count_append, List.count_nil]; omega) hm (fun hb hsp h => Tk.tick_trim I.bt S.tA S.tc S.ts S.last below w0 _ h hn) ?_
  rintro v Rs' ⟨rfl, rfl⟩
  exact ⟨_, ⟨rfl, rfl⟩, (by classical exact List.perm_iff_count.2 fun a => by simp only [qR, txB, Sp.spT, Sp.spR, Sp.get3, Tk.tkR, Rt.rtR, Cu.cuR, Cu.cuB, Cu.blks_mid, List.length_nil, List.cons_append, List.nil_append, List.append_nil, List.count_cons, List.count_append, List.count_nil]; omega)⟩

/-! ### what consumers want -/
abbrev snk (s : Bt.SnM) : Int × List Int := (s.mx, s.op)
abbrev tkk (t : Tk.TickM) : Int × List Int := (t.mx, t.op)
/-- The snapshots from which somebody goes on. -/
def wantL (ts : List Tk.TickM) (last : Int) (ys : List Cu.CurV) : List (Int × List Int) := (ys.map fun y => tkk (Tk.fdT (Tk.tkIs y.last) ts)) ++ if (ts.find? (Tk.tkIs last)).isSome = true then [tkk (Tk.fdT (Tk.tkIs last) ts)] else []
def BagS (sn : List Bt.SnM) (L : List (Option Addr × List Value)) : Prop := ∀ s ∈ sn, (s.A, s.op.flatMap (RX.encI .i64)) ∈ L ∧ s.op.length ≤ 1000
theorem BagS.put {sn : List Bt.SnM} {L : List (Option Addr × List Value)} (h : BagS sn L) {s : Bt.SnM} (hs : s.op.length ≤ 1000) : BagS (sn ++ [s]) ((s.A, s.op.flatMap (RX.encI .i64)) :: L) := fun u hu => by
  rcases List.mem_append.1 hu with hu | hu
  · exact ⟨List.mem_cons_of_mem _ (h u hu).1, (h u hu).2⟩
  · simp at hu; subst hu; exact ⟨List.mem_cons_self, hs⟩
def wantQ (I : QI) (S : QS) : Value → List Res → Prop := fun v Rs => ∃ ys A c sn L, ys.Perm (S.cs.map (·.1)) ∧ Rise ltS Cu.CurV.name ys ∧ v = .slice A sn.length c ∧ sn.map snk = wantL S.ts S.last ys ∧ BagS sn L ∧ Rs = own Bt.encS 2 42 A c sn :: ro L :: qR I S
set_option maxHeartbeats 4000000 in
theorem q_wanted (I : QI) (S : QS) (hc : S.cs.length ≤ 12) (hf : Tk.Fit1 S.ts) (ht : S.ts.length ≤ 1000000) (w0 : World) (hfs : List PH) (hm : Mod hfs (qR I S) w0) :
    Calls Tryz.prog 109 #[pv I.q] w0 fun e w' => ∃ v Rs', e = .returned v ∧ wantQ I S v Rs' ∧ Mod hfs Rs' w' ∧ Oth w0 w' := by
  refine enterN (tab := tab) Tryz.func109 rfl Tryz.ntmps109 rfl (args := [_]) rfl hm ?_
  refine VC_sound tabOk 100 ?_
  (repeat (first | refine Or.inl ⟨rfl, rfl, ?_⟩ | refine Or.inl ⟨rfl, ?_⟩ | refine Or.inr ?_))
  refine Go_ops rfl (OpTo_tcall [] (qR I S) rfl rfl rfl rfl rfl rfl (by kernel_rfl) (fun w hb hm hio hsp k => qs_cuAll I S hc w _ k) ?_)
  rintro _ _ ⟨Ac, cc, ys, rfl, hp, hr, rfl⟩
  have hyl : ys.length = S.cs.length := by have := hp.length_eq; simpa using this
  refine VC_sound tabOk 100 ?_
  refine Go_loop (σ := Nat × Option Addr × Nat × List Bt.SnM × List (Option Addr × List Value)) (fun ⟨i, Al, cl, sn, L⟩ => [(0, .v (pv I.q)), (3, .v (.slice Al sn.length cl)), (14, .v (.slice Ac ys.length cc)), (15, .v (.int .i64 ys.length)), (16, .v (.int .i64 i))]) (fun ⟨i, Al, cl, sn, L⟩ => own Bt.encS 2 42 Al cl sn :: ro L :: own Cu.encC 3 50 Ac cc ys :: qR I S) (fun ⟨i, Al, cl, sn, L⟩ => i ≤ ys.length ∧ sn.map snk = ((ys.take i).map fun y => tkk (Tk.fdT (Tk.tkIs y.last) S.ts)) ∧ BagS sn L) (fun u => ys.length - u.1) (0, none, 0, [], []) ⟨Nat.zero_le _, rfl, fun s hs => by simp at hs⟩ ⟨rfl, rfl, rfl, rfl, rfl, trivial⟩ (fun w h => (h.ro_nil).own_nil (enc := Bt.encS) (k := 2) (T := 42) none) ?_
  rintro ⟨i, Al, cl, sn, L⟩ ⟨hi, hsn, hB⟩
  dsimp only at hi hsn hB ⊢
  have hsl : sn.length = i := by have := congrArg List.length hsn; simpa [Nat.min_eq_left hi] using this
  by_cases hlt : i < ys.length
  · obtain ⟨y, hgy⟩ : ∃ y, ys[i]? = some y := ⟨_, List.getElem?_eq_getElem hlt⟩
    refine Go_with _ (fun w hm _ => hm.own_some (i := 2) rfl (ne_nil_of_lt hlt)) ?_
    rintro ⟨bc9, oc9, rfl⟩
    refine VC_sound tabOk 100 ?_
    refine ⟨fun _ => ?_, fun h => by first | (simp at h; done) | (simp at h; omega) | (simp_all; done)⟩
    refine ⟨⟨by omega, by omega⟩, ?_⟩
    refine Or.inr (findR_E ?_)
    refine Go_ops rfl (OpTo_loadRow tabOk Cu.encC_is (Cu.mkC y) rfl rfl rfl rfl rfl (fun h => by first | rfl | cases h) (fun w hm _ => hm.own_rd (i := 2) rfl) hgy (by simp only [addA]; rfl) ?_)
    refine VC_sound tabOk 100 ?_
    intro b5 _
    (repeat (first | refine Or.inl ⟨rfl, rfl, ?_⟩ | refine Or.inl ⟨rfl, ?_⟩ | refine Or.inr ?_))
    refine Go_res (.blk b5 50 (Cu.encC y) :: own Bt.encS 2 42 Al cl sn :: ro L :: own Cu.encC 3 50 (some ⟨bc9, oc9, none⟩) cc ys :: qR I S) (fun _ h => h) ?_
    refine Go_cut (σ := Option Addr × Nat × Nat) (fun u => [(0, .v (pv I.q)), (3, .v (.slice Al sn.length cl)), (6, .v (pv u.2.2)), (14, .v (.slice (some ⟨bc9, oc9, none⟩) ys.length cc)), (15, .v (.int .i64 ys.length)), (16, .v (.int .i64 i))]) (fun u => .blk u.2.2 44 (Tk.encT (Tk.reT (Tk.fdT (Tk.tkIs y.last) S.ts) u.1 u.2.1)) :: own (RX.encI .i64) 1 2 u.1 u.2.1 (Tk.fdT (Tk.tkIs y.last) S.ts).op :: .blk b5 50 (Cu.encC y) :: own Bt.encS 2 42 Al cl sn :: ro L :: own Cu.encC 3 50 (some ⟨bc9, oc9, none⟩) cc ys :: qR I S) (fun _ => True) ?_ ?_
    · refine Go_any mixed [6, 11] [(0, false), (1, false), (2, false), (4, false), (3, false), (5, false), (99, false), (99, false), (99, false), (99, false), (99, false), (99, false), (99, false)] rfl (by kernel_rfl) (by kernel_rfl) [.blk b5 50 (Cu.encC y), qBI I S.nx] (fun _ => True) (fun _ _ _ h => h) (fun w hm _ => ⟨Holds.of_idx [0, 4] hm, trivial⟩) ?_
      refine VC_sound tabOk 100 ?_
      (repeat (first | refine Or.inl ⟨rfl, rfl, ?_⟩ | refine Or.inl ⟨rfl, ?_⟩ | refine Or.inr ?_))
      refine Go_forkA 6 10 [(7, false), (8, false), (9, false), (10, true), (11, true), (12, false)] [(6, true), (7, false), (8, false), (9, false), (11, true), (12, false)] (by kernel_rfl) rfl rfl (by kernel_rfl) (by kernel_rfl) rfl rfl rfl rfl rfl (fun R w hm _ => ⟨Holds.of_idx [1, 5] hm, trivial⟩) ?_ ?_ tabOk
      · refine OpTo_ncall rfl rfl rfl rfl rfl (by kernel_rfl) (fun w hm _ => Tk.tick_getU I.bt S.tA S.tc S.ts S.last (y.last) w (hm.blk_at (i := 12) rfl) (hm.own_rd (i := 13) rfl) (fun t ht => hm.ro_rd (i := 14) rfl (List.mem_map.2 ⟨t, ht, rfl⟩)) (by omega) hf.fit) ?_
        rintro _ _ ⟨A, c, rfl, rfl⟩
        refine VC_sound tabOk 100 ?_
        intro b99 _
        (repeat (first | refine Or.inl ⟨rfl, rfl, ?_⟩ | refine Or.inl ⟨rfl, ?_⟩ | refine Or.inr ?_))
        exact Go_put (A, c, b99) trivial ⟨rfl, rfl, rfl, rfl, rfl, rfl, trivial⟩ (fun _ h => h)
      · intro b99 _
        refine ⟨⟨_, rfl⟩, ?_⟩
        refine Go_aloneM rfl rfl rfl (OpTo_ncall rfl rfl rfl rfl rfl (by kernel_rfl) (fun w hm _ => Tk.tick_getU I.bt S.tA S.tc S.ts S.last (y.last) w (hm.blk_at (i := 13) rfl) (hm.own_rd (i := 14) rfl) (fun t ht => hm.ro_rd (i := 15) rfl (List.mem_map.2 ⟨t, ht, rfl⟩)) (by omega) hf.fit) ?_)
        rintro _ _ ⟨A, c, rfl, rfl⟩
        refine VC_sound tabOk 100 ?_
        (repeat (first | refine Or.inl ⟨rfl, rfl, ?_⟩ | refine Or.inl ⟨rfl, ?_⟩ | refine Or.inr ?_))
        exact Go_put (A, c, b99) trivial ⟨rfl, rfl, rfl, rfl, rfl, rfl, trivial⟩ (fun _ h => h.permRs (List.Perm.swap _ _ _))
    rintro ⟨A, c, b6⟩ _
    dsimp only
    refine VC_sound tabOk 100 ?_
    (repeat (first | refine Or.inl ⟨rfl, rfl, ?_⟩ | refine Or.inl ⟨rfl, ?_⟩ | refine Or.inr ?_))
    intro b33 _
    show Go _ _ _ _
    refine Go_ops rfl (OpTo_append tabOk Bt.encS_is (ys := [(⟨(Tk.fdT (Tk.tkIs y.last) S.ts).mx, A, c, (Tk.fdT (Tk.tkIs y.last) S.ts).op⟩ : Bt.SnM)]) (i := 4) rfl rfl rfl rfl rfl rfl rfl rfl rfl rfl rfl (fun w hm _ => hm.blk_rd (i := 0) rfl) (by simp; omega) (by simp; omega) (fun A5 c5 => ?_))
    refine VC_sound tabOk 100 ?_
    refine ⟨_, wrap_i64 (n := (i : Int) + 1) (by omega) (by omega), ?_⟩
    have htk : ys.take (i + 1) = ys.take i ++ [y] := by rw [List.take_add_one, hgy]; rfl
    refine Go_fin (i + 1, A5, c5, sn ++ [(⟨(Tk.fdT (Tk.tkIs y.last) S.ts).mx, A, c, (Tk.fdT (Tk.tkIs y.last) S.ts).op⟩ : Bt.SnM)], (A, (Tk.fdT (Tk.tkIs y.last) S.ts).op.flatMap (RX.encI .i64)) :: L) ⟨by omega, by rw [htk, List.map_append, List.map_append, hsn]; rfl, hB.put (s := ⟨(Tk.fdT (Tk.tkIs y.last) S.ts).mx, A, c, (Tk.fdT (Tk.tkIs y.last) S.ts).op⟩) (hf.fd _)⟩ (by dsimp only; omega) ⟨rfl, ?_, rfl, rfl, rfl, trivial⟩ (fun w h => ?_)
    · show Value.slice _ _ _ = Value.slice _ _ _
      congr 1
      simp
    · have h2 := ((h.dropAt 0).dropAt 0).dropAt 1
      have h3 := (h2.permRs (b := own (RX.encI .i64) 1 2 A c (Tk.fdT (Tk.tkIs y.last) S.ts).op :: ro L :: own Bt.encS 2 42 A5 c5 (sn ++ [(⟨(Tk.fdT (Tk.tkIs y.last) S.ts).mx, A, c, (Tk.fdT (Tk.tkIs y.last) S.ts).op⟩ : Bt.SnM)]) :: own Cu.encC 3 50 (some ⟨bc9, oc9, none⟩) cc ys :: qR I S) ((List.Perm.swap _ _ _).cons _)).ro_add
      exact h3.permRs (List.Perm.swap _ _ _)
  have he : i = ys.length := by omega
  subst he
  rw [List.take_length] at hsn
  refine VC_sound tabOk 100 ?_
  refine ⟨fun h => by first | (simp at h; done) | (simp at h; omega) | (simp_all; done), fun _ => ?_⟩
  refine Go_cut (σ := Option Addr × Nat × Nat) (fun u => [(0, .v (pv I.q)), (3, .v (.slice Al sn.length cl)), (8, .v (pv u.2.2)), (9, .v (.bool (S.ts.find? (Tk.tkIs S.last)).isSome))]) (fun u => .blk u.2.2 44 (Tk.encT (Tk.reT (Tk.fdT (Tk.tkIs S.last) S.ts) u.1 u.2.1)) :: own (RX.encI .i64) 1 2 u.1 u.2.1 (Tk.fdT (Tk.tkIs S.last) S.ts).op :: own Bt.encS 2 42 Al cl sn :: ro L :: own Cu.encC 3 50 Ac cc ys :: qR I S) (fun _ => True) ?_ ?_
  · refine Go_any mixed [9, 14] [(0, false), (1, false), (2, false), (4, false), (5, false), (6, false), (3, false), (7, false), (99, false), (99, false), (99, false), (99, false), (99, false), (99, false), (99, false), (99, false)] rfl (by kernel_rfl) (by kernel_rfl) [qBI I S.nx] (fun _ => True) (fun _ _ _ h => h) (fun w hm _ => ⟨Holds.of_idx [3] hm, trivial⟩) ?_
    refine VC_sound tabOk 100 ?_
    (repeat (first | refine Or.inl ⟨rfl, rfl, ?_⟩ | refine Or.inl ⟨rfl, ?_⟩ | refine Or.inr ?_))
    refine Go_forkL 8 13 [(99, false), (99, false), (99, false), (99, false), (99, false), (99, false), (99, false)] [(8, true), (9, true), (10, false), (11, false), (12, false), (14, true), (15, false)] (by kernel_rfl) rfl rfl (by kernel_rfl) (by kernel_rfl) rfl rfl rfl rfl (fun R w hm _ => ⟨Holds.of_idx [4] hm, trivial⟩) ?_ ?_ tabOk
    · refine OpTo_pcall (v := .int .i64 S.last) rfl rfl rfl rfl rfl (by kernel_rfl) (fun w hm _ => Tk.tick_last I.bt S.tA S.ts.length S.tc S.last w (hm.blk_at (i := 11) rfl)) ?_
      refine And.intro (fun w hm _ => ⟨Holds.of_idx [3] hm, trivial⟩) ?_
      refine Go_forkA 9 13 [(10, false), (11, false), (12, false), (13, true), (14, true), (15, false)] [(9, true), (10, false), (11, false), (12, false), (14, true), (15, false)] (by kernel_rfl) rfl rfl (by kernel_rfl) (by kernel_rfl) rfl rfl rfl rfl rfl (fun R w hm _ => ⟨Holds.of_idx [4] hm, trivial⟩) ?_ ?_ tabOk
      · refine OpTo_ncall rfl rfl rfl rfl rfl (by kernel_rfl) (fun w hm _ => Tk.tick_getU I.bt S.tA S.tc S.ts S.last (S.last) w (hm.blk_at (i := 11) rfl) (hm.own_rd (i := 12) rfl) (fun t ht => hm.ro_rd (i := 13) rfl (List.mem_map.2 ⟨t, ht, rfl⟩)) (by omega) hf.fit) ?_
        rintro _ _ ⟨A, c, rfl, rfl⟩
        refine VC_sound tabOk 100 ?_
        intro b99 _
        (repeat (first | refine Or.inl ⟨rfl, rfl, ?_⟩ | refine Or.inl ⟨rfl, ?_⟩ | refine Or.inr ?_))
        exact Go_put (A, c, b99) trivial ⟨rfl, rfl, rfl, rfl, trivial⟩ (fun _ h => h)
      · intro b99 _
        refine ⟨⟨_, rfl⟩, ?_⟩
        refine Go_aloneM rfl rfl rfl (OpTo_ncall rfl rfl rfl rfl rfl (by kernel_rfl) (fun w hm _ => Tk.tick_getU I.bt S.tA S.tc S.ts S.last (S.last) w (hm.blk_at (i := 12) rfl) (hm.own_rd (i := 13) rfl) (fun t ht => hm.ro_rd (i := 14) rfl (List.mem_map.2 ⟨t, ht, rfl⟩)) (by omega) hf.fit) ?_)
        rintro _ _ ⟨A, c, rfl, rfl⟩
        refine VC_sound tabOk 100 ?_
        (repeat (first | refine Or.inl ⟨rfl, rfl, ?_⟩ | refine Or.inl ⟨rfl, ?_⟩ | refine Or.inr ?_))
        exact Go_put (A, c, b99) trivial ⟨rfl, rfl, rfl, rfl, trivial⟩ (fun _ h => h.permRs (List.Perm.swap _ _ _))
    · intro b99 _
      refine ⟨⟨_, rfl⟩, ?_⟩
      refine Go_aloneL rfl rfl (OpTo_pcall (v := .int .i64 S.last) rfl rfl rfl rfl rfl (by kernel_rfl) (fun w hm _ => Tk.tick_last I.bt S.tA S.ts.length S.tc S.last w (hm.blk_at (i := 12) rfl)) ?_)
      refine And.intro (fun w hm _ => ⟨Holds.of_idx [4] hm, trivial⟩) ?_
      refine VC_sound tabOk 100 ?_
      refine Go_aloneM rfl rfl rfl (OpTo_ncall rfl rfl rfl rfl rfl (by kernel_rfl) (fun w hm _ => Tk.tick_getU I.bt S.tA S.tc S.ts S.last (S.last) w (hm.blk_at (i := 12) rfl) (hm.own_rd (i := 13) rfl) (fun t ht => hm.ro_rd (i := 14) rfl (List.mem_map.2 ⟨t, ht, rfl⟩)) (by omega) hf.fit) ?_)
      rintro _ _ ⟨A, c, rfl, rfl⟩
      refine VC_sound tabOk 100 ?_
      (repeat (first | refine Or.inl ⟨rfl, rfl, ?_⟩ | refine Or.inl ⟨rfl, ?_⟩ | refine Or.inr ?_))
      exact Go_put (A, c, b99) trivial ⟨rfl, rfl, rfl, rfl, trivial⟩ (fun _ h => h.permRs (List.Perm.swap _ _ _))
  rintro ⟨A, c, b8⟩ _
  dsimp only
  cases hfd : (S.ts.find? (Tk.tkIs S.last)).isSome with
  | false =>
    refine VC_sound tabOk 100 ?_
    refine ⟨fun h => by first | (simp at h; done) | (simp at h; omega) | (simp_all; done), fun _ => ?_⟩
    refine ⟨_, ⟨ys, Al, cl, sn, L, hp, hr, rfl, by rw [wantL, if_neg (by rw [hfd]; simp), List.append_nil]; exact hsn, hB, rfl⟩, fun _ w h => ?_⟩
    exact ((h.dropAt 0).dropAt 0).dropAt 2
  | true =>
    refine VC_sound tabOk 100 ?_
    refine ⟨fun _ => ?_, fun h => by first | (simp at h; done) | (simp at h; omega) | (simp_all; done)⟩
    (repeat (first | refine Or.inl ⟨rfl, rfl, ?_⟩ | refine Or.inl ⟨rfl, ?_⟩ | refine Or.inr ?_))
    intro b33 _
    show Go _ _ _ _
    refine Go_ops rfl (OpTo_append tabOk Bt.encS_is (ys := [(⟨(Tk.fdT (Tk.tkIs S.last) S.ts).mx, A, c, (Tk.fdT (Tk.tkIs S.last) S.ts).op⟩ : Bt.SnM)]) (i := 3) rfl rfl rfl rfl rfl rfl rfl rfl rfl rfl rfl (fun w hm _ => hm.blk_rd (i := 0) rfl) (by simp; omega) (by simp; omega) (fun A5 c5 => ?_))
    refine VC_sound tabOk 100 ?_
    refine ⟨_, ⟨ys, A5, c5, sn ++ [(⟨(Tk.fdT (Tk.tkIs S.last) S.ts).mx, A, c, (Tk.fdT (Tk.tkIs S.last) S.ts).op⟩ : Bt.SnM)], (A, (Tk.fdT (Tk.tkIs S.last) S.ts).op.flatMap (RX.encI .i64)) :: L, hp, hr, ?_, by rw [wantL, if_pos hfd, List.map_append, hsn]; rfl, hB.put (s := ⟨(Tk.fdT (Tk.tkIs S.last) S.ts).mx, A, c, (Tk.fdT (Tk.tkIs S.last) S.ts).op⟩) (hf.fd _), rfl⟩, fun _ w h => ?_⟩
    · show Value.slice _ _ _ = Value.slice _ _ _
      congr 1
      simp
    · have h2 := ((h.dropAt 0).dropAt 0).dropAt 3
      have h3 := (h2.permRs (b := own (RX.encI .i64) 1 2 A c (Tk.fdT (Tk.tkIs S.last) S.ts).op :: ro L :: own Bt.encS 2 42 A5 c5 (sn ++ [(⟨(Tk.fdT (Tk.tkIs S.last) S.ts).mx, A, c, (Tk.fdT (Tk.tkIs S.last) S.ts).op⟩ : Bt.SnM)]) :: qR I S) ((List.Perm.swap _ _ _).cons _)).ro_add
      exact h3.permRs (List.Perm.swap _ _ _)

/-! ### Free, Rotate, Trim -/
/-- What Free answers. -/
def FreeV (S : QS) (b : Bool) : Prop := ∃ ys sn, ys.Perm (S.cs.map (·.1)) ∧ Rise ltS Cu.CurV.name ys ∧ sn.map snk = wantL S.ts S.last ys ∧ b = Bt.freeB (stE S.s) sn (Sp.get3 S.T (Sp.nxt S.cur)).xs
set_option maxHeartbeats 4000000 in
theorem q_free (I : QI) (S : QS) (hc : S.cs.length ≤ 12) (hf : Tk.Fit1 S.ts) (ht : S.ts.length ≤ 1000000) (hi : S.cur < 3) (hl : Sp.len3 S.T ≤ 10000) (w0 : World) (hfs : List PH) (hm : Mod hfs (qR I S) w0) :
    Calls Tryz.prog 41 #[pv I.q] w0 fun e w' => ∃ v Rs', e = .returned v ∧ (∃ b, FreeV S b ∧ v = .bool b ∧ Rs' = qR I S) ∧ Mod hfs Rs' w' ∧ Oth w0 w' := by
  have hn3 : Sp.nxt S.cur < 3 := by unfold Sp.nxt; omega
  have hl3 := Sp.len3_le S.T (Sp.nxt S.cur) hn3
  refine enterN (tab := tab) Tryz.func41 rfl Tryz.ntmps41 rfl (args := [_]) rfl hm ?_
  refine VC_sound tabOk 100 ?_
  show Go _ _ _ _
  refine Go_any mixed [] [(0, false), (1, false), (2, false), (3, false), (4, false), (5, false), (8, false), (9, false), (10, false), (12, false), (6, false), (11, false), (7, true), (13, true), (14, true), (15, false), (16, false)] rfl (by kernel_rfl) (by kernel_rfl) [qBI I S.nx] (fun _ => True) (fun _ _ _ h => h) (fun w hm _ => ⟨Holds.of_idx [0] hm, trivial⟩) ?_
  refine VC_sound tabOk 100 ?_
  (repeat (first | refine Or.inl ⟨rfl, rfl, ?_⟩ | refine Or.inl ⟨rfl, ?_⟩ | refine Or.inr ?_))
  refine Go_aloneL rfl rfl (OpTo_ncall rfl rfl rfl rfl rfl (by kernel_rfl) (fun w hm _ => Sp.spool_next I.bs S.T.1 S.T.2.1 S.T.2.2 S.cur w (hm.blk_at (i := 4) rfl) (sp_rd _ hm) hi (Nat.le_trans hl3 hl)) ?_)
  rintro _ _ ⟨A1, c1, rfl, rfl⟩
  refine And.intro (fun w hm _ => ⟨Holds.of_idx [1] hm, trivial⟩) ?_
  refine VC_sound tabOk 100 ?_
  (repeat (first | refine Or.inl ⟨rfl, rfl, ?_⟩ | refine Or.inl ⟨rfl, ?_⟩ | refine Or.inr ?_))
  refine Go_aloneL rfl rfl (OpTo_tcall [own encE 8 65 A1 c1 (Sp.pick3 S.T.1 S.T.2.1 S.T.2.2 (Sp.nxt S.cur)).xs] (qR I S) rfl rfl rfl rfl rfl rfl (by kernel_rfl) (fun w hb hm hio hsp k => q_wanted I S hc hf ht w _ k) ?_)
  rintro _ _ ⟨ys, A2, c2, sn, L, hp, hr, rfl, hsn, hB, rfl⟩
  have hsl : sn.length ≤ 13 := by
    have h1 := congrArg List.length hsn
    have h2 : ys.length = S.cs.length := by have := hp.length_eq; simpa using this
    simp only [wantL, List.length_map, List.length_append] at h1
    split at h1 <;> simp at h1 <;> omega
  refine And.intro (fun w hm _ => ⟨Holds.of_idx [3] hm, trivial⟩) ?_
  refine VC_sound tabOk 100 ?_
  (repeat (first | refine Or.inl ⟨rfl, rfl, ?_⟩ | refine Or.inl ⟨rfl, ?_⟩ | refine Or.inr ?_))
  refine Go_aloneL rfl rfl (OpTo_pcall (v := .bool (Bt.freeB (stE S.s) sn (Sp.get3 S.T (Sp.nxt S.cur)).xs)) rfl rfl rfl rfl rfl (by kernel_rfl) (fun w hm _ => Bt.batch_free A1 c1 _ (some ⟨I.m, 0, none⟩) (stE S.s) A2 c2 sn w (hm.own_rd (i := 0) rfl) (by show (Sp.get3 S.T (Sp.nxt S.cur)).xs.length ≤ 10000; omega) (Bt.StOk.some (s := S.s) (hm.blk_at (i := 4) rfl) (MpAt.of_mod (i := 5) hm rfl) (MpAt.of_mod (i := 6) hm rfl)) (hm.own_rd (i := 1) rfl) (by omega) (fun s hs => ⟨hm.ro_rd (i := 2) rfl (hB s hs).1, by have := (hB s hs).2; omega⟩)) ?_)
  refine And.intro (fun w hm _ => ⟨Holds.of_idx [3] hm, trivial⟩) ?_
  refine VC_sound tabOk 100 ?_
  exact ⟨_, ⟨_, ⟨ys, sn, hp, hr, hsn, rfl⟩, rfl, rfl⟩, fun _ _ h => h.drop (a := [_, _, _])⟩
theorem q_rotate (I : QI) (S : QS) (hc : S.cs.length ≤ 12) (hf : Tk.Fit1 S.ts) (ht : S.ts.length ≤ 1000000) (hi : S.cur < 3) (hl : Sp.len3 S.T ≤ 10000) (w0 : World) (hfs : List PH) (hm : Mod hfs (qR I S) w0) :
    Calls Tryz.prog 30 #[pv I.q] w0 fun e w' => ∃ v Rs', e = .returned v ∧ (∃ b, FreeV S b ∧ rotQ I S b v Rs') ∧ Mod hfs Rs' w' ∧ Oth w0 w' := by
  refine enterN (tab := tab) Tryz.func30 rfl Tryz.ntmps30 rfl (args := [_]) rfl hm ?_
  refine VC_sound tabOk 100 ?_
  refine Go_ops rfl (OpTo_pcall (v := pv I.bs) rfl rfl rfl rfl rfl (by kernel_rfl) (fun w hm _ => q_spools I S.nx w (hm.blk_at (i := 0) rfl)) ?_)
  refine VC_sound tabOk 100 ?_
  refine Go_ops rfl (OpTo_tcall [] (qR I S) rfl rfl rfl rfl rfl rfl (by kernel_rfl) (fun w hb hm hio hsp k => q_free I S hc hf ht hi hl w _ k) ?_)
  rintro _ _ ⟨b, hb, rfl, rfl⟩
  refine VC_sound tabOk 100 ?_
  refine Go_ops rfl (OpTo_tcall [] (qR I S) rfl rfl rfl rfl rfl rfl (by kernel_rfl) (fun w hb hm hio hsp k => qs_rotate I S b hi w _ k) ?_)
  rintro _ _ (⟨h0, rfl, rfl⟩ | ⟨h0, h1, rfl, rfl⟩ | ⟨h0, h1, rfl, rfl⟩)
  · refine VC_sound tabOk 100 ?_
    exact ⟨_, ⟨b, hb, .inl ⟨h0, rfl, rfl⟩⟩, fun _ _ h => h⟩
  · refine VC_sound tabOk 100 ?_
    exact ⟨_, ⟨b, hb, .inr (.inl ⟨h0, h1, rfl, rfl⟩)⟩, fun _ _ h => h⟩
  · refine VC_sound tabOk 100 ?_
    exact ⟨_, ⟨b, hb, .inr (.inr ⟨h0, h1, rfl, rfl⟩)⟩, fun _ _ h => h⟩
/-- Below which number ticks are let go. -/
def lowL (ys : List Cu.CurV) : Int := if 0 < ys.length then Cu.minL ys else 9223372036854775807
def trimTs (S : QS) (low : Int) : List Tk.TickM := S.ts.filter fun x => !Tk.tkGone low S.last x
set_option maxHeartbeats 1000000 in
theorem q_trim (I : QI) (S : QS) (hc : S.cs.length ≤ 12) (ht : S.ts.length ≤ 1000000) (w0 : World) (hfs : List PH) (hm : Mod hfs (qR I S) w0) :
    Calls Tryz.prog 12 #[pv I.q] w0 fun e w' => ∃ v Rs', e = .returned v ∧ (∃ ys, ys.Perm (S.cs.map (·.1)) ∧ Rise ltS Cu.CurV.name ys ∧ v = .int .i64 ((S.ts.length : Int) - (trimTs S (lowL ys)).length) ∧ Rs' = qR I { S with ts := trimTs S (lowL ys) }) ∧ Mod hfs Rs' w' ∧ Oth w0 w' := by
  refine enterN (tab := tab) Tryz.func12 rfl Tryz.ntmps12 rfl (args := [_]) rfl hm ?_
  refine VC_sound tabOk 100 ?_
  refine Go_ops rfl (OpTo_pcall (v := pv I.bc) rfl rfl rfl rfl rfl (by kernel_rfl) (fun w hm _ => q_cursors I S.nx w (hm.blk_at (i := 0) rfl)) ?_)
  refine VC_sound tabOk 100 ?_
  refine Go_ops rfl (OpTo_tcall [] (qR I S) rfl rfl rfl rfl rfl rfl (by kernel_rfl) (fun w hb hm hio hsp k => qs_least I S hc w _ k) ?_)
  rintro _ _ ⟨⟨ys, rfl, hp, hr⟩, rfl⟩
  unfold Cu.leastT
  refine VC_sound tabOk 100 ?_
  refine ⟨fun g => ?_, fun g => ?_⟩
  · have h0 : lowL ys = 9223372036854775807 := by rw [lowL, if_neg (by simpa using g)]
    refine Go_ops rfl (OpTo_pcall (v := pv I.bt) rfl rfl rfl rfl rfl (by kernel_rfl) (fun w hm _ => q_ticks I S.nx w (hm.blk_at (i := 0) rfl)) ?_)
    refine VC_sound tabOk 100 ?_
    refine Go_ops rfl (OpTo_tcall [] (qR I S) rfl rfl rfl rfl rfl rfl (by kernel_rfl) (fun w hb hm hio hsp k => qs_trim I S 9223372036854775807 ht w _ k) ?_)
    rintro _ _ ⟨rfl, rfl⟩
    refine VC_sound tabOk 100 ?_
    exact ⟨_, ⟨ys, hp, hr, by rw [h0]; rfl, by rw [h0]; rfl⟩, fun _ _ h => h⟩
  · have h0 : lowL ys = Cu.minL ys := by rw [lowL, if_pos (by simpa using g)]
    refine Go_ops rfl (OpTo_pcall (v := pv I.bt) rfl rfl rfl rfl rfl (by kernel_rfl) (fun w hm _ => q_ticks I S.nx w (hm.blk_at (i := 0) rfl)) ?_)
    refine VC_sound tabOk 100 ?_
    refine Go_ops rfl (OpTo_tcall [] (qR I S) rfl rfl rfl rfl rfl rfl (by kernel_rfl) (fun w hb hm hio hsp k => qs_trim I S (Cu.minL ys) ht w _ k) ?_)
    rintro _ _ ⟨rfl, rfl⟩
    refine VC_sound tabOk 100 ?_
    exact ⟨_, ⟨ys, hp, hr, by rw [h0]; rfl, by rw [h0]; rfl⟩, fun _ _ h => h⟩
end Go.Proofs.YthpcahgdobnljaaGreat
