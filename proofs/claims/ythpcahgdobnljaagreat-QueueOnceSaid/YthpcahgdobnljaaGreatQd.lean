/- What the functions of package queue do: Retry, Maint; its manager. -/
import Derived.Test.YthpcahgdobnljaaGreatQc
set_option maxRecDepth 100000
set_option autoImplicit false
set_option linter.unusedVariables false
set_option linter.unusedSimpArgs false
namespace Go.Proofs.YthpcahgdobnljaaGreat
open Go.RX Go Go.RowKit


theorem BatE.mem {S : QS} {x : Cu.CurV} {ys : List EventM} (h : BatE S x ys) {e : EventM} (he : e ∈ ys) : e ∈ Sp.pre3 S.T.1 S.T.2.1 S.T.2.2 3 := by
  obtain ⟨zs, A1, c1, A2, c2, hz, hy⟩ := h
  exact (hz.1.mem e).2 (List.mem_filter.1 ((hy.1.mem e).2 he)).1
theorem BatE.len {S : QS} {x : Cu.CurV} {ys : List EventM} (h : BatE S x ys) : ys.length ≤ Sp.len3 S.T := by
  obtain ⟨zs, A1, c1, A2, c2, hz, hy⟩ := h
  rw [hy.2.2]
  refine Nat.le_trans (List.length_filter_le _ _) ?_
  rw [hz.2.2, Sp.pre3_len]
  exact Nat.le_refl _
theorem qs_retry (I : QI) (S : QS) (e : EventM) (o : ByteArray) (at_ : Int) (hl : S.xs.length ≤ 1000) (ht : 0 ≤ e.tries) (w0 : World) (hfs : List PH) (hm : Mod hfs (qR I S) w0) :
    Calls Tryz.prog 103 #[pv I.br, mkE e, .string o, .int .i64 at_] w0 fun e' w' => ∃ v Rs', e' = .returned v ∧ (∃ A' c' us, v = .int .i64 (Rt.addE S.xs e o) ∧ Rt.AddT S.xs e o at_ us ∧ Rs' = qR I { S with rA := A', rc := c', xs := us }) ∧ Mod hfs Rs' w' ∧ Oth w0 w' := by
  refine part_call (Rt.rtR I.br S.rA S.rc S.xs) ([qBI I S.nx] ++ (txB I.m I.b1 I.b2 S.s ++ (Sp.spT I.bs S.T S.cur ++ (Tk.tkR I.bt S.tA S.tc S.ts S.last ++ (Cu.cuR I.bc I.bm S.cs))))) (by classical exact List.perm_iff_count.2 fun a => by simp only [qR, txB, Sp.spT, Sp.spR, Sp.get3, Tk.tkR, Rt.rtR, Cu.cuR, Cu.cuB, Cu.blks_mid, List.length_nil, List.cons_append, List.nil_append, List.append_nil, List.count_cons, List.count_append, List.count_nil]; omega) hm (fun hb hsp h => Rt.retry_add I.br S.rA S.rc S.xs e o at_ hl ht w0 _ h) ?_
  rintro v Rs' ⟨A', c', us, rfl, hA, rfl⟩
  exact ⟨_, ⟨A', c', us, rfl, hA, rfl⟩, (by classical exact List.perm_iff_count.2 fun a => by simp only [qR, txB, Sp.spT, Sp.spR, Sp.get3, Tk.tkR, Rt.rtR, Cu.cuR, Cu.cuB, Cu.blks_mid, List.length_nil, List.cons_append, List.nil_append, List.append_nil, List.count_cons, List.count_append, List.count_nil]; omega)⟩
theorem qs_take (I : QI) (S : QS) (now : Int) (hl : S.xs.length ≤ 1000) (w0 : World) (hfs : List PH) (hm : Mod hfs (qR I S) w0) :
    Calls Tryz.prog 104 #[pv I.br, .int .i64 now] w0 fun e' w' => ∃ v Rs', e' = .returned v ∧ (∃ A1 c1 A' c', v = .slice A1 (Rt.dueL now S.xs).length c1 ∧ Rs' = own encE 8 65 A1 c1 (Rt.dueL now S.xs) :: qR I { S with rA := A', rc := c', xs := S.xs.drop (Rt.dueL now S.xs).length }) ∧ Mod hfs Rs' w' ∧ Oth w0 w' := by
  refine part_call (Rt.rtR I.br S.rA S.rc S.xs) ([qBI I S.nx] ++ (txB I.m I.b1 I.b2 S.s ++ (Sp.spT I.bs S.T S.cur ++ (Tk.tkR I.bt S.tA S.tc S.ts S.last ++ (Cu.cuR I.bc I.bm S.cs))))) (by classical exact List.perm_iff_count.2 fun a => by simp only [qR, txB, Sp.spT, Sp.spR, Sp.get3, Tk.tkR, Rt.rtR, Cu.cuR, Cu.cuB, Cu.blks_mid, List.length_nil, List.cons_append, List.nil_append, List.append_nil, List.count_cons, List.count_append, List.count_nil]; omega) hm (fun hb hsp h => Rt.retry_take I.br S.rA S.rc S.xs now (by omega) w0 _ h) ?_
  rintro v Rs' ⟨A1, c1, A', c', rfl, rfl⟩
  exact ⟨_, ⟨A1, c1, A', c', rfl, rfl⟩, (by classical exact List.perm_iff_count.2 fun a => by simp only [qR, txB, Sp.spT, Sp.spR, Sp.get3, Tk.tkR, Rt.rtR, Cu.cuR, Cu.cuB, Cu.blks_mid, List.length_nil, List.cons_append, List.nil_append, List.append_nil, List.count_cons, List.count_append, List.count_nil]; omega)⟩

def idP (id : Int) (e : EventM) : Bool := decide (e.id = id)
theorem q_retry1 (b6 : Nat) (id : Int) (e : EventM) (w0 : World) (hb : w0.heap[b6]? = some (.cells #[.int .i64 id] 2 (0, 0))) :
    Calls Tryz.prog 102 #[mkE e, .pointer (some ⟨b6, 0, none⟩)] w0 fun r w' => r = .returned (.bool (idP id e)) ∧ BelowD w0.heap.size w0 w' := by
  refine enterP (tab := tab) Tryz.func102 rfl Tryz.ntmps102 rfl (args := [_, _]) rfl ?_
  refine VC_sound tabOk 100 ?_
  intro b2 _
  (repeat (first | refine Or.inl ⟨rfl, rfl, ?_⟩ | refine Or.inl ⟨rfl, ?_⟩ | refine Or.inr ?_))
  refine Go_ops rfl (OpTo_loadBlk tabOk (cs := [.int .i64 id]) (.int .i64 id) rfl rfl rfl (fun w hm _ => hm.block_old hb) rfl ?_)
  refine VC_sound tabOk 100 ?_
  rfl
/-- What Retry comes to. -/
def retQ (I : QI) (S : QS) (x : Cu.CurV) (id at_ : Int) : Value → List Res → Prop := fun v Rs =>
  (x.opn = 0 ∧ v = .int .i64 7 ∧ Rs = qR I S) ∨
  (x.opn ≠ 0 ∧ ∃ ys, BatE S x ys ∧ (((∀ e ∈ ys, e.id ≠ id) ∧ v = .int .i64 4 ∧ Rs = qR I S) ∨
    ∃ (i : Nat) (e : EventM) (A : Option Addr) (c : Nat) (us : List Rt.ItemM), ys[i]? = some e ∧ e.id = id ∧ (∀ z ∈ ys.take i, z.id ≠ id) ∧ v = .int .i64 (Rt.addE S.xs e x.name) ∧ Rt.AddT S.xs e x.name at_ us ∧ Rs = qR I { S with rA := A, rc := c, xs := us }))
set_option maxHeartbeats 2000000 in
theorem q_retry (I : QI) (S : QS) (id at_ : Int) (cs1 cs2 : Cu.Cs) (x : Cu.CurV) (q : Nat) (hcs : S.cs = cs1 ++ (x, q) :: cs2) (hr : aget x.name (Cu.alOf S.cs) = some q) (hf : Tk.Fit1 S.ts) (ht : S.ts.length ≤ 1000000) (hl : Sp.len3 S.T ≤ 10000) (hxl : S.xs.length ≤ 1000) (htr : ∀ e ∈ Sp.pre3 S.T.1 S.T.2.1 S.T.2.2 3, 0 ≤ e.tries) (w0 : World) (hfs : List PH) (hm : Mod hfs (qR I S) w0) :
    Calls Tryz.prog 37 #[pv I.q, .string x.name, .int .i64 id, .int .i64 at_] w0 fun e w' => ∃ v Rs', e = .returned v ∧ retQ I S x id at_ v Rs' ∧ Mod hfs Rs' w' ∧ Oth w0 w' := by
  refine enterN (tab := tab) Tryz.func37 rfl Tryz.ntmps37 rfl (args := [_, _, _, _]) rfl hm ?_
  refine VC_sound tabOk 100 ?_
  intro b6 _
  refine Go_ops rfl (OpTo_tcall [.blk b6 2 [.int .i64 id]] (qR I S) rfl rfl rfl rfl rfl rfl (by kernel_rfl) (fun w hb hm hio hsp k => q_batch I S cs1 cs2 x q hcs hr hf ht hl w _ k) ?_)
  rintro _ _ (⟨g0, rfl, rfl⟩ | ⟨g0, ys, A, c, hB, rfl, rfl⟩)
  · refine VC_sound tabOk 100 ?_
    refine ⟨fun _ => ?_, fun h => by first | (simp at h; done) | (simp at h; omega) | (simp_all; done)⟩
    exact ⟨_, .inl ⟨g0, rfl, rfl⟩, fun _ _ h => h.drop (a := [_])⟩
  have hyl := hB.len
  refine VC_sound tabOk 100 ?_
  refine ⟨fun h => by first | (simp at h; done) | (simp at h; omega) | (simp_all; done), fun _ => ?_⟩
  refine Go_ops rfl (OpTo_pcall (v := .int .i64 (idxF (idP id) ys)) rfl rfl rfl rfl rfl (by kernel_rfl) (fun w hm hio => sl_indexFunc_E A c ys 102 #[] #[.pointer (some ⟨b6, 0, none⟩)] (idP id) w (hm.own_rd (i := 1) rfl) (by omega) (by kernel_rfl) (fun e he w2 h2 => q_retry1 b6 id e w2 (blk_below h2 (hm.blk_at (i := 0) rfl)))) ?_)
  refine VC_sound tabOk 100 ?_
  rcases idxF_spec (idP id) ys with ⟨h0, hall⟩ | ⟨i, hi, h0, hpi, hne⟩
  · rw [h0]
    refine ⟨fun _ => ?_, fun h => nomatch h⟩
    exact ⟨_, .inr ⟨g0, ys, hB, .inl ⟨fun e he => by have := hall e he; simpa [idP] using this, rfl, rfl⟩⟩, fun _ _ h => h.drop (a := [_, _])⟩
  rw [h0]
  refine ⟨fun h => by (have := of_decide_eq_true h; omega), fun _ => ?_⟩
  refine Go_with _ (fun w hm _ => hm.own_some (i := 1) rfl (ne_nil_of_lt hi)) ?_
  rintro ⟨bv, ov, rfl⟩
  obtain ⟨e, hei⟩ : ∃ e, ys[i] = e := ⟨_, rfl⟩
  have hgi : ys[i]? = some e := by rw [List.getElem?_eq_getElem hi, hei]
  have hem : e ∈ ys := hei ▸ List.getElem_mem hi
  rw [hei] at hpi
  show Go _ _ _ _
  refine Go_any mixed [10] [(0, false), (1, false), (2, false), (4, false), (5, false), (6, false), (8, false), (9, false), (3, false), (7, false), (10, true), (11, false)] rfl (by kernel_rfl) (by kernel_rfl) [qBI I S.nx] (fun w => RdW w (some ⟨bv, ov, none⟩) (ys.flatMap encE)) (fun w w' hk h => h.old hk) (fun w hm _ => ⟨Holds.of_idx [2] hm, by exact Mod.own_rd (k := 8) (T := 65) (c := c) (i := 1) hm rfl⟩) ?_
  refine VC_sound tabOk 100 ?_
  refine ⟨⟨by omega, by omega⟩, ?_⟩
  (repeat (first | refine Or.inl ⟨rfl, rfl, ?_⟩ | refine Or.inl ⟨rfl, ?_⟩ | refine Or.inr ?_))
  refine Go_first (v := mkE e) rfl rfl rfl rfl (fun w _ hw => rxLoadRow tabOk rfl encE_is rfl (fun h => by first | rfl | cases h) hw hgi (by simp only [addA]; rfl) rfl) ?_
  refine VC_sound tabOk 100 ?_
  refine Go_aloneM rfl rfl rfl (OpTo_tcall [.blk b6 2 [.int .i64 id], own encE 8 65 (some ⟨bv, ov, none⟩) c ys] (qR I S) rfl rfl rfl rfl rfl rfl (by kernel_rfl) (fun w hb hm hio hsp k => qs_retry I S e x.name at_ hxl (htr _ (hB.mem hem)) w _ k) ?_)
  rintro _ _ ⟨A', c', us, rfl, hA, rfl⟩
  refine VC_sound tabOk 100 ?_
  exact ⟨_, .inr ⟨g0, ys, hB, .inr ⟨i, e, A', c', us, hgi, by simpa [idP] using hpi, fun z hz => by have := hne z hz; simpa [idP] using this, rfl, hA, rfl⟩⟩, fun _ _ h => h.drop (a := [_, _])⟩
set_option maxHeartbeats 1000000 in
theorem q_retry_none (I : QI) (S : QS) (name : ByteArray) (id at_ : Int) (hr : aget name (Cu.alOf S.cs) = none) (w0 : World) (hfs : List PH) (hm : Mod hfs (qR I S) w0) :
    Calls Tryz.prog 37 #[pv I.q, .string name, .int .i64 id, .int .i64 at_] w0 fun e w' => ∃ v Rs', e = .returned v ∧ (v = .int .i64 4 ∧ Rs' = qR I S) ∧ Mod hfs Rs' w' ∧ Oth w0 w' := by
  refine enterN (tab := tab) Tryz.func37 rfl Tryz.ntmps37 rfl (args := [_, _, _, _]) rfl hm ?_
  refine VC_sound tabOk 100 ?_
  intro b6 _
  refine Go_ops rfl (OpTo_tcall [.blk b6 2 [.int .i64 id]] (qR I S) rfl rfl rfl rfl rfl rfl (by kernel_rfl) (fun w hb hm hio hsp k => q_batch_none I S name hr w _ k) ?_)
  rintro _ _ ⟨rfl, rfl⟩
  refine VC_sound tabOk 100 ?_
  refine ⟨fun _ => ?_, fun h => by first | (simp at h; done) | (simp at h; omega) | (simp_all; done)⟩
  exact ⟨_, ⟨rfl, rfl⟩, fun _ _ h => h.drop (a := [_])⟩

/-! ### Maint -/
def mtL (x : Int) (l : List EventM) : List EventM := l.map fun e => { e with tx := x }
theorem mtL_len (x : Int) (l : List EventM) : (mtL x l).length = l.length := by simp [mtL]
theorem set3_self (T : Sp.Tbs) (k : Nat) (h : k < 3) : Sp.set3 T k ⟨(Sp.get3 T k).A, (Sp.get3 T k).c, (Sp.get3 T k).xs⟩ = T := by
  have hk' : k = 0 ∨ k = 1 ∨ k = 2 := by omega
  rcases hk' with rfl | rfl | rfl <;> rfl
theorem set3_set3 (T : Sp.Tbs) (k : Nat) (t u : Sp.Tb) : Sp.set3 (Sp.set3 T k t) k u = Sp.set3 T k u := by
  match k with
  | 0 => rfl
  | 1 => rfl
  | k + 2 => rfl
abbrev mtX (x : Int) (l : List EventM) (i : Nat) : List EventM := (mtL x l).take i ++ l.drop i
theorem mtX_at (x : Int) {l : List EventM} {i : Nat} {e : EventM} (h : l[i]? = some e) : (mtX x l i)[i]? = some e ∧ (mtX x l i).set i { e with tx := x } = mtX x l (i + 1) ∧ (mtL x l)[i]? = some { e with tx := x } := by
  obtain ⟨hi, rfl⟩ := List.getElem?_eq_some_iff.1 h
  have hl := mtL_len x l
  have ht : ((mtL x l).take i).length = i := by simp; omega
  have hm : (mtL x l)[i]? = some { l[i] with tx := x } := by simp [mtL, hi]
  refine ⟨?_, ?_, hm⟩
  · rw [mtX, List.getElem?_append_right (by omega), ht]; simp
  · rw [mtX, mtX, List.set_append_right _ _ (by omega), ht, Nat.sub_self, List.drop_eq_getElem_cons hi, List.set_cons_zero, List.take_add_one, hm]; simp
abbrev QS.mt (S : QS) (x now : Int) (A' : Option Addr) (c' : Nat) (A2 : Option Addr) (c2 : Nat) : QS := { S with T := Sp.set3 S.T S.cur ⟨A2, c2, (Sp.get3 S.T S.cur).xs ++ mtL x (Rt.dueL now S.xs)⟩, rA := A', rc := c', xs := S.xs.drop (Rt.dueL now S.xs).length }
set_option maxHeartbeats 4000000 in
theorem q_maint (I : QI) (S : QS) (x now : Int) (hc : S.cur < 3) (hl : Sp.len3 S.T ≤ 10000) (hxl : S.xs.length ≤ 1000) (w0 : World) (hfs : List PH) (hm : Mod hfs (qR I S) w0) :
    Calls Tryz.prog 38 #[pv I.q, .int .i64 x, .int .i64 now] w0 fun e w' => ∃ v Rs', e = .returned v ∧ (∃ A1 c1 A' c' A2 c2, v = .slice A1 (mtL x (Rt.dueL now S.xs)).length c1 ∧ Rs' = own encE 8 65 A1 c1 (mtL x (Rt.dueL now S.xs)) :: qR I (S.mt x now A' c' A2 c2)) ∧ Mod hfs Rs' w' ∧ Oth w0 w' := by
  have hdl := Rt.dueL_len now S.xs
  refine enterN (tab := tab) Tryz.func38 rfl Tryz.ntmps38 rfl (args := [_, _, _]) rfl hm ?_
  refine VC_sound tabOk 100 ?_
  (repeat (first | refine Or.inl ⟨rfl, rfl, ?_⟩ | refine Or.inl ⟨rfl, ?_⟩ | refine Or.inr ?_))
  refine Go_ops rfl (OpTo_tcall [] (qR I S) rfl rfl rfl rfl rfl rfl (by kernel_rfl) (fun w hb hm hio hsp k => qs_take I S now hxl w _ k) ?_)
  rintro _ _ ⟨A1, c1, A', c', rfl, rfl⟩
  obtain ⟨dl, hdl2⟩ : ∃ dl, Rt.dueL now S.xs = dl := ⟨_, rfl⟩
  simp only [QS.mt, hdl2] at hdl ⊢
  refine VC_sound tabOk 100 ?_
  refine Go_loop (σ := Nat × Option Addr × Nat) (fun u => [(0, .v (pv I.q)), (1, .v (.int .i64 x)), (7, .v (.slice A1 dl.length c1)), (18, .v (.int .i64 dl.length)), (19, .v (.int .i64 u.1))]) (fun u => own encE 8 65 A1 c1 (mtX x dl u.1) :: qR I { S with T := Sp.set3 S.T S.cur ⟨u.2.1, u.2.2, (Sp.get3 S.T S.cur).xs ++ (mtL x dl).take u.1⟩, rA := A', rc := c', xs := S.xs.drop dl.length }) (fun u => u.1 ≤ dl.length) (fun u => dl.length - u.1) (0, (Sp.get3 S.T S.cur).A, (Sp.get3 S.T S.cur).c) (Nat.zero_le _) ⟨rfl, rfl, rfl, rfl, rfl, trivial⟩ (fun _ h => by
    have e1 : Sp.set3 S.T S.cur ⟨(Sp.get3 S.T S.cur).A, (Sp.get3 S.T S.cur).c, (Sp.get3 S.T S.cur).xs ++ (mtL x dl).take 0⟩ = S.T := by rw [List.take_zero, List.append_nil]; exact set3_self _ _ hc
    dsimp only
    rw [e1]
    exact h) ?_
  rintro ⟨i, A2, c2⟩ hi
  dsimp only at hi ⊢
  by_cases hlt : i < dl.length
  rotate_left
  · have he : i = dl.length := by omega
    subst he
    refine VC_sound tabOk 100 ?_
    refine ⟨fun h => by first | (simp at h; done) | (simp at h; omega) | (simp_all; done), fun _ => ?_⟩
    have e1 : (mtL x dl).take dl.length = mtL x dl := List.take_of_length_le (by rw [mtL_len]; exact Nat.le_refl _)
    refine ⟨_, ⟨A1, c1, A', c', A2, c2, by rw [mtL_len]; rfl, rfl⟩, fun _ _ h => ?_⟩
    have e2 : mtX x dl dl.length = mtL x dl := by simp [mtX, e1]
    rw [e1, e2] at h
    exact h
  obtain ⟨e, hge⟩ : ∃ e, dl[i]? = some e := ⟨_, List.getElem?_eq_getElem hlt⟩
  obtain ⟨k1, k2, k3⟩ := mtX_at x hge
  have hml : (mtX x dl i).length = dl.length := by simp [mtX, mtL]; omega
  have hml2 : (mtX x dl (i + 1)).length = dl.length := by simp [mtX, mtL]; omega
  refine Go_with _ (fun w hm _ => hm.own_some (i := 0) rfl (ne_nil_of_lt (by omega : 0 < (mtX x dl i).length))) ?_
  rintro ⟨bv, ov, rfl⟩
  refine VC_sound tabOk 100 ?_
  refine ⟨fun _ => ?_, fun h => by first | (simp at h; done) | (simp at h; omega) | (simp_all; done)⟩
  refine ⟨⟨by omega, by omega⟩, ?_⟩
  refine Or.inr (findR_E ?_)
  refine Go_ops rfl (OpTo_storePart tabOk encE_is (n := i) (j := 1) (u := e) (u' := { e with tx := x }) 0 rfl rfl rfl rfl rfl rfl k1 rfl rfl rfl (by simp only [addA]; rfl) ?_)
  have e3 : ({ e with tx := x } : EventM) = { e with tx := x } := rfl
  simp only [List.set_cons_zero, k2]
  have hk4 : (mtX x dl (i + 1))[i]? = some { e with tx := x } := by
    rw [← k2, List.getElem?_set, if_pos rfl, if_pos (by omega)]
  refine VC_sound tabOk 100 ?_
  show Go _ _ _ _
  refine Go_any mixed [8] [(0, false), (1, false), (2, false), (4, false), (5, false), (6, false), (3, false), (7, false), (8, true)] rfl (by kernel_rfl) (by kernel_rfl) [qBI I S.nx] (fun w => RdW w (some ⟨bv, ov, none⟩) ((mtX x dl (i + 1)).flatMap encE)) (fun w w' hk h => h.old hk) (fun w hm _ => ⟨Holds.of_idx [1] hm, by exact Mod.own_rd (k := 8) (T := 65) (c := c1) (i := 0) hm rfl⟩) ?_
  refine VC_sound tabOk 100 ?_
  refine ⟨⟨by omega, by omega⟩, ?_⟩
  (repeat (first | refine Or.inl ⟨rfl, rfl, ?_⟩ | refine Or.inl ⟨rfl, ?_⟩ | refine Or.inr ?_))
  refine Go_first (v := mkE { e with tx := x }) rfl rfl rfl rfl (fun w _ hw => rxLoadRow tabOk rfl encE_is rfl (fun h => by first | rfl | cases h) hw hk4 (by simp only [addA]; rfl) rfl) ?_
  refine VC_sound tabOk 100 ?_
  have hq3 : Sp.get3 (Sp.set3 S.T S.cur ⟨A2, c2, (Sp.get3 S.T S.cur).xs ++ (mtL x dl).take i⟩) S.cur = ⟨A2, c2, (Sp.get3 S.T S.cur).xs ++ (mtL x dl).take i⟩ := by rw [Sp.get_set3 _ _ _ _ hc hc, if_pos rfl]
  have hl3 : Sp.len3 (Sp.set3 S.T S.cur ⟨A2, c2, (Sp.get3 S.T S.cur).xs ++ (mtL x dl).take i⟩) = Sp.len3 S.T + i := Sp.sum_set3 _ S.T S.cur _ i hc (by simp [mtL]; omega)
  refine Go_aloneM rfl rfl rfl (OpTo_tcall [own encE 8 65 (some ⟨bv, ov, none⟩) c1 (mtX x dl (i + 1))] (qR I { S with T := Sp.set3 S.T S.cur ⟨A2, c2, (Sp.get3 S.T S.cur).xs ++ (mtL x dl).take i⟩, rA := A', rc := c', xs := S.xs.drop dl.length }) rfl rfl rfl rfl rfl rfl (by kernel_rfl) (fun w hb hm hio hsp k => qs_add I { S with T := Sp.set3 S.T S.cur ⟨A2, c2, (Sp.get3 S.T S.cur).xs ++ (mtL x dl).take i⟩, rA := A', rc := c', xs := S.xs.drop dl.length } { e with tx := x } hc (by dsimp only; omega) w _ k) ?_)
  rintro _ _ ⟨rfl, A3, c3, rfl⟩
  refine VC_sound tabOk 100 ?_
  refine ⟨_, wrap_i64 (n := (i : Int) + 1) (by omega) (by omega), ?_⟩
  refine Go_fin (i + 1, A3, c3) (by dsimp only; omega) (by dsimp only; omega) ⟨rfl, rfl, rfl, rfl, rfl, trivial⟩ (fun _ h => ?_)
  dsimp only at h ⊢
  rw [hq3, set3_set3] at h
  have e4 : (mtL x dl).take (i + 1) = (mtL x dl).take i ++ [{ e with tx := x }] := by rw [List.take_add_one, k3]; rfl
  rw [e4, ← List.append_assoc]
  exact h

/-! ### the manager -/
abbrev OTX (I : QI) (S : QS) : List Res := [qBI I S.nx] ++ (Sp.spT I.bs S.T S.cur ++ (Tk.tkR I.bt S.tA S.tc S.ts S.last ++ (Rt.rtR I.br S.rA S.rc S.xs ++ Cu.cuR I.bc I.bm S.cs)))
theorem qs_begin_ok (I : QI) (S : QS) (R : List Int) (hal : Alike S.s R) (h6 : (pos 1 R).length < 6) (hR : R.length ≤ 10000) (w0 : World) (hfs : List PH) (hm : Mod hfs (qR I S) w0) :
    Calls Tryz.prog 24 #[pv I.m] w0 fun e' w' => ∃ v Rs', e' = .returned v ∧ (v = .tuple #[.int .i64 ((R.length : Int) + 1), .int .i64 0] ∧ Rs' = qR I { S with s := begS S.s }) ∧ Mod hfs Rs' w' ∧ Oth w0 w' := by
  have hnx := hal.next
  refine part_call (txB I.m I.b1 I.b2 S.s) (OTX I S) (by classical exact List.perm_iff_count.2 fun a => by simp only [qR, txB, Sp.spT, Sp.spR, Sp.get3, Tk.tkR, Rt.rtR, Cu.cuR, Cu.cuB, Cu.blks_mid, List.length_nil, List.cons_append, List.nil_append, List.append_nil, List.count_cons, List.count_append, List.count_nil]; omega) hm (fun hb hsp h => txn_begin_ok I.m I.b1 I.b2 S.s ⟨by rw [hal.O]; exact h6, by omega⟩ (by omega) hal.notO w0 _ h) ?_
  rintro v Rs' ⟨rfl, rfl⟩
  exact ⟨_, ⟨by rw [hnx], rfl⟩, (by classical exact List.perm_iff_count.2 fun a => by simp only [qR, txB, Sp.spT, Sp.spR, Sp.get3, Tk.tkR, Rt.rtR, Cu.cuR, Cu.cuB, Cu.blks_mid, List.length_nil, List.cons_append, List.nil_append, List.append_nil, List.count_cons, List.count_append, List.count_nil]; omega)⟩
theorem qs_begin_full (I : QI) (S : QS) (R : List Int) (hal : Alike S.s R) (h6 : ¬ (pos 1 R).length < 6) (w0 : World) (hfs : List PH) (hm : Mod hfs (qR I S) w0) :
    Calls Tryz.prog 24 #[pv I.m] w0 fun e' w' => ∃ v Rs', e' = .returned v ∧ (v = .tuple #[.int .i64 0, .int .i64 8] ∧ Rs' = qR I S) ∧ Mod hfs Rs' w' ∧ Oth w0 w' := by
  refine part_call (txB I.m I.b1 I.b2 S.s) (OTX I S) (by classical exact List.perm_iff_count.2 fun a => by simp only [qR, txB, Sp.spT, Sp.spR, Sp.get3, Tk.tkR, Rt.rtR, Cu.cuR, Cu.cuB, Cu.blks_mid, List.length_nil, List.cons_append, List.nil_append, List.append_nil, List.count_cons, List.count_append, List.count_nil]; omega) hm (fun hb hsp h => txn_begin_full I.m I.b1 I.b2 S.s (.inl (by rw [hal.O]; omega)) w0 _ h) ?_
  rintro v Rs' ⟨rfl, rfl⟩
  exact ⟨_, ⟨rfl, rfl⟩, (by classical exact List.perm_iff_count.2 fun a => by simp only [qR, txB, Sp.spT, Sp.spR, Sp.get3, Tk.tkR, Rt.rtR, Cu.cuR, Cu.cuB, Cu.blks_mid, List.length_nil, List.cons_append, List.nil_append, List.append_nil, List.count_cons, List.count_append, List.count_nil]; omega)⟩
abbrev comS (s : TxS) (x : Int) : TxS := ⟨s.next, del x s.O, ins x s.D⟩
abbrev aboS (s : TxS) (x : Int) : TxS := ⟨s.next, del x s.O, s.D⟩
theorem qs_commit_ok (I : QI) (S : QS) (x : Int) (h : x ∈ S.s.O) (w0 : World) (hfs : List PH) (hm : Mod hfs (qR I S) w0) :
    Calls Tryz.prog 27 #[pv I.m, .int .i64 x] w0 fun e' w' => ∃ v Rs', e' = .returned v ∧ (v = .int .i64 0 ∧ Rs' = qR I { S with s := comS S.s x }) ∧ Mod hfs Rs' w' ∧ Oth w0 w' := by
  refine part_call (txB I.m I.b1 I.b2 S.s) (OTX I S) (by classical exact List.perm_iff_count.2 fun a => by simp only [qR, txB, Sp.spT, Sp.spR, Sp.get3, Tk.tkR, Rt.rtR, Cu.cuR, Cu.cuB, Cu.blks_mid, List.length_nil, List.cons_append, List.nil_append, List.append_nil, List.count_cons, List.count_append, List.count_nil]; omega) hm (fun hb hsp h1 => txn_commit_ok I.m I.b1 I.b2 S.s x h w0 _ h1) ?_
  rintro v Rs' ⟨rfl, rfl⟩
  exact ⟨_, ⟨rfl, rfl⟩, (by classical exact List.perm_iff_count.2 fun a => by simp only [qR, txB, Sp.spT, Sp.spR, Sp.get3, Tk.tkR, Rt.rtR, Cu.cuR, Cu.cuB, Cu.blks_mid, List.length_nil, List.cons_append, List.nil_append, List.append_nil, List.count_cons, List.count_append, List.count_nil]; omega)⟩
theorem qs_commit_no (I : QI) (S : QS) (x : Int) (h : ¬ x ∈ S.s.O) (w0 : World) (hfs : List PH) (hm : Mod hfs (qR I S) w0) :
    Calls Tryz.prog 27 #[pv I.m, .int .i64 x] w0 fun e' w' => ∃ v Rs', e' = .returned v ∧ (v = .int .i64 7 ∧ Rs' = qR I S) ∧ Mod hfs Rs' w' ∧ Oth w0 w' := by
  refine part_call (txB I.m I.b1 I.b2 S.s) (OTX I S) (by classical exact List.perm_iff_count.2 fun a => by simp only [qR, txB, Sp.spT, Sp.spR, Sp.get3, Tk.tkR, Rt.rtR, Cu.cuR, Cu.cuB, Cu.blks_mid, List.length_nil, List.cons_append, List.nil_append, List.append_nil, List.count_cons, List.count_append, List.count_nil]; omega) hm (fun hb hsp h1 => txn_commit_no I.m I.b1 I.b2 S.s x h w0 _ h1) ?_
  rintro v Rs' ⟨rfl, rfl⟩
  exact ⟨_, ⟨rfl, rfl⟩, (by classical exact List.perm_iff_count.2 fun a => by simp only [qR, txB, Sp.spT, Sp.spR, Sp.get3, Tk.tkR, Rt.rtR, Cu.cuR, Cu.cuB, Cu.blks_mid, List.length_nil, List.cons_append, List.nil_append, List.append_nil, List.count_cons, List.count_append, List.count_nil]; omega)⟩
theorem qs_abort_ok (I : QI) (S : QS) (x : Int) (h : x ∈ S.s.O) (w0 : World) (hfs : List PH) (hm : Mod hfs (qR I S) w0) :
    Calls Tryz.prog 28 #[pv I.m, .int .i64 x] w0 fun e' w' => ∃ v Rs', e' = .returned v ∧ (v = .int .i64 0 ∧ Rs' = qR I { S with s := aboS S.s x }) ∧ Mod hfs Rs' w' ∧ Oth w0 w' := by
  refine part_call (txB I.m I.b1 I.b2 S.s) (OTX I S) (by classical exact List.perm_iff_count.2 fun a => by simp only [qR, txB, Sp.spT, Sp.spR, Sp.get3, Tk.tkR, Rt.rtR, Cu.cuR, Cu.cuB, Cu.blks_mid, List.length_nil, List.cons_append, List.nil_append, List.append_nil, List.count_cons, List.count_append, List.count_nil]; omega) hm (fun hb hsp h1 => txn_abort_ok I.m I.b1 I.b2 S.s x h w0 _ h1) ?_
  rintro v Rs' ⟨rfl, rfl⟩
  exact ⟨_, ⟨rfl, rfl⟩, (by classical exact List.perm_iff_count.2 fun a => by simp only [qR, txB, Sp.spT, Sp.spR, Sp.get3, Tk.tkR, Rt.rtR, Cu.cuR, Cu.cuB, Cu.blks_mid, List.length_nil, List.cons_append, List.nil_append, List.append_nil, List.count_cons, List.count_append, List.count_nil]; omega)⟩
theorem qs_abort_no (I : QI) (S : QS) (x : Int) (h : ¬ x ∈ S.s.O) (w0 : World) (hfs : List PH) (hm : Mod hfs (qR I S) w0) :
    Calls Tryz.prog 28 #[pv I.m, .int .i64 x] w0 fun e' w' => ∃ v Rs', e' = .returned v ∧ (v = .int .i64 7 ∧ Rs' = qR I S) ∧ Mod hfs Rs' w' ∧ Oth w0 w' := by
  refine part_call (txB I.m I.b1 I.b2 S.s) (OTX I S) (by classical exact List.perm_iff_count.2 fun a => by simp only [qR, txB, Sp.spT, Sp.spR, Sp.get3, Tk.tkR, Rt.rtR, Cu.cuR, Cu.cuB, Cu.blks_mid, List.length_nil, List.cons_append, List.nil_append, List.append_nil, List.count_cons, List.count_append, List.count_nil]; omega) hm (fun hb hsp h1 => txn_abort_no I.m I.b1 I.b2 S.s x h w0 _ h1) ?_
  rintro v Rs' ⟨rfl, rfl⟩
  exact ⟨_, ⟨rfl, rfl⟩, (by classical exact List.perm_iff_count.2 fun a => by simp only [qR, txB, Sp.spT, Sp.spR, Sp.get3, Tk.tkR, Rt.rtR, Cu.cuR, Cu.cuB, Cu.blks_mid, List.length_nil, List.cons_append, List.nil_append, List.append_nil, List.count_cons, List.count_append, List.count_nil]; omega)⟩
end Go.Proofs.YthpcahgdobnljaaGreat
