/- All tables at once: a statement, Vacuum, at both. -/
import Derived.Test.YtbhlkninmbafcaaGreatR08
set_option maxRecDepth 100000
set_option autoImplicit false
set_option linter.unusedVariables false
set_option linter.unusedSimpArgs false
namespace Go.Proofs.YtbhlkninmbafcaaGreat
open Go.RX Go Go.RowKit


abbrev relD (br : Nat) (Ap : Option Addr) (cp : Nat) (ps : List (Option Addr)) (m b1 b2 : Nat) (s : TxS) (hs : List Hp) : List Res := txB m b1 b2 s ++ ([.blk br 78 [.slice Ap ps.length cp], own encP 1 79 Ap cp ps] ++ hsR m hs)
abbrev qlD (b8 : Nat) (Ap : Option Addr) (cp : Nat) (ps : List (Option Addr)) (br : Nat) (Ar : Option Addr) (cr : Nat) (R : List Int) (hs : List Hp) : List Res := refB br Ar cr R ++ ([.blk b8 39 [.slice Ap ps.length cp], own encP 1 81 Ap cp ps] ++ hsQ br hs)
/-- What a statement comes to, of any table. -/
def anyR (st : Int → Int) (v : VwM) (hs : List Hp) (k t : Int) (r : RowM) : Int → List RowM → List Hp → Prop := fun e ys hs' =>
  (rightP k (psH hs) t r.text.size = true ∧ ∃ (T : Nat) (H : Hp) (A' : Option Addr) (c' : Nat) (vs' : List VerM), t = T ∧ hs[T]? = some H ∧ runR st v H.vs k r e ys vs' ∧ hs' = hs.set T ⟨H.h, A', c', vs'⟩) ∨ (rightP k (psH hs) t r.text.size = false ∧ e = 1 ∧ ys = [] ∧ hs' = hs)
theorem right_at {k t : Int} {n : Nat} {hs : List Hp} (hr : rightP k (psH hs) t n = true) : ∃ (T : Nat) (H : Hp), t = T ∧ hs[T]? = some H := by
  simp only [rightP, Bool.and_eq_true] at hr
  have hh := hr.2.2.1
  by_cases ht : t < 0 ∨ (hs.length : Int) ≤ t
  · rw [psH_out ht] at hh; cases hh
  · exact ⟨t.toNat, hs[t.toNat]'(by omega), by omega, List.getElem?_eq_getElem (by omega)⟩
set_option maxHeartbeats 1000000 in
theorem rel_runB (br : Nat) (Ap : Option Addr) (cp : Nat) (m b1 b2 : Nat) (s : TxS) (v : VwM) (hs : List Hp) (k t : Int) (r : RowM) (hn : ∀ H ∈ hs, H.vs.length ≤ 9999) (hl : v.op.length ≤ 1000000)
    (w0 : World) (hfs : List PH) (hm : Mod hfs (relD br Ap cp (psH hs) m b1 b2 s hs) w0) (hS : RdF hfs v.S (v.op.flatMap (encI .i64))) :
    Calls Tryz.prog 15 #[.pointer (some ⟨br, 0, none⟩), v.v, mkSt k t r] w0 fun e w' => ∃ u Rs', e = .returned u ∧ (∃ e ys A2 c2 hs', anyR (stE s) v hs k t r e ys hs' ∧ u = .tuple #[.slice A2 ys.length c2, .int .i64 e] ∧ Rs' = own encR 2 55 A2 c2 ys :: relD br Ap cp (psH hs) m b1 b2 s hs') ∧ Mod hfs Rs' w' ∧ Oth w0 w' := by
  cases hr : rightP k (psH hs) t r.text.size with
  | true =>
    obtain ⟨T, H, rfl, hT⟩ := right_at hr
    have hlt : T < hs.length := (List.getElem?_eq_some_iff.1 hT).1
    obtain ⟨hb, h1, h2⟩ := (hm.permRs (can_at hT)).split
    refine (rel_run br Ap cp (psH hs) H.h m b1 b2 s H.A H.c H.vs v k T r (hn H (List.mem_of_getElem? hT)) hl hr (psH_at hT) w0 (hb ++ hfs) h1 (RdF.of_split h2 fun Rs w h => hS _ w h) (RelF.of_split h2 fun Rs w h => ⟨h.blk_behind (i := 0) rfl, h.own_behind (i := 1) rfl⟩)).mono fun e w' ⟨u, Rs', k1, ⟨e', ys, A2, c2, vs', A', c', hq, k2, k3⟩, k4, k5⟩ => ?_
    subst k3
    exact ⟨u, _, k1, ⟨e', ys, A2, c2, _, .inl ⟨hr, T, H, A', c', vs', rfl, hT, hq, rfl⟩, k2, rfl⟩, (h2 _ w' k4).permRs (List.Perm.cons _ (can_set hlt ⟨H.h, A', c', vs'⟩)), k5⟩
  | false =>
    refine (rel_run_wrong br Ap cp (psH hs) v k t r hr w0 (hm.blk_at (i := 3) rfl) (hm.own_rd (i := 4) rfl)).mono fun e w' ⟨k1, k2⟩ => ?_
    exact ⟨_, _, k1, ⟨1, [], none, 0, hs, .inr ⟨hr, rfl, rfl, rfl⟩, rfl, rfl⟩, (hm.keep fun n hn => k2.block n hn).own_nil none, Oth.of_below k2⟩

set_option maxHeartbeats 2000000 in
theorem q_run_wrong (b8 : Nat) (Ap : Option Addr) (cp : Nat) (hs : List Hp) (v : VwM) (k t : Int) (r : RowM) (hk0 : 0 ≤ k) (h0 : 0 < hs.length) (hright : rightP k (psH hs) t r.text.size = false) (w0 : World) (hb : w0.heap[b8]? = some (.cells #[.slice Ap (psH hs).length cp] 39 (0, 0))) (hA : RdW w0 Ap ((psH hs).flatMap encP)) :
    Calls Tryz.prog 16 #[.pointer (some ⟨b8, 0, none⟩), v.v, mkSt k t r] w0 fun e w' => e = .returned (.tuple #[.slice none 0 0, .int .i64 1]) ∧ BelowD w0.heap.size w0 w' := by
  have hnt := right_not (t := t) (n := r.text.size) (hs := hs) hk0
  rw [hright] at hnt
  have hnt := hnt.symm
  have hpl := psH_len hs
  obtain ⟨bp, op, rfl⟩ := RdW.some encP_is hA (ne_nil_of_lt (by omega : 0 < (psH hs).length))
  refine enterP (tab := tab) Tryz.func16 rfl Tryz.ntmps16 rfl (args := [_, _, _]) rfl ?_
  refine VC_sound tabOk 100 ?_
  intro b4 _ b5 _
  refine Go_cut (σ := Unit) (fun _ => [(45, .v (.bool true))]) (fun _ => []) (fun _ => True) ?_ ?_
  · refine Go_any mixed [] [(0, false), (1, false), (2, false), (3, false), (4, false), (5, false), (6, false), (7, false), (8, false), (9, false), (10, false), (11, false), (12, false), (13, false), (14, false), (16, false), (17, false), (18, false), (15, false), (19, false), (20, false), (21, false), (22, false), (23, false), (24, false), (25, false), (26, false), (27, false), (28, false), (29, false), (30, false), (31, false), (32, false), (33, false), (34, false)] rfl (by kernel_rfl) (by kernel_rfl) [.blk b5 57 [.int .u8 k, .int .i64 t, .int .i64 r.key, .string r.text]] (FrmX [heapOf w0]) (FrmX.stable _) (fun w hm _ => ⟨Holds.of_idx [0] hm, FrmX.of_mod hm⟩) ?_
    refine VC_sound tabOk 100 ?_
    (repeat (first | refine Or.inl ⟨rfl, rfl, ?_⟩ | refine Or.inl ⟨rfl, ?_⟩ | refine Or.inr ?_))
    refine ⟨fun g1 => ?_, fun g1 => ?_⟩
    · exact Go_put () trivial ⟨rfl, trivial⟩ (fun _ h => h.sel [] rfl)
    (repeat (first | refine Or.inl ⟨rfl, rfl, ?_⟩ | refine Or.inl ⟨rfl, ?_⟩ | refine Or.inr ?_))
    refine ⟨fun g2 => ?_, fun g2 => ?_⟩
    · exact Go_put () trivial ⟨rfl, trivial⟩ (fun _ h => h.sel [] rfl)
    (repeat (first | refine Or.inl ⟨rfl, rfl, ?_⟩ | refine Or.inl ⟨rfl, ?_⟩ | refine Or.inr ?_))
    refine ⟨fun g3 => ?_, fun g3 => ?_⟩
    · exact Go_put () trivial ⟨rfl, trivial⟩ (fun _ h => h.sel [] rfl)
    (repeat (first | refine Or.inl ⟨rfl, rfl, ?_⟩ | refine Or.inl ⟨rfl, ?_⟩ | refine Or.inr ?_))
    refine Go_first (v := .slice (some ⟨bp, op, none⟩) (psH hs).length cp) rfl rfl rfl rfl (fun w _ hw => run_loadVar_at tabOk rfl (hw (heapOf w0) (by simp) _ _ hb) rfl) ?_
    refine VC_sound tabOk 100 ?_
    refine ⟨fun g4 => ?_, fun g4 => ?_⟩
    · exact Go_put () trivial ⟨rfl, trivial⟩ (fun _ h => h.sel [] rfl)
    have g4' : decide ((hs.length : Int) ≤ t) = false := by simp at g4 ⊢; omega
    rw [g1, g2, g3, g4', Bool.false_or, Bool.false_or, Bool.false_or, Bool.false_or] at hnt
    (repeat (first | refine Or.inl ⟨rfl, rfl, ?_⟩ | refine Or.inl ⟨rfl, ?_⟩ | refine Or.inr ?_))
    refine ⟨fun g5 => ?_, fun g5 => ?_⟩
    · (repeat (first | refine Or.inl ⟨rfl, rfl, ?_⟩ | refine Or.inl ⟨rfl, ?_⟩ | refine Or.inr ?_))
      rw [g5, Bool.true_and] at hnt
      exact Go_put () trivial ⟨congrArg Value.bool (by simpa using hnt), trivial⟩ (fun _ h => h.sel [] rfl)
    · rw [g5] at hnt; simp at hnt
  rintro _ _
  refine VC_sound tabOk 100 ?_
  refine ⟨fun _ => ?_, fun h => by first | (simp at h; done) | (simp at h; omega) | (simp_all; done)⟩
  rfl
set_option maxHeartbeats 1000000 in
theorem q_runB (b8 : Nat) (Ap : Option Addr) (cp : Nat) (br : Nat) (Ar : Option Addr) (cr : Nat) (R : List Int) (v : VwM) (hs : List Hp) (k t : Int) (r : RowM) (hR : R.length ≤ 2000000) (hk0 : 0 ≤ k) (h0 : 0 < hs.length ∧ hs.length ≤ 1000) (hn : ∀ H ∈ hs, H.vs.length ≤ 9999) (hl : v.op.length ≤ 1000000)
    (w0 : World) (hfs : List PH) (hm : Mod hfs (qlD b8 Ap cp (psH hs) br Ar cr R hs) w0) (hS : RdF hfs v.S (v.op.flatMap (encI .i64))) :
    Calls Tryz.prog 16 #[.pointer (some ⟨b8, 0, none⟩), v.v, mkSt k t r] w0 fun e w' => ∃ u Rs', e = .returned u ∧ (∃ e ys A2 c2 hs', anyR (rState R) v hs k t r e ys hs' ∧ u = .tuple #[.slice A2 ys.length c2, .int .i64 e] ∧ Rs' = own encR 2 55 A2 c2 ys :: qlD b8 Ap cp (psH hs) br Ar cr R hs') ∧ Mod hfs Rs' w' ∧ Oth w0 w' := by
  cases hr : rightP k (psH hs) t r.text.size with
  | true =>
    obtain ⟨T, H, rfl, hT⟩ := right_at hr
    have hlt : T < hs.length := (List.getElem?_eq_some_iff.1 hT).1
    obtain ⟨hb, h1, h2⟩ := (hm.permRs (caq_at hT)).split
    refine (q_run b8 Ap cp hs H.h br Ar cr R H.A H.c H.vs v k T r hR (hn H (List.mem_of_getElem? hT)) hl hk0 hr (psH_at hT) h0.2 w0 (hb ++ hfs) h1 (RdF.of_split h2 fun Rs w h => hS _ w h) (RelQF.of_split h2 fun Rs w h => ⟨h.blk_behind (i := 0) rfl, h.own_behind (i := 1) rfl⟩)).mono fun e w' ⟨u, Rs', k1, ⟨e', ys, A2, c2, vs', A', c', hq, k2, k3⟩, k4, k5⟩ => ?_
    subst k3
    exact ⟨u, _, k1, ⟨e', ys, A2, c2, _, .inl ⟨hr, T, H, A', c', vs', rfl, hT, hq, rfl⟩, k2, rfl⟩, (h2 _ w' k4).permRs (List.Perm.cons _ (caq_set hlt ⟨H.h, A', c', vs'⟩)), k5⟩
  | false =>
    refine (q_run_wrong b8 Ap cp hs v k t r hk0 h0.1 hr w0 (hm.blk_at (i := 2) rfl) (hm.own_rd (i := 3) rfl)).mono fun e w' ⟨k1, k2⟩ => ?_
    exact ⟨_, _, k1, ⟨1, [], none, 0, hs, .inr ⟨hr, rfl, rfl, rfl⟩, rfl, rfl⟩, (hm.keep fun n hn => k2.block n hn).own_nil none, Oth.of_below k2⟩

/-! ### Vacuum -/
/-- How many go. -/
def vsum (st : Int → Int) (mx : Int) (op : List Int) (vss : List (List VerM)) : Int := (vss.map fun vs => (vs.length : Int) - (keepL st mx op vs).length).sum
theorem vsum_append (st : Int → Int) (mx : Int) (op : List Int) (a b : List (List VerM)) : vsum st mx op (a ++ b) = vsum st mx op a + vsum st mx op b := by simp [vsum]
theorem vsum_bound (st : Int → Int) (mx : Int) (op : List Int) : ∀ {vss : List (List VerM)}, (∀ vs ∈ vss, vs.length ≤ 1000) → 0 ≤ vsum st mx op vss ∧ vsum st mx op vss ≤ 1000 * vss.length
  | [], _ => by simp [vsum]
  | vs :: r, h => by
    have ih := vsum_bound st mx op (vss := r) fun v hv => h v (by simp [hv])
    have h1 := h vs (by simp)
    have h2 : (keepL st mx op vs).length ≤ vs.length := List.length_filter_le _ _
    have e : vsum st mx op (vs :: r) = ((vs.length : Int) - (keepL st mx op vs).length) + vsum st mx op r := by simp [vsum]
    rw [e, List.length_cons]
    omega
set_option maxHeartbeats 4000000 in
theorem rel_vacuum (br : Nat) (Ap : Option Addr) (cp : Nat) (m b1 b2 : Nat) (s : TxS) (hs : List Hp) (mx : Int) (S : Option Addr) (d : Nat) (op : List Int) (hlen : 0 < hs.length ∧ hs.length ≤ 1000) (hv : ∀ H ∈ hs, H.vs.length ≤ 1000) (hl : op.length ≤ 1000000) (w0 : World) (hfs : List PH) (hm : Mod hfs (relD br Ap cp (psH hs) m b1 b2 s hs) w0) (hS : RdF hfs S (op.flatMap (encI .i64))) :
    Calls Tryz.prog 21 #[.pointer (some ⟨br, 0, none⟩), snV mx S op.length d] w0 fun e w' => ∃ u Rs', e = .returned u ∧ (u = .int .i64 (vsum (stE s) mx op (hs.map Hp.vs)) ∧ ∃ hs2, Rs' = relD br Ap cp (psH hs) m b1 b2 s hs2) ∧ Mod hfs Rs' w' ∧ Oth w0 w' := by
  have hpl := psH_len hs
  obtain ⟨bp, o8, rfl⟩ := hm.own_some (i := 4) rfl (ne_nil_of_lt (by omega : 0 < (psH hs).length))
  refine enterN (tab := tab) Tryz.func21 rfl Tryz.ntmps21 rfl (args := [_, _]) rfl hm ?_
  refine VC_sound tabOk 100 ?_
  intro b3 _
  refine Go_ops rfl (OpTo_pcall (v := .int .i64 (psH hs).length) rfl rfl rfl rfl rfl (by kernel_rfl) (fun w hm _ => rel_tables br _ (psH hs).length cp w (hm.blk_at (i := 4) rfl)) ?_)
  refine VC_sound tabOk 100 ?_
  refine Go_loop (σ := Nat × List Hp) (fun u => [(0, .v (.pointer (some ⟨br, 0, none⟩))), (3, .v (.pointer (some ⟨b3, 0, none⟩))), (5, .v (.int .i64 (vsum (stE s) mx op ((hs.map Hp.vs).take u.1)))), (8, .v (.int .i64 (psH hs).length)), (9, .v (.int .i64 u.1))]) (fun u => txB m b1 b2 s ++ ([.blk b3 47 [.int .i64 mx, .slice S op.length d], .blk br 78 [.slice (some ⟨bp, o8, none⟩) (psH hs).length cp], own encP 1 79 (some ⟨bp, o8, none⟩) cp (psH hs)] ++ hsR m u.2)) (fun u => u.1 ≤ hs.length ∧ psH u.2 = psH hs ∧ ∀ (j : Nat) (H : Hp), u.2[j]? = some H → H.vs.length ≤ 1000 ∧ (u.1 ≤ j → (hs.map Hp.vs)[j]? = some H.vs)) (fun u => hs.length - u.1) (0, hs) ⟨Nat.zero_le _, rfl, fun j H hj => ⟨hv H (List.mem_of_getElem? hj), fun _ => by rw [List.getElem?_map, hj]; rfl⟩⟩ ⟨rfl, rfl, rfl, rfl, rfl, trivial⟩ (fun w h => (show Mod _ ((.blk b3 47 [.int .i64 mx, .slice S op.length d]) :: (relD br (some ⟨bp, o8, none⟩) cp (psH hs) m b1 b2 s hs)) w from h).permRs (by classical exact List.perm_iff_count.2 fun a => by simp only [txB, relR, List.set_cons_zero, List.set_cons_succ, List.eraseIdx_cons_succ, List.eraseIdx_cons_zero, List.cons_append, List.nil_append, List.count_cons, List.count_append, List.count_nil]; omega)) ?_
  rintro ⟨i, hs1⟩ ⟨hi, hps, hvs⟩
  dsimp only at hi hps hvs ⊢
  have hl1 : hs1.length = hs.length := by rw [← psH_len hs1, hps, psH_len]
  have hsb := vsum_bound (stE s) mx op (vss := (hs.map Hp.vs).take i) (fun vs hvs2 => by obtain ⟨H, hH, rfl⟩ := List.mem_map.1 (List.mem_of_mem_take hvs2); exact hv H hH)
  have htl : ((hs.map Hp.vs).take i).length ≤ 1000 := by simp; omega
  by_cases hlt : i < hs.length
  · obtain ⟨H, hH⟩ : ∃ H, hs1[i]? = some H := ⟨_, List.getElem?_eq_getElem (by omega)⟩
    obtain ⟨hHl, hHv⟩ := hvs i H hH
    have hHv := hHv (Nat.le_refl _)
    have hstep : vsum (stE s) mx op ((hs.map Hp.vs).take (i + 1)) = vsum (stE s) mx op ((hs.map Hp.vs).take i) + ((H.vs.length : Int) - (keepL (stE s) mx op H.vs).length) := by
      rw [List.take_add_one, hHv, vsum_append]; simp [vsum]
    have hkl : (keepL (stE s) mx op H.vs).length ≤ H.vs.length := List.length_filter_le _ _
    have hgp : (psH hs)[i]? = some (some ⟨H.h, 0, none⟩) := by rw [← hps, psH, List.getElem?_map, hH]; rfl
    refine VC_sound tabOk 100 ?_
    refine ⟨fun _ => ?_, fun h => by first | (simp at h; done) | (simp at h; omega) | (simp_all; done)⟩
    show Go _ _ _ _
    refine Go_any mixed [9] [(0, false), (1, false), (2, false), (3, false), (5, false), (4, false), (6, false), (7, false), (8, false), (9, true), (10, false), (11, false)] rfl (by kernel_rfl) (by kernel_rfl) [.blk b3 47 [.int .i64 mx, .slice S op.length d], .blk br 78 [.slice (some ⟨bp, o8, none⟩) (psH hs).length cp]] (fun w => RdW w (some ⟨bp, o8, none⟩) ((psH hs).flatMap encP)) (fun w w' hk h => h.old hk) (fun w hm _ => ⟨Holds.of_idx [3, 4] hm, by exact Mod.own_rd (k := 1) (T := 79) (c := cp) (i := 5) hm rfl⟩) ?_
    refine VC_sound tabOk 100 ?_
    (repeat (first | refine Or.inl ⟨rfl, rfl, ?_⟩ | refine Or.inl ⟨rfl, ?_⟩ | refine Or.inr ?_))
    refine ⟨⟨by omega, by omega⟩, ?_⟩
    (repeat (first | refine Or.inl ⟨rfl, rfl, ?_⟩ | refine Or.inl ⟨rfl, ?_⟩ | refine Or.inr ?_))
    refine Go_first (v := .pointer (some ⟨H.h, 0, none⟩)) rfl rfl rfl rfl (fun w _ hw => rxLoadRow tabOk rfl encP_is rfl (fun h => rfl) hw hgp (by first | (simp only [addA]; rfl) | simp only [addA] | rfl) rfl) ?_
    refine VC_sound tabOk 100 ?_
    (repeat (first | refine Or.inl ⟨rfl, rfl, ?_⟩ | refine Or.inl ⟨rfl, ?_⟩ | refine Or.inr ?_))
    refine Go_aloneM rfl rfl rfl (OpTo_mcall (hpX H.h m b1 b2 s H.A H.c H.vs) ([.blk b3 47 [.int .i64 mx, .slice S op.length d], .blk br 78 [.slice (some ⟨bp, o8, none⟩) (psH hs).length cp], own encP 1 79 (some ⟨bp, o8, none⟩) cp (psH hs)] ++ hsR m (hs1.eraseIdx i)) (can_at hH) rfl rfl rfl rfl rfl (by kernel_rfl) (fun w hb hm hio hsp k => hp_vacuum H.h m b1 b2 s H.A H.c H.vs mx S d op (by omega) hl w _ k (RdF.of_split hsp fun Rs w h => hS _ w h)) ?_)
    rintro _ _ ⟨rfl, rfl⟩
    refine VC_sound tabOk 100 ?_
    refine ⟨_, wrap_i64 (n := vsum (stE s) mx op ((hs.map Hp.vs).take i) + ((H.vs.length : Int) - (keepL (stE s) mx op H.vs).length)) (by omega) (by omega), ?_⟩
    refine ⟨_, wrap_i64 (n := (i : Int) + 1) (by omega) (by omega), ?_⟩
    refine Go_fin (i + 1, hs1.set i ⟨H.h, H.A, H.c, keepL (stE s) mx op H.vs⟩) ⟨by dsimp only; omega, by dsimp only; rw [psH_set hH]; exact hps, fun j H2 hj => ?_⟩ (by dsimp only; omega) ⟨rfl, rfl, (by dsimp only; rw [hstep]), rfl, rfl, trivial⟩ (fun w h => h.permRs (can_set (by omega) ⟨H.h, H.A, H.c, keepL (stE s) mx op H.vs⟩))
    dsimp only at hj
    rw [List.getElem?_set] at hj
    split at hj
    · rename_i hij
      subst hij
      split at hj
      · simp at hj; subst hj; exact ⟨by dsimp only; omega, fun h => by dsimp only at h; omega⟩
      · cases hj
    · have := hvs j H2 hj
      exact ⟨this.1, fun h => this.2 (by dsimp only at h; omega)⟩
  have he : i = hs.length := by omega
  subst he
  rw [show ((hs.map Hp.vs).take hs.length) = hs.map Hp.vs from List.take_of_length_le (by simp)]
  refine VC_sound tabOk 100 ?_
  refine ⟨fun h => by first | (simp at h; done) | (simp at h; omega) | (simp_all; done), fun _ => ?_⟩
  exact ⟨_, ⟨rfl, hs1, rfl⟩, fun _ _ h => (h.permRs (b := (.blk b3 47 [.int .i64 mx, .slice S op.length d]) :: (relD br (some ⟨bp, o8, none⟩) cp (psH hs) m b1 b2 s hs1)) (by classical exact List.perm_iff_count.2 fun a => by simp only [txB, relR, List.set_cons_zero, List.set_cons_succ, List.eraseIdx_cons_succ, List.eraseIdx_cons_zero, List.cons_append, List.nil_append, List.count_cons, List.count_append, List.count_nil]; omega)).dropAt 0⟩
set_option maxHeartbeats 4000000 in
theorem q_vacuum (b8 : Nat) (Ap : Option Addr) (cp : Nat) (br : Nat) (Ar : Option Addr) (cr : Nat) (R : List Int) (hs : List Hp) (mx : Int) (S : Option Addr) (d : Nat) (op : List Int) (hR : R.length ≤ 2000000) (hlen : 0 < hs.length ∧ hs.length ≤ 1000) (hv : ∀ H ∈ hs, H.vs.length ≤ 1000) (hl : op.length ≤ 1000000) (w0 : World) (hfs : List PH) (hm : Mod hfs (qlD b8 Ap cp (psH hs) br Ar cr R hs) w0) (hS : RdF hfs S (op.flatMap (encI .i64))) :
    Calls Tryz.prog 23 #[.pointer (some ⟨b8, 0, none⟩), snV mx S op.length d] w0 fun e w' => ∃ u Rs', e = .returned u ∧ (u = .int .i64 (vsum (rState R) mx op (hs.map Hp.vs)) ∧ ∃ hs2, Rs' = qlD b8 Ap cp (psH hs) br Ar cr R hs2) ∧ Mod hfs Rs' w' ∧ Oth w0 w' := by
  have hpl := psH_len hs
  obtain ⟨bp, o8, rfl⟩ := hm.own_some (i := 3) rfl (ne_nil_of_lt (by omega : 0 < (psH hs).length))
  refine enterN (tab := tab) Tryz.func23 rfl Tryz.ntmps23 rfl (args := [_, _]) rfl hm ?_
  refine VC_sound tabOk 100 ?_
  intro b3 _
  refine Go_loop (σ := Nat × List Hp) (fun u => [(0, .v (.pointer (some ⟨b8, 0, none⟩))), (3, .v (.pointer (some ⟨b3, 0, none⟩))), (5, .v (.int .i64 (vsum (rState R) mx op ((hs.map Hp.vs).take u.1)))), (6, .v (.int .i64 u.1))]) (fun u => refB br Ar cr R ++ ([.blk b3 47 [.int .i64 mx, .slice S op.length d], .blk b8 39 [.slice (some ⟨bp, o8, none⟩) (psH hs).length cp], own encP 1 81 (some ⟨bp, o8, none⟩) cp (psH hs)] ++ hsQ br u.2)) (fun u => u.1 ≤ hs.length ∧ psH u.2 = psH hs ∧ ∀ (j : Nat) (H : Hp), u.2[j]? = some H → H.vs.length ≤ 1000 ∧ (u.1 ≤ j → (hs.map Hp.vs)[j]? = some H.vs)) (fun u => hs.length - u.1) (0, hs) ⟨Nat.zero_le _, rfl, fun j H hj => ⟨hv H (List.mem_of_getElem? hj), fun _ => by rw [List.getElem?_map, hj]; rfl⟩⟩ ⟨rfl, rfl, rfl, rfl, trivial⟩ (fun w h => (show Mod _ ((.blk b3 47 [.int .i64 mx, .slice S op.length d]) :: (qlD b8 (some ⟨bp, o8, none⟩) cp (psH hs) br Ar cr R hs)) w from h).permRs (by classical exact List.perm_iff_count.2 fun a => by simp only [txB, relR, List.set_cons_zero, List.set_cons_succ, List.eraseIdx_cons_succ, List.eraseIdx_cons_zero, List.cons_append, List.nil_append, List.count_cons, List.count_append, List.count_nil]; omega)) ?_
  rintro ⟨i, hs1⟩ ⟨hi, hps, hvs⟩
  dsimp only at hi hps hvs ⊢
  have hl1 : hs1.length = hs.length := by rw [← psH_len hs1, hps, psH_len]
  have hsb := vsum_bound (rState R) mx op (vss := (hs.map Hp.vs).take i) (fun vs hvs2 => by obtain ⟨H, hH, rfl⟩ := List.mem_map.1 (List.mem_of_mem_take hvs2); exact hv H hH)
  have htl : ((hs.map Hp.vs).take i).length ≤ 1000 := by simp; omega
  by_cases hlt : i < hs.length
  · obtain ⟨H, hH⟩ : ∃ H, hs1[i]? = some H := ⟨_, List.getElem?_eq_getElem (by omega)⟩
    obtain ⟨hHl, hHv⟩ := hvs i H hH
    have hHv := hHv (Nat.le_refl _)
    have hstep : vsum (rState R) mx op ((hs.map Hp.vs).take (i + 1)) = vsum (rState R) mx op ((hs.map Hp.vs).take i) + ((H.vs.length : Int) - (keepL (rState R) mx op H.vs).length) := by
      rw [List.take_add_one, hHv, vsum_append]; simp [vsum]
    have hkl : (keepL (rState R) mx op H.vs).length ≤ H.vs.length := List.length_filter_le _ _
    have hgp : (psH hs)[i]? = some (some ⟨H.h, 0, none⟩) := by rw [← hps, psH, List.getElem?_map, hH]; rfl
    refine VC_sound tabOk 100 ?_
    (repeat (first | refine Or.inl ⟨rfl, rfl, ?_⟩ | refine Or.inl ⟨rfl, ?_⟩ | refine Or.inr ?_))
    refine ⟨fun _ => ?_, fun h => by first | (simp at h; done) | (simp at h; omega) | (simp_all; done)⟩
    show Go _ _ _ _
    refine Go_any mixed [9] [(0, false), (1, false), (2, false), (3, false), (5, false), (4, false), (6, false), (7, false), (8, false), (9, true), (10, false), (11, false)] rfl (by kernel_rfl) (by kernel_rfl) [.blk b3 47 [.int .i64 mx, .slice S op.length d], .blk b8 39 [.slice (some ⟨bp, o8, none⟩) (psH hs).length cp]] (fun w => RdW w (some ⟨bp, o8, none⟩) ((psH hs).flatMap encP)) (fun w w' hk h => h.old hk) (fun w hm _ => ⟨Holds.of_idx [2, 3] hm, by exact Mod.own_rd (k := 1) (T := 81) (c := cp) (i := 4) hm rfl⟩) ?_
    refine VC_sound tabOk 100 ?_
    (repeat (first | refine Or.inl ⟨rfl, rfl, ?_⟩ | refine Or.inl ⟨rfl, ?_⟩ | refine Or.inr ?_))
    refine ⟨⟨by omega, by omega⟩, ?_⟩
    (repeat (first | refine Or.inl ⟨rfl, rfl, ?_⟩ | refine Or.inl ⟨rfl, ?_⟩ | refine Or.inr ?_))
    refine Go_first (v := .pointer (some ⟨H.h, 0, none⟩)) rfl rfl rfl rfl (fun w _ hw => rxLoadRow tabOk rfl encP_is rfl (fun h => rfl) hw hgp (by first | (simp only [addA]; rfl) | simp only [addA] | rfl) rfl) ?_
    refine VC_sound tabOk 100 ?_
    (repeat (first | refine Or.inl ⟨rfl, rfl, ?_⟩ | refine Or.inl ⟨rfl, ?_⟩ | refine Or.inr ?_))
    refine Go_aloneM rfl rfl rfl (OpTo_mcall (hqX H.h br Ar cr R H.A H.c H.vs) ([.blk b3 47 [.int .i64 mx, .slice S op.length d], .blk b8 39 [.slice (some ⟨bp, o8, none⟩) (psH hs).length cp], own encP 1 81 (some ⟨bp, o8, none⟩) cp (psH hs)] ++ hsQ br (hs1.eraseIdx i)) (caq_at hH) rfl rfl rfl rfl rfl (by kernel_rfl) (fun w hb hm hio hsp k => r7_vacuum H.h br Ar cr R H.A H.c H.vs mx S d op hR (by omega) hl w _ k (RdF.of_split hsp fun Rs w h => hS _ w h)) ?_)
    rintro _ _ ⟨rfl, A', c', rfl⟩
    refine VC_sound tabOk 100 ?_
    refine ⟨_, wrap_i64 (n := vsum (rState R) mx op ((hs.map Hp.vs).take i) + ((H.vs.length : Int) - (keepL (rState R) mx op H.vs).length)) (by omega) (by omega), ?_⟩
    refine ⟨_, wrap_i64 (n := (i : Int) + 1) (by omega) (by omega), ?_⟩
    refine Go_fin (i + 1, hs1.set i ⟨H.h, A', c', keepL (rState R) mx op H.vs⟩) ⟨by dsimp only; omega, by dsimp only; rw [psH_set hH]; exact hps, fun j H2 hj => ?_⟩ (by dsimp only; omega) ⟨rfl, rfl, (by dsimp only; rw [hstep]), rfl, trivial⟩ (fun w h => h.permRs (caq_set (by omega) ⟨H.h, A', c', keepL (rState R) mx op H.vs⟩))
    dsimp only at hj
    rw [List.getElem?_set] at hj
    split at hj
    · rename_i hij
      subst hij
      split at hj
      · simp at hj; subst hj; exact ⟨by dsimp only; omega, fun h => by dsimp only at h; omega⟩
      · cases hj
    · have := hvs j H2 hj
      exact ⟨this.1, fun h => this.2 (by dsimp only at h; omega)⟩
  have he : i = hs.length := by omega
  subst he
  rw [show ((hs.map Hp.vs).take hs.length) = hs.map Hp.vs from List.take_of_length_le (by simp)]
  refine VC_sound tabOk 100 ?_
  (repeat (first | refine Or.inl ⟨rfl, rfl, ?_⟩ | refine Or.inl ⟨rfl, ?_⟩ | refine Or.inr ?_))
  refine ⟨fun h => by first | (simp at h; done) | (simp at h; omega) | (simp_all; done), fun _ => ?_⟩
  exact ⟨_, ⟨rfl, hs1, rfl⟩, fun _ _ h => (h.permRs (b := (.blk b3 47 [.int .i64 mx, .slice S op.length d]) :: (qlD b8 (some ⟨bp, o8, none⟩) cp (psH hs) br Ar cr R hs1)) (by classical exact List.perm_iff_count.2 fun a => by simp only [txB, relR, List.set_cons_zero, List.set_cons_succ, List.eraseIdx_cons_succ, List.eraseIdx_cons_zero, List.cons_append, List.nil_append, List.count_cons, List.count_append, List.count_nil]; omega)).dropAt 0⟩
end Go.Proofs.YtbhlkninmbafcaaGreat
