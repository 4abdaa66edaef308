/- What Vacuum does, of package heap and of the reference of layer 7; the reference's Now. -/
import Derived.Test.YtbhlkninmbafcaaGreatR07c
set_option maxRecDepth 100000
set_option autoImplicit false
set_option linter.unusedVariables false
set_option linter.unusedSimpArgs false
namespace Go.Proofs.YtbhlkninmbafcaaGreat
open Go.RX Go Go.RowKit


/-- Does nobody see a version any more? -/
def vacP (st : Int → Int) (mx : Int) (op : List Int) (x : VerM) : Bool := decide (st x.born = 3) || (decide (st x.died = 2) && snSees mx op x.died)
abbrev keepL (st : Int → Int) (mx : Int) (op : List Int) (vs : List VerM) : List VerM := vs.filter fun x => !vacP st mx op x

set_option maxHeartbeats 1000000 in
theorem hp_vac1 (h m b1 b2 : Nat) (s : TxS) (A : Option Addr) (n c : Nat) (mx : Int) (S : Option Addr) (d : Nat) (op : List Int) (x : VerM) (k2 k3 : Nat) (w0 : World) (hb : w0.heap[h]? = some (.cells (hpV m A n c).toArray 108 (0, 0)))
    (hg : w0.heap[m]? = some (.cells #[.int .i64 s.next, .map (some b1), .map (some b2)] 75 (0, 0))) (tO : MpAt KI Value.bool w0 b1 (tm s.O)) (tD : MpAt KI Value.bool w0 b2 (tm s.D))
    (h2 : w0.heap[k2]? = some (.cells #[.pointer (some ⟨h, 0, none⟩)] 79 (0, 0))) (h3 : w0.heap[k3]? = some (.cells #[.int .i64 mx, .slice S op.length d] 47 (0, 0))) (hS : RdI w0 S op) (hl : op.length ≤ 1000000) :
    Calls Tryz.prog 66 #[mkV x, .pointer (some ⟨k2, 0, none⟩), .pointer (some ⟨k3, 0, none⟩)] w0 fun e w' => e = .returned (.bool (vacP (stE s) mx op x)) ∧ BelowD w0.heap.size w0 w' := by
  refine enterP (tab := tab) Tryz.func66 rfl Tryz.ntmps66 rfl (args := [_, _, _]) rfl ?_
  refine VC_sound tabOk 100 ?_
  intro b3 _
  show Go _ _ _ _
  refine Go_any mixed [] [(4, false), (0, false), (1, false), (2, false), (3, false), (5, false), (6, true), (7, false), (8, false), (13, false), (9, false), (10, false), (11, false), (12, false), (14, false), (15, true), (16, false), (17, false), (19, false), (18, false), (20, false), (21, true), (22, false), (23, false), (24, false)] rfl (by kernel_rfl) (by kernel_rfl) [.blk b3 113 (encV x)] (FrmX [heapOf w0]) (FrmX.stable _) (fun w hm _ => ⟨Holds.of_idx [0] hm, FrmX.of_mod hm⟩) ?_
  refine VC_sound tabOk 100 ?_
  (repeat (first | refine Or.inl ⟨rfl, rfl, ?_⟩ | refine Or.inl ⟨rfl, ?_⟩ | refine Or.inr ?_))
  refine Go_first (v := .pointer (some ⟨h, 0, none⟩)) rfl rfl rfl rfl (fun w _ hw => run_loadVar_at tabOk rfl (hw (heapOf w0) (by simp) _ _ h2) rfl) ?_
  refine VC_sound tabOk 100 ?_
  (repeat (first | refine Or.inl ⟨rfl, rfl, ?_⟩ | refine Or.inl ⟨rfl, ?_⟩ | refine Or.inr ?_))
  refine Go_first (v := .pointer (some ⟨m, 0, none⟩)) rfl rfl rfl rfl (fun w _ hw => run_loadVar_at tabOk rfl (hw (heapOf w0) (by simp) _ _ hb) rfl) ?_
  refine VC_sound tabOk 100 ?_
  (repeat (first | refine Or.inl ⟨rfl, rfl, ?_⟩ | refine Or.inl ⟨rfl, ?_⟩ | refine Or.inr ?_))
  refine Go_aloneL rfl rfl (OpTo_pcall (v := .int .u8 (stE s x.born)) rfl rfl rfl rfl rfl (by kernel_rfl) (fun w hm _ => txn_state_p m b1 b2 s x.born w (hm.block_old hg) (tO.old fun n hn => hm.old n hn) (tD.old fun n hn => hm.old n hn)) ?_)
  refine And.intro (fun w hm _ => ⟨Holds.of_idx [0] hm, FrmX.of_mod hm⟩) ?_
  refine VC_sound tabOk 100 ?_
  refine ⟨fun g1 => ?_, fun g1 => ?_⟩
  · exact congrArg Value.bool (by simp only [vacP, g1, Bool.true_or])
  (repeat (first | refine Or.inl ⟨rfl, rfl, ?_⟩ | refine Or.inl ⟨rfl, ?_⟩ | refine Or.inr ?_))
  refine Go_first (v := .pointer (some ⟨h, 0, none⟩)) rfl rfl rfl rfl (fun w _ hw => run_loadVar_at tabOk rfl (hw (heapOf w0) (by simp) _ _ h2) rfl) ?_
  refine VC_sound tabOk 100 ?_
  (repeat (first | refine Or.inl ⟨rfl, rfl, ?_⟩ | refine Or.inl ⟨rfl, ?_⟩ | refine Or.inr ?_))
  refine Go_first (v := .pointer (some ⟨m, 0, none⟩)) rfl rfl rfl rfl (fun w _ hw => run_loadVar_at tabOk rfl (hw (heapOf w0) (by simp) _ _ hb) rfl) ?_
  refine VC_sound tabOk 100 ?_
  (repeat (first | refine Or.inl ⟨rfl, rfl, ?_⟩ | refine Or.inl ⟨rfl, ?_⟩ | refine Or.inr ?_))
  refine Go_aloneL rfl rfl (OpTo_pcall (v := .int .u8 (stE s x.died)) rfl rfl rfl rfl rfl (by kernel_rfl) (fun w hm _ => txn_state_p m b1 b2 s x.died w (hm.block_old hg) (tO.old fun n hn => hm.old n hn) (tD.old fun n hn => hm.old n hn)) ?_)
  refine And.intro (fun w hm _ => ⟨Holds.of_idx [0] hm, FrmX.of_mod hm⟩) ?_
  refine VC_sound tabOk 100 ?_
  refine ⟨fun g2 => ?_, fun g2 => ?_⟩
  rotate_left
  · exact congrArg Value.bool (by simp only [vacP, g1, g2, Bool.false_or, Bool.false_and])
  (repeat (first | refine Or.inl ⟨rfl, rfl, ?_⟩ | refine Or.inl ⟨rfl, ?_⟩ | refine Or.inr ?_))
  refine Go_first (v := snV mx S op.length d) rfl rfl rfl rfl (fun w _ hw => run_loadVar_at tabOk rfl (hw (heapOf w0) (by simp) _ _ h3) rfl) ?_
  refine VC_sound tabOk 100 ?_
  (repeat (first | refine Or.inl ⟨rfl, rfl, ?_⟩ | refine Or.inl ⟨rfl, ?_⟩ | refine Or.inr ?_))
  refine Go_aloneL rfl rfl (OpTo_pcall (v := .bool (snSees mx op x.died)) rfl rfl rfl rfl rfl (by kernel_rfl) (fun w hm _ => snap_sees mx S d op x.died w (hS.mod hm) (by omega)) ?_)
  refine And.intro (fun w hm _ => ⟨Holds.of_idx [0] hm, FrmX.of_mod hm⟩) ?_
  refine VC_sound tabOk 100 ?_
  exact congrArg Value.bool (by simp only [vacP, g1, g2, Bool.true_and, Bool.false_or])

set_option maxHeartbeats 2000000 in
theorem hp_vacuum (h m b1 b2 : Nat) (s : TxS) (A : Option Addr) (c : Nat) (vs : List VerM) (mx : Int) (S : Option Addr) (d : Nat) (op : List Int) (hn : vs.length ≤ 1000000) (hl : op.length ≤ 1000000) (w0 : World) (hfs : List PH) (hm : Mod hfs (hpX h m b1 b2 s A c vs) w0) (hS : RdF hfs S (op.flatMap (encI .i64))) :
    Calls Tryz.prog 43 #[.pointer (some ⟨h, 0, none⟩), snV mx S op.length d] w0 fun e w' => ∃ u Rs', e = .returned u ∧ (u = .int .i64 ((vs.length : Int) - (keepL (stE s) mx op vs).length) ∧ Rs' = hpX h m b1 b2 s A c (keepL (stE s) mx op vs)) ∧ Mod hfs Rs' w' ∧ Oth w0 w' := by
  refine enterN (tab := tab) Tryz.func43 rfl Tryz.ntmps43 rfl (args := [_, _]) rfl hm ?_
  refine VC_sound tabOk 100 ?_
  intro b2' _ b3 _
  (repeat (first | refine Or.inl ⟨rfl, rfl, ?_⟩ | refine Or.inl ⟨rfl, ?_⟩ | refine Or.inr ?_))
  refine Go_ops rfl (OpTo_pcall (v := .int .i64 vs.length) rfl rfl rfl rfl rfl (by kernel_rfl) (fun w hm _ => hp_len h m b1 b2 s A c vs w (HpAt.of hm 2 rfl rfl rfl rfl rfl)) ?_)
  refine VC_sound tabOk 100 ?_
  refine ⟨fun h1 => ?_, fun h1 => ?_⟩
  · have : vs = [] := by simpa using h1
    subst this
    exact ⟨_, ⟨rfl, rfl⟩, fun _ _ h => h.sel [2, 3, 4, 5, 6] rfl⟩
  refine Go_sel [3, 1, 0, 2, 4, 5, 6] rfl ?_
  show Go _ _ _ _
  refine Go_any mixed [9] [(5, false), (0, false), (1, false), (2, false), (3, false), (4, false), (6, true), (7, false), (8, false), (9, true)] rfl (by kernel_rfl) (by kernel_rfl) [.blk b2' 79 [.pointer (some ⟨h, 0, none⟩)], .blk h 108 (hpV m A vs.length c)] (FrmX hfs) (FrmX.stable _) (fun w hm _ => ⟨Holds.of_idx [1, 3] hm, FrmX.of_mod hm⟩) ?_
  refine VC_sound tabOk 100 ?_
  (repeat (first | refine Or.inl ⟨rfl, rfl, ?_⟩ | refine Or.inl ⟨rfl, ?_⟩ | refine Or.inr ?_))
  refine Go_aloneL rfl rfl (OpTo_mcall [own encV 4 113 A c vs] ([.blk b2' 79 [.pointer (some ⟨h, 0, none⟩)], .blk b3 47 [.int .i64 mx, .slice S op.length d], .blk h 108 (hpV m A vs.length c)] ++ txB m b1 b2 s) (List.Perm.of_eq rfl) rfl rfl rfl rfl rfl (by kernel_rfl)
    (fun w hb hm hio hsp h1 => sl_delete_V A c vs 66 #[] #[.pointer (some ⟨b2', 0, none⟩), .pointer (some ⟨b3, 0, none⟩)] (vacP (stE s) mx op) w (hb ++ hfs) h1 (by omega) (by kernel_rfl)
      (fun x _ Rs w hh => hp_vac1 h m b1 b2 s A vs.length c mx S d op x b2' b3 w ((hsp _ _ hh).blk_behind (i := 2) rfl) ((hsp _ _ hh).blk_behind (i := 3) rfl) (MpAt.of_mod (i := 4) (hsp _ _ hh).drop rfl) (MpAt.of_mod (i := 5) (hsp _ _ hh).drop rfl) ((hsp _ _ hh).blk_behind (i := 0) rfl) ((hsp _ _ hh).blk_behind (i := 1) rfl) (hS _ w (hsp _ _ hh)) hl)) ?_)
  rintro _ _ ⟨rfl, rfl⟩
  refine And.intro (fun w hm _ => ⟨Holds.of_idx [1, 3] hm, FrmX.of_mod hm⟩) ?_
  refine VC_sound tabOk 100 ?_
  (repeat (first | refine Or.inl ⟨rfl, rfl, ?_⟩ | refine Or.inl ⟨rfl, ?_⟩ | refine Or.inr ?_))
  have hle : (keepL (stE s) mx op vs).length ≤ vs.length := List.length_filter_le _ vs
  refine ⟨_, wrap_i64 (n := (vs.length : Int) - (keepL (stE s) mx op vs).length) (by omega) (by omega), ?_⟩
  exact ⟨_, ⟨rfl, rfl⟩, fun hfs w h => h.sel [3, 0, 4, 5, 6] rfl⟩

theorem r06_now (br : Nat) (A : Option Addr) (c : Nat) (R : List Int) (w0 : World) (hb : w0.heap[br]? = some (.cells #[.slice A R.length c] 30 (0, 0))) (hr : RdW w0 A (R.flatMap encU)) (hl : R.length ≤ 2000000) :
    Calls Tryz.prog 12 #[.pointer (some ⟨br, 0, none⟩)] w0 fun e w' => ∃ v Rs', e = .returned v ∧ (∃ A' c', v = snV ((R.length : Int) + 1) A' (pos 1 R).length c' ∧ Rs' = [own (encI .i64) 1 2 A' c' (pos 1 R)]) ∧ Mod [heapOf w0] Rs' w' ∧ Oth w0 w' := by
  refine enterN (tab := tab) Tryz.func12 rfl Tryz.ntmps12 rfl (args := [_]) rfl (Mod.start w0) ?_
  refine VC_sound tabOk 100 ?_
  intro b2 _
  refine Go_ops rfl (OpTo_pcall (v := .int .i64 ((R.length : Int) + 1)) rfl rfl rfl rfl rfl (by kernel_rfl) (fun w hm _ => r06_next br A c R w (hm.block_old hb) hl) ?_)
  refine VC_sound tabOk 100 ?_
  show Go _ _ _ _
  refine Go_ops rfl (OpTo_ncall rfl rfl rfl rfl rfl (by kernel_rfl) (fun w hm _ => r06_open br A c R w (hm.block_old hb) (hr.mod hm) hl) ?_)
  rintro _ _ ⟨A1, c1, rfl, rfl⟩
  refine VC_sound tabOk 100 ?_
  (repeat (first | refine Or.inl ⟨rfl, rfl, ?_⟩ | refine Or.inl ⟨rfl, ?_⟩ | refine Or.inr ?_))
  exact ⟨_, ⟨A1, c1, rfl, rfl⟩, fun _ _ h => h.sel [0] rfl⟩

set_option maxHeartbeats 4000000 in
theorem r7_vacuum (h br : Nat) (Ar : Option Addr) (cr : Nat) (R : List Int) (A : Option Addr) (c : Nat) (vs : List VerM) (mx : Int) (S : Option Addr) (d : Nat) (op : List Int) (hR : R.length ≤ 2000000) (hn : vs.length ≤ 1000000) (hl : op.length ≤ 1000000) (w0 : World) (hfs : List PH) (hm : Mod hfs (hqX h br Ar cr R A c vs) w0) (hS : RdF hfs S (op.flatMap (encI .i64))) :
    Calls Tryz.prog 46 #[.pointer (some ⟨h, 0, none⟩), snV mx S op.length d] w0 fun e w' => ∃ u Rs', e = .returned u ∧ (u = .int .i64 ((vs.length : Int) - (keepL (rState R) mx op vs).length) ∧ ∃ A' c', Rs' = hqX h br Ar cr R A' c' (keepL (rState R) mx op vs)) ∧ Mod hfs Rs' w' ∧ Oth w0 w' := by
  have hA : vs ≠ [] → ∃ b o, A = some ⟨b, o, none⟩ := fun h => hm.own_some (i := 1) rfl h
  refine enterN (tab := tab) Tryz.func46 rfl Tryz.ntmps46 rfl (args := [_, _]) rfl hm ?_
  refine VC_sound tabOk 100 ?_
  intro b3 _
  refine Go_loop (σ := Nat × Option Addr × Nat) (fun u => [(0, .v (.pointer (some ⟨h, 0, none⟩))), (3, .v (.pointer (some ⟨b3, 0, none⟩))), (5, .v (.slice u.2.1 (keepL (rState R) mx op (vs.take u.1)).length u.2.2)), (6, .v (.int .i64 u.1))]) (fun u => own encV 4 123 u.2.1 u.2.2 (keepL (rState R) mx op (vs.take u.1)) :: .blk b3 47 [.int .i64 mx, .slice S op.length d] :: hqX h br Ar cr R A c vs) (fun u => u.1 ≤ vs.length) (fun u => vs.length - u.1) (0, none, 0) (Nat.zero_le _) ⟨rfl, rfl, rfl, rfl, trivial⟩ (fun _ h => h.own_nil none) ?_
  rintro ⟨i, A1, c1⟩ hi
  dsimp only at hi ⊢
  have hkl : (keepL (rState R) mx op (vs.take i)).length ≤ vs.length := Nat.le_trans (List.length_filter_le _ _) (by simp; omega)
  by_cases hlt : i < vs.length
  rotate_left
  · have he : i = vs.length := by omega
    subst he
    rw [List.take_length] at hkl ⊢
    refine VC_sound tabOk 100 ?_
    (repeat (first | refine Or.inl ⟨rfl, rfl, ?_⟩ | refine Or.inl ⟨rfl, ?_⟩ | refine Or.inr ?_))
    refine ⟨fun h => by first | (simp at h; done) | (simp at h; omega) | (simp_all; done), fun _ => ?_⟩
    (repeat (first | refine Or.inl ⟨rfl, rfl, ?_⟩ | refine Or.inl ⟨rfl, ?_⟩ | refine Or.inr ?_))
    refine ⟨_, wrap_i64 (n := (vs.length : Int) - (keepL (rState R) mx op vs).length) (by omega) (by omega), ?_⟩
    (repeat (first | refine Or.inl ⟨rfl, rfl, ?_⟩ | refine Or.inl ⟨rfl, ?_⟩ | refine Or.inr ?_))
    exact ⟨_, ⟨rfl, A1, c1, rfl⟩, fun _ _ h => h.sel [2, 0, 4, 5] rfl⟩
  obtain ⟨ba, oa, rfl⟩ := hA (ne_nil_of_lt hlt)
  obtain ⟨x, hgx⟩ : ∃ x, vs[i]? = some x := ⟨_, List.getElem?_eq_getElem hlt⟩
  have hstep : keepL (rState R) mx op (vs.take (i + 1)) = keepL (rState R) mx op (vs.take i) ++ if vacP (rState R) mx op x = true then [] else [x] := by
    rw [keepL, List.take_add_one, hgx, List.filter_append]
    congr 1
    by_cases hv : vacP (rState R) mx op x = true <;> simp [hv]
  refine VC_sound tabOk 100 ?_
  (repeat (first | refine Or.inl ⟨rfl, rfl, ?_⟩ | refine Or.inl ⟨rfl, ?_⟩ | refine Or.inr ?_))
  refine ⟨fun _ => ?_, fun h => by first | (simp at h; done) | (simp at h; omega) | (simp_all; done)⟩
  (repeat (first | refine Or.inl ⟨rfl, rfl, ?_⟩ | refine Or.inl ⟨rfl, ?_⟩ | refine Or.inr ?_))
  refine ⟨⟨by omega, by omega⟩, ?_⟩
  (repeat (first | refine Or.inl ⟨rfl, rfl, ?_⟩ | refine Or.inl ⟨rfl, ?_⟩ | refine Or.inr ?_))
  refine Go_ops rfl (OpTo_loadRow tabOk encV_is (mkV x) rfl rfl rfl rfl rfl (fun h => by first | rfl | cases h) (fun w hm _ => hm.own_rd (i := 3) rfl) hgx (by simp only [addA]; rfl) ?_)
  refine VC_sound tabOk 100 ?_
  intro b7 _
  (repeat (first | refine Or.inl ⟨rfl, rfl, ?_⟩ | refine Or.inl ⟨rfl, ?_⟩ | refine Or.inr ?_))
  refine Go_cut (σ := Unit) (fun _ => [(0, .v (.pointer (some ⟨h, 0, none⟩))), (3, .v (.pointer (some ⟨b3, 0, none⟩))), (5, .v (.slice A1 (keepL (rState R) mx op (vs.take i)).length c1)), (6, .v (.int .i64 i)), (7, .v (.pointer (some ⟨b7, 0, none⟩))), (48, .v (.bool (vacP (rState R) mx op x)))]) (fun _ => .blk b7 123 (encV x) :: own encV 4 123 A1 c1 (keepL (rState R) mx op (vs.take i)) :: .blk b3 47 [.int .i64 mx, .slice S op.length d] :: hqX h br Ar cr R (some ⟨ba, oa, none⟩) c vs) (fun _ => True) ?_ ?_
  · refine Go_any mixed [] [(0, false), (1, false), (2, false), (4, false), (3, false), (5, false), (6, true), (7, false), (8, false), (9, false), (10, false), (11, false), (13, false), (12, false), (14, false), (15, true), (16, false), (17, false), (19, false), (18, false), (20, false), (21, true), (22, false), (23, false)] rfl (by kernel_rfl) (by kernel_rfl) [.blk b7 123 (encV x), .blk b3 47 [.int .i64 mx, .slice S op.length d], .blk h 84 (hpV br (some ⟨ba, oa, none⟩) vs.length c)] (FrmX hfs) (FrmX.stable _) (fun w hm _ => ⟨Holds.of_idx [0, 2, 3] hm, FrmX.of_mod hm⟩) ?_
    refine VC_sound tabOk 100 ?_
    (repeat (first | refine Or.inl ⟨rfl, rfl, ?_⟩ | refine Or.inl ⟨rfl, ?_⟩ | refine Or.inr ?_))
    refine Go_aloneL rfl rfl (OpTo_pcall (v := .int .u8 (rState R x.born)) rfl rfl rfl rfl rfl (by kernel_rfl) (fun w hm _ => r06_state br Ar cr R x.born w (hm.blk_at (i := 5) rfl) (hm.own_rd (i := 6) rfl) hR) ?_)
    refine And.intro (fun w hm _ => ⟨Holds.of_idx [0, 2, 3] hm, FrmX.of_mod hm⟩) ?_
    refine VC_sound tabOk 100 ?_
    refine ⟨fun g1 => ?_, fun g1 => ?_⟩
    · exact Go_put () trivial ⟨rfl, rfl, rfl, rfl, rfl, congrArg Value.bool (by simp only [vacP, g1, Bool.true_or]), trivial⟩ (fun _ h => h)
    (repeat (first | refine Or.inl ⟨rfl, rfl, ?_⟩ | refine Or.inl ⟨rfl, ?_⟩ | refine Or.inr ?_))
    refine Go_aloneL rfl rfl (OpTo_pcall (v := .int .u8 (rState R x.died)) rfl rfl rfl rfl rfl (by kernel_rfl) (fun w hm _ => r06_state br Ar cr R x.died w (hm.blk_at (i := 5) rfl) (hm.own_rd (i := 6) rfl) hR) ?_)
    refine And.intro (fun w hm _ => ⟨Holds.of_idx [0, 2, 3] hm, FrmX.of_mod hm⟩) ?_
    refine VC_sound tabOk 100 ?_
    refine ⟨fun g2 => ?_, fun g2 => ?_⟩
    rotate_left
    · exact Go_put () trivial ⟨rfl, rfl, rfl, rfl, rfl, congrArg Value.bool (by simp only [vacP, g1, g2, Bool.false_or, Bool.false_and]), trivial⟩ (fun _ h => h)
    (repeat (first | refine Or.inl ⟨rfl, rfl, ?_⟩ | refine Or.inl ⟨rfl, ?_⟩ | refine Or.inr ?_))
    refine Go_aloneL rfl rfl (OpTo_pcall (v := .bool (snSees mx op x.died)) rfl rfl rfl rfl rfl (by kernel_rfl) (fun w hm _ => r05_sees mx S d op x.died w (hS _ w hm) (by omega)) ?_)
    refine And.intro (fun w hm _ => ⟨Holds.of_idx [0, 2, 3] hm, FrmX.of_mod hm⟩) ?_
    refine VC_sound tabOk 100 ?_
    exact Go_put () trivial ⟨rfl, rfl, rfl, rfl, rfl, congrArg Value.bool (by simp only [vacP, g1, g2, Bool.true_and, Bool.false_or]), trivial⟩ (fun _ h => h)
  rintro _ _
  refine VC_sound tabOk 100 ?_
  refine ⟨fun g1 => ?_, fun g1 => ?_⟩
  · rw [if_pos g1, List.append_nil] at hstep
    refine ⟨_, wrap_i64 (n := (i : Int) + 1) (by omega) (by omega), ?_⟩
    exact Go_fin (i + 1, A1, c1) (by dsimp only; omega) (by dsimp only; omega) ⟨rfl, rfl, (by dsimp only; rw [hstep]), rfl, trivial⟩ (fun _ h => by dsimp only; rw [hstep]; exact h.sel [1, 2, 3, 4, 5, 6] rfl)
  · rw [if_neg (by rw [g1]; simp)] at hstep
    (repeat (first | refine Or.inl ⟨rfl, rfl, ?_⟩ | refine Or.inl ⟨rfl, ?_⟩ | refine Or.inr ?_))
    intro b9 _
    show Go _ _ _ _
    refine Go_ops rfl (OpTo_append tabOk encV_is (ys := [x]) (i := 2) rfl rfl rfl rfl rfl rfl rfl rfl rfl rfl rfl (fun w hm _ => hm.blk_rd (i := 0) rfl) (by simp; omega) (by simp; omega) (fun A2 c2 => ?_))
    refine VC_sound tabOk 100 ?_
    refine ⟨_, wrap_i64 (n := (i : Int) + 1) (by omega) (by omega), ?_⟩
    exact Go_fin (i + 1, A2, c2) (by dsimp only; omega) (by dsimp only; omega) ⟨rfl, rfl, (by dsimp only; rw [hstep]; simp [SV.val]), rfl, trivial⟩ (fun _ h => by dsimp only; rw [hstep]; exact h.sel [2, 3, 4, 5, 6, 7] rfl)
end Go.Proofs.YtbhlkninmbafcaaGreat
