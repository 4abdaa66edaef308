/- What Redo of package heap does. -/
import Derived.Test.YtobffgjilojpfaaHeapT
set_option maxRecDepth 100000
set_option autoImplicit false
set_option linter.unusedVariables false
set_option linter.unusedSimpArgs false
namespace Go.Proofs.Ytobffgjilojpfaa
open Go.RX Go Go.RowKit

structure OpM where
  gone : Bool
  row : RowM
def encO : OpM → List Value := fun x => [.bool x.gone, .int .i64 x.row.key, .string x.row.text]
theorem encO_is : IsEnc encO 3 := ⟨fun _ => rfl, fun x v hv => by simp [encO] at hv; rcases hv with rfl | rfl | rfl <;> rfl, by decide⟩
abbrev mkO (x : OpM) : Value := .agg #[.bool x.gone, .int .i64 x.row.key, .string x.row.text]

/-- Is a version with the key alive, whoever looks? -/
def aliveP (st : Int → Int) (key : Int) (x : VerM) : Bool := decide (x.key = key) && (decide (st x.born = 2) && !decide (st x.died = 2))
set_option maxHeartbeats 2000000 in
theorem hp_redo1 (h m b1 b2 : Nat) (s : TxS) (A : Option Addr) (c : Nat) (vs : List VerM) (o : OpM) (x : VerM) (k1 k2 : Nat) (w0 : World) (hp : HpAt w0 h m b1 b2 s A c vs)
    (h1 : w0.heap[k1]? = some (.cells (encO o).toArray 54 (0, 0))) (h2 : w0.heap[k2]? = some (.cells #[.pointer (some ⟨h, 0, none⟩)] 26 (0, 0))) :
    Calls Try.prog 46 #[mkV x, .pointer (some ⟨k1, 0, none⟩), .pointer (some ⟨k2, 0, none⟩)] w0 fun e w' => e = .returned (.bool (aliveP (stE s) o.row.key x)) ∧ BelowD w0.heap.size w0 w' := by
  refine enterP (tab := tab) Try.func46 rfl Try.ntmps46 rfl (args := [_, _, _]) rfl ?_
  refine VC_sound tabOk 100 ?_
  intro b3 _
  show Go _ _ _ _
  refine Go_any mixed [] [(0, false), (1, false), (3, false), (4, false), (2, false), (5, false), (6, false), (7, false), (12, false), (8, false), (9, false), (10, false), (11, false), (13, false), (14, true), (15, false), (16, false), (17, false), (22, false), (18, false), (19, false), (20, false), (21, false), (23, false), (24, true), (25, false), (26, false), (27, false)] rfl (by kernel_rfl) (by kernel_rfl) [.blk b3 76 (encV x)] (FrmX [heapOf w0]) (FrmX.stable _) (fun w hm _ => ⟨Holds.of_idx [0] hm, FrmX.of_mod hm⟩) ?_
  refine VC_sound tabOk 100 ?_
  (repeat (first | refine Or.inl ⟨rfl, rfl, ?_⟩ | refine Or.inl ⟨rfl, ?_⟩ | refine Or.inr ?_))
  show Go _ _ _ _
  refine Go_first (v := .int .i64 o.row.key) rfl rfl rfl rfl (fun w _ hw => run_loadVar_at tabOk rfl (hw (heapOf w0) (by simp) _ _ h1) rfl) ?_
  refine VC_sound tabOk 100 ?_
  refine ⟨fun e1 => ?_, fun e1 => ?_⟩
  rotate_left
  · exact congrArg Value.bool (by simp only [aliveP, e1, Bool.false_and])
  (repeat (first | refine Or.inl ⟨rfl, rfl, ?_⟩ | refine Or.inl ⟨rfl, ?_⟩ | refine Or.inr ?_))
  show Go _ _ _ _
  refine Go_first (v := .pointer (some ⟨h, 0, none⟩)) rfl rfl rfl rfl (fun w _ hw => run_loadVar_at tabOk rfl (hw (heapOf w0) (by simp) _ _ h2) rfl) ?_
  refine VC_sound tabOk 100 ?_
  (repeat (first | refine Or.inl ⟨rfl, rfl, ?_⟩ | refine Or.inl ⟨rfl, ?_⟩ | refine Or.inr ?_))
  show Go _ _ _ _
  refine Go_first (v := .pointer (some ⟨m, 0, none⟩)) rfl rfl rfl rfl (fun w _ hw => run_loadVar_at tabOk rfl (hw (heapOf w0) (by simp) _ _ hp.blk) rfl) ?_
  refine VC_sound tabOk 100 ?_
  (repeat (first | refine Or.inl ⟨rfl, rfl, ?_⟩ | refine Or.inl ⟨rfl, ?_⟩ | refine Or.inr ?_))
  refine Go_aloneL rfl rfl (OpTo_pcall (v := .int .u8 (stE s x.born)) rfl rfl rfl rfl rfl (by kernel_rfl) (fun w hm _ => by
      have hq := hp.mod hm
      exact txn_state_p m b1 b2 s x.born w hq.mgr hq.tO hq.tD) ?_)
  refine And.intro (fun w hm _ => ⟨Holds.of_idx [0] hm, FrmX.of_mod hm⟩) ?_
  refine VC_sound tabOk 100 ?_
  refine ⟨fun e2 => ?_, fun e2 => ?_⟩
  rotate_left
  · exact congrArg Value.bool (by simp only [aliveP, e1, e2, Bool.true_and, Bool.false_and])
  (repeat (first | refine Or.inl ⟨rfl, rfl, ?_⟩ | refine Or.inl ⟨rfl, ?_⟩ | refine Or.inr ?_))
  show Go _ _ _ _
  refine Go_first (v := .pointer (some ⟨h, 0, none⟩)) rfl rfl rfl rfl (fun w _ hw => run_loadVar_at tabOk rfl (hw (heapOf w0) (by simp) _ _ h2) rfl) ?_
  refine VC_sound tabOk 100 ?_
  (repeat (first | refine Or.inl ⟨rfl, rfl, ?_⟩ | refine Or.inl ⟨rfl, ?_⟩ | refine Or.inr ?_))
  show Go _ _ _ _
  refine Go_first (v := .pointer (some ⟨m, 0, none⟩)) rfl rfl rfl rfl (fun w _ hw => run_loadVar_at tabOk rfl (hw (heapOf w0) (by simp) _ _ hp.blk) rfl) ?_
  refine VC_sound tabOk 100 ?_
  (repeat (first | refine Or.inl ⟨rfl, rfl, ?_⟩ | refine Or.inl ⟨rfl, ?_⟩ | refine Or.inr ?_))
  refine Go_aloneL rfl rfl (OpTo_pcall (v := .int .u8 (stE s x.died)) rfl rfl rfl rfl rfl (by kernel_rfl) (fun w hm _ => by
      have hq := hp.mod hm
      exact txn_state_p m b1 b2 s x.died w hq.mgr hq.tO hq.tD) ?_)
  refine And.intro (fun w hm _ => ⟨Holds.of_idx [0] hm, FrmX.of_mod hm⟩) ?_
  refine VC_sound tabOk 100 ?_
  exact congrArg Value.bool (by simp only [aliveP, e1, e2, Bool.true_and, decide_not])

/-- One change, done again. -/
def dieAt (vs : List VerM) (i : Int) (x : Int) : List VerM := if i < 0 then vs else match vs[i.toNat]? with
  | some y => vs.set i.toNat ⟨y.key, y.text, y.born, x⟩
  | none => vs
def redo1 (st : Int → Int) (x : Int) (vs : List VerM) (o : OpM) : List VerM :=
  if o.gone = true then dieAt vs (idxF (aliveP st o.row.key) vs) x else dieAt vs (idxF (aliveP st o.row.key) vs) x ++ [⟨o.row.key, o.row.text, x, 0⟩]
theorem dieAt_len (vs : List VerM) (i x : Int) : (dieAt vs i x).length = vs.length := by
  unfold dieAt
  split
  · rfl
  split <;> simp
theorem redo_len (st : Int → Int) (x : Int) : ∀ (os : List OpM) (vs : List VerM), (os.foldl (redo1 st x) vs).length ≤ vs.length + os.length
  | [], vs => by simp
  | o :: os, vs => by
    have := redo_len st x os (redo1 st x vs o)
    have h1 : (redo1 st x vs o).length ≤ vs.length + 1 := by
      unfold redo1
      split <;> simp [dieAt_len]
    simp only [List.foldl_cons, List.length_cons]
    omega
set_option maxHeartbeats 4000000 in
theorem hp_redo (h m b1 b2 : Nat) (s : TxS) (A : Option Addr) (c : Nat) (vs : List VerM) (x : Int) (B : Option Addr) (d : Nat) (os : List OpM) (hn : vs.length + os.length ≤ 1000000) (w0 : World) (hfs : List PH) (hm : Mod hfs (hpX h m b1 b2 s A c vs) w0) (hB : RdF hfs B (os.flatMap encO)) :
    Calls Try.prog 22 #[.pointer (some ⟨h, 0, none⟩), .int .i64 x, .slice B os.length d] w0 fun e w' => ∃ u Rs', e = .returned u ∧ (u = .int .i64 (if stE s x = 2 then 0 else 7) ∧ ∃ A' c', Rs' = hpX h m b1 b2 s A' c' (if stE s x = 2 then os.foldl (redo1 (stE s) x) vs else vs)) ∧ Mod hfs Rs' w' ∧ Oth w0 w' := by
  refine enterN (tab := tab) Try.func22 rfl Try.ntmps22 rfl (args := [_, _, _]) rfl hm ?_
  refine VC_sound tabOk 100 ?_
  intro b3 _
  (repeat (first | refine Or.inl ⟨rfl, rfl, ?_⟩ | refine Or.inl ⟨rfl, ?_⟩ | refine Or.inr ?_))
  refine Go_ops rfl (OpTo_pcall (v := .bool false) rfl rfl rfl rfl rfl (by kernel_rfl) (fun w hm _ => hp_none h m b1 b2 s A c vs w (HpAt.of hm 1 rfl rfl rfl rfl rfl)) ?_)
  refine VC_sound tabOk 100 ?_
  refine ⟨fun h => by simp at h, fun _ => ?_⟩
  (repeat (first | refine Or.inl ⟨rfl, rfl, ?_⟩ | refine Or.inl ⟨rfl, ?_⟩ | refine Or.inr ?_))
  refine Go_ops rfl (OpTo_pcall (v := .int .u8 (stE s x)) rfl rfl rfl rfl rfl (by kernel_rfl) (fun w hm _ => by
      have hq : HpAt w h m b1 b2 s A c vs := HpAt.of hm 1 rfl rfl rfl rfl rfl
      exact txn_state_p m b1 b2 s x w hq.mgr hq.tO hq.tD) ?_)
  refine VC_sound tabOk 100 ?_
  refine ⟨fun h1 => ?_, fun h1 => ?_⟩
  · have hx : ¬ stE s x = 2 := by simpa using h1
    exact ⟨_, ⟨by rw [if_neg hx]; rfl, A, c, by rw [if_neg hx]; rfl⟩, fun _ _ h => h.sel [1, 2, 3, 4, 5] rfl⟩
  have hx : stE s x = 2 := by simpa using h1
  refine Go_loop (σ := Nat × Option Addr × Nat × List VerM) (fun u => [(1, .v (.int .i64 x)), (3, .v (.pointer (some ⟨b3, 0, none⟩))), (21, .v (.slice B os.length d)), (22, .v (.int .i64 os.length)), (23, .v (.int .i64 u.1))]) (fun u => .blk b3 26 [.pointer (some ⟨h, 0, none⟩)] :: hpX h m b1 b2 s u.2.1 u.2.2.1 u.2.2.2) (fun u => u.1 ≤ os.length ∧ u.2.2.2 = (os.take u.1).foldl (redo1 (stE s) x) vs) (fun u => os.length - u.1) (0, A, c, vs) ⟨Nat.zero_le _, rfl⟩ ⟨rfl, rfl, rfl, rfl, rfl, trivial⟩ (fun _ h => h) ?_
  rintro ⟨i, A1, c1, vs1⟩ ⟨hi, hv⟩
  dsimp only at hi hv ⊢
  have hvl : vs1.length ≤ vs.length + i := by
    have := redo_len (stE s) x (os.take i) vs
    rw [hv, ]; simp at this ⊢; omega
  by_cases hlt : i < os.length
  rotate_left
  · have he : i = os.length := by omega
    subst he
    rw [List.take_length] at hv
    refine VC_sound tabOk 100 ?_
    refine ⟨fun h => by first | (simp at h; done) | (simp at h; omega) | (simp_all; done), fun _ => ?_⟩
    exact ⟨_, ⟨by rw [if_pos hx]; rfl, A1, c1, by rw [if_pos hx, ← hv]; rfl⟩, fun _ _ h => h.sel [1, 2, 3, 4, 5] rfl⟩
  obtain ⟨o, hgo⟩ : ∃ o, os[i]? = some o := ⟨_, List.getElem?_eq_getElem hlt⟩
  have hstep : (os.take (i + 1)).foldl (redo1 (stE s) x) vs = redo1 (stE s) x vs1 o := by
    rw [List.take_add_one, hgo, List.foldl_append, ← hv]; rfl
  refine Go_with (∃ b o, B = some ⟨b, o, none⟩) (fun w hm _ => RdW.some encO_is (hB _ w hm) (ne_nil_of_lt hlt)) ?_
  rintro ⟨bo, oo, rfl⟩
  refine VC_sound tabOk 100 ?_
  refine ⟨fun _ => ?_, fun h => by first | (simp at h; done) | (simp at h; omega) | (simp_all; done)⟩
  refine ⟨⟨by omega, by omega⟩, ?_⟩
  (repeat (first | refine Or.inl ⟨rfl, rfl, ?_⟩ | refine Or.inl ⟨rfl, ?_⟩ | refine Or.inr ?_))
  show Go _ _ _ _
  refine Go_ops rfl (OpTo_loadRow tabOk encO_is (mkO o) rfl rfl rfl rfl rfl (fun h => by first | rfl | cases h) (fun w hm _ => hB _ w hm) hgo (by simp only [addA]; rfl) ?_)
  refine VC_sound tabOk 100 ?_
  intro b8 _
  (repeat (first | refine Or.inl ⟨rfl, rfl, ?_⟩ | refine Or.inl ⟨rfl, ?_⟩ | refine Or.inr ?_))
  refine Go_ops rfl (OpTo_pcall (v := .int .i64 (idxF (aliveP (stE s) o.row.key) vs1)) rfl rfl rfl rfl rfl (by kernel_rfl) (fun w hm hio => sl_indexFunc_V A1 c1 vs1 46 #[] #[.pointer (some ⟨b8, 0, none⟩), .pointer (some ⟨b3, 0, none⟩)] (aliveP (stE s) o.row.key) w (hm.own_rd (i := 3) rfl) (by omega) (by kernel_rfl)
    (fun y _ w2 h2 => hp_redo1 h m b1 b2 s A1 c1 vs1 o y b8 b3 w2 ((HpAt.of hm 2 rfl rfl rfl rfl rfl).below h2) (blk_below h2 (hm.blk_at (i := 0) rfl)) (blk_below h2 (hm.blk_at (i := 1) rfl)))) ?_)
  refine VC_sound tabOk 8 ?_
  show Go _ (KI.code (Code.cond _ _ _) :: _) _ _
  refine Go_cut (σ := Unit) (fun _ => [(1, .v (.int .i64 x)), (3, .v (.pointer (some ⟨b3, 0, none⟩))), (8, .v (.pointer (some ⟨b8, 0, none⟩))), (21, .v (.slice (some ⟨bo, oo, none⟩) os.length d)), (22, .v (.int .i64 os.length)), (23, .v (.int .i64 i))]) (fun _ => .blk b8 54 (encO o) :: .blk b3 26 [.pointer (some ⟨h, 0, none⟩)] :: hpX h m b1 b2 s A1 c1 (dieAt vs1 (idxF (aliveP (stE s) o.row.key) vs1) x)) (fun _ => True) ?_ ?_
  · rcases idxF_spec (aliveP (stE s) o.row.key) vs1 with ⟨h0, hall⟩ | ⟨k, hk, h0, hpk, hne⟩
    · rw [h0]
      refine VC_sound tabOk 100 ?_
      refine ⟨fun h => by first | (simp at h; done) | (simp at h; omega) | (simp_all; done), fun _ => ?_⟩
      exact Go_put () trivial ⟨rfl, rfl, rfl, rfl, rfl, rfl, trivial⟩ (fun _ h => h)
    rw [h0]
    refine Go_with _ (fun w hm _ => hm.own_some (i := 3) rfl (ne_nil_of_lt hk)) ?_
    rintro ⟨ba, oa, rfl⟩
    obtain ⟨y, hgy⟩ : ∃ y, vs1[k]? = some y := ⟨_, List.getElem?_eq_getElem hk⟩
    have e : dieAt vs1 (k : Int) x = vs1.set k ⟨y.key, y.text, y.born, x⟩ := by
      rw [dieAt, if_neg (by omega), show (k : Int).toNat = k from rfl, hgy]
    rw [e]
    refine VC_sound tabOk 100 ?_
    refine ⟨fun _ => ?_, fun h => by first | (simp at h; done) | (simp at h; omega) | (simp_all; done)⟩
    (repeat (first | refine Or.inl ⟨rfl, rfl, ?_⟩ | refine Or.inl ⟨rfl, ?_⟩ | refine Or.inr ?_))
    refine ⟨⟨by omega, by omega⟩, ?_⟩
    (repeat (first | refine Or.inl ⟨rfl, rfl, ?_⟩ | refine Or.inl ⟨rfl, ?_⟩ | refine Or.inr ?_))
    show Go _ _ _ _
    refine Go_ops rfl (OpTo_storePart tabOk encV_is (j := 3) (n := k) (u' := ⟨y.key, y.text, y.born, x⟩) 3 rfl rfl rfl rfl rfl rfl hgy rfl rfl rfl (by simp only [addA]; rfl) ?_)
    refine VC_sound tabOk 100 ?_
    exact Go_put () trivial ⟨rfl, rfl, rfl, rfl, rfl, rfl, trivial⟩ (fun _ h => by simp only [hpX, hpR, List.length_set]; exact h)
  rintro _ _
  have hdl := dieAt_len vs1 (idxF (aliveP (stE s) o.row.key) vs1) x
  obtain ⟨vs2, hv2⟩ : ∃ vs2, vs2 = dieAt vs1 (idxF (aliveP (stE s) o.row.key) vs1) x := ⟨_, rfl⟩
  rw [← hv2] at hdl ⊢
  rw [redo1, ← hv2] at hstep
  refine VC_sound tabOk 100 ?_
  (repeat (first | refine Or.inl ⟨rfl, rfl, ?_⟩ | refine Or.inl ⟨rfl, ?_⟩ | refine Or.inr ?_))
  refine ⟨fun h2 => ?_, fun h2 => ?_⟩
  · have hg : ¬ o.gone = true := by simpa using h2
    rw [if_neg hg] at hstep
    (repeat (first | refine Or.inl ⟨rfl, rfl, ?_⟩ | refine Or.inl ⟨rfl, ?_⟩ | refine Or.inr ?_))
    refine Go_sel [2, 3, 4, 5, 6, 0, 1] rfl ?_
    show Go _ _ _ _
    show Go _ _ _ _
    refine Go_ops rfl (OpTo_mcall (hpR h m A1 c1 vs2) (txB m b1 b2 s ++ [.blk b8 54 (encO o), .blk b3 26 [.pointer (some ⟨h, 0, none⟩)]]) (List.Perm.of_eq rfl) rfl rfl rfl rfl rfl (by kernel_rfl) (fun w hb hm hio hsp k => hp_bear h m A1 c1 vs2 x o.row (by omega) w _ k) ?_)
    rintro _ _ ⟨rfl, A2, c2, rfl⟩
    refine VC_sound tabOk 100 ?_
    refine ⟨_, wrap_i64 (n := (i : Int) + 1) (by omega) (by omega), ?_⟩
    exact Go_fin (i + 1, A2, c2, vs2 ++ [(⟨o.row.key, o.row.text, x, 0⟩ : VerM)]) ⟨by dsimp only; omega, hstep.symm⟩ (by dsimp only; omega) ⟨rfl, rfl, rfl, rfl, rfl, trivial⟩ (fun _ h => h.sel [6, 0, 1, 2, 3, 4] rfl)
  · have hg : o.gone = true := by simpa using h2
    rw [if_pos hg] at hstep
    refine ⟨_, wrap_i64 (n := (i : Int) + 1) (by omega) (by omega), ?_⟩
    exact Go_fin (i + 1, A1, c1, vs2) ⟨by dsimp only; omega, hstep.symm⟩ (by dsimp only; omega) ⟨rfl, rfl, rfl, rfl, rfl, trivial⟩ (fun _ h => h.sel [1, 2, 3, 4, 5, 6] rfl)
end Go.Proofs.Ytobffgjilojpfaa
