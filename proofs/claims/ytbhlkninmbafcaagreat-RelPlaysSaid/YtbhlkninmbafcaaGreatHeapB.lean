/- What the functions of package heap do that change it. -/
import Derived.Test.YtbhlkninmbafcaaGreatRelOps
import Derived.Test.YtbhlkninmbafcaaGreatHeap
set_option maxRecDepth 100000
set_option autoImplicit false
set_option linter.unusedVariables false
set_option linter.unusedSimpArgs false
namespace Go.Proofs.YtbhlkninmbafcaaGreat
open Go.RX Go Go.RowKit



abbrev hpR (h m : Nat) (A : Option Addr) (c : Nat) (vs : List VerM) : List Res := [.blk h 108 (hpV m A vs.length c), own encV 4 113 A c vs]
/-- A heap and its manager. -/
abbrev hpX (h m b1 b2 : Nat) (s : TxS) (A : Option Addr) (c : Nat) (vs : List VerM) : List Res := hpR h m A c vs ++ txB m b1 b2 s
theorem HpAt.of {hfs : List PH} {Rs : List Res} {w : World} {h m b1 b2 : Nat} {s : TxS} {A : Option Addr} {c : Nat} {vs : List VerM} (hm : Mod hfs Rs w) (i : Nat)
    (h0 : Rs[i]? = some (.blk h 108 (hpV m A vs.length c))) (h1 : Rs[i + 1]? = some (own encV 4 113 A c vs)) (h2 : Rs[i + 2]? = some (.blk m 75 [.int .i64 s.next, .map (some b1), .map (some b2)]))
    (h3 : Rs[i + 3]? = some (mpR KI Value.bool b1 (tm s.O))) (h4 : Rs[i + 4]? = some (mpR KI Value.bool b2 (tm s.D))) : HpAt w h m b1 b2 s A c vs :=
  ⟨hm.blk_at h0, hm.blk_at h2, MpAt.of_mod hm h3, MpAt.of_mod hm h4, hm.own_rd h1⟩

set_option maxHeartbeats 1000000 in
theorem hp_bear (h m : Nat) (A : Option Addr) (c : Nat) (vs : List VerM) (x : Int) (r : RowM) (hn : vs.length ≤ 1000000) (w0 : World) (hfs : List PH) (hm : Mod hfs (hpR h m A c vs) w0) :
    Calls Tryz.prog 52 #[.pointer (some ⟨h, 0, none⟩), .int .i64 x, mkR r] w0 fun e w' => ∃ v Rs', e = .returned v ∧ (v = .tuple #[] ∧ ∃ A' c', Rs' = hpR h m A' c' (vs ++ [⟨r.key, r.text, x, 0⟩])) ∧ Mod hfs Rs' w' ∧ Oth w0 w' := by
  refine enterN (tab := tab) Tryz.func52 rfl Tryz.ntmps52 rfl (args := [_, _, _]) rfl hm ?_
  refine VC_sound tabOk 100 ?_
  intro b5 _
  show Go _ _ _ _
  refine Go_any mixed [9, 12] [(0, false), (1, false), (2, false), (3, false), (6, false), (4, false), (5, false), (7, false), (8, true), (9, true), (10, false), (11, false), (12, true)] rfl (by kernel_rfl) (by kernel_rfl) [.blk b5 55 (encR r), .blk h 108 (hpV m A vs.length c)] (FrmX hfs) (FrmX.stable _) (fun w hm _ => ⟨Holds.of_idx [0, 1] hm, FrmX.of_mod hm⟩) ?_
  refine VC_sound tabOk 100 ?_
  (repeat (first | refine Or.inl ⟨rfl, rfl, ?_⟩ | refine Or.inl ⟨rfl, ?_⟩ | refine Or.inr ?_))
  (repeat (first | refine Or.inl ⟨rfl, rfl, ?_⟩ | refine Or.inl ⟨rfl, ?_⟩ | refine Or.inr ?_))
  intro b9 _
  refine Go_aloneM rfl rfl rfl (OpTo_append tabOk encV_is (ys := [⟨r.key, r.text, x, 0⟩]) (i := 3) rfl rfl rfl rfl rfl rfl rfl rfl rfl rfl rfl (fun w hm _ => hm.blk_rd (i := 0) rfl) (by simp; omega) (by simp; omega) (fun A2 c2 => ?_))
  refine VC_sound tabOk 100 ?_
  (repeat (first | refine Or.inl ⟨rfl, rfl, ?_⟩ | refine Or.inl ⟨rfl, ?_⟩ | refine Or.inr ?_))
  refine ⟨_, ⟨rfl, A2, c2, rfl⟩, fun hfs w h => ?_⟩
  have h := h.sel [2, 3] rfl
  rw [show vs.length + 1 = (vs ++ [(⟨r.key, r.text, x, 0⟩ : VerM)]).length by simp] at h
  exact h

/-- What Delete comes to: the error, the versions. -/
def killR (st : Int → Int) (v : VwM) (vs : List VerM) (key : Int) : Int → List VerM → Prop := fun e vs' =>
  (st v.own ≠ 1 ∧ e = 7 ∧ vs' = vs) ∨ (st v.own = 1 ∧ (∀ x ∈ vs, findP st v key x = false) ∧ e = 4 ∧ vs' = vs) ∨
  (st v.own = 1 ∧ ∃ i x, vs[i]? = some x ∧ findP st v key x = true ∧ (∀ y ∈ vs.take i, findP st v key y = false) ∧ ((othP st v x.died = true ∧ e = 6 ∧ vs' = vs) ∨ (othP st v x.died = false ∧ e = 0 ∧ vs' = vs.set i ⟨x.key, x.text, x.born, v.own⟩)))
theorem killR.len {st : Int → Int} {v : VwM} {vs vs' : List VerM} {key e : Int} (h : killR st v vs key e vs') : vs'.length = vs.length := by
  rcases h with ⟨_, _, rfl⟩ | ⟨_, _, _, rfl⟩ | ⟨_, i, x, _, _, _, ⟨_, _, rfl⟩ | ⟨_, _, rfl⟩⟩ <;> simp
def killQ (h m b1 b2 : Nat) (s : TxS) (A : Option Addr) (c : Nat) (vs : List VerM) (v : VwM) (key : Int) : Value → List Res → Prop := fun u Rs => ∃ e vs', killR (stE s) v vs key e vs' ∧ u = .int .i64 e ∧ Rs = hpX h m b1 b2 s A c vs'
set_option maxHeartbeats 4000000 in
theorem hp_kill (h m b1 b2 : Nat) (s : TxS) (A : Option Addr) (c : Nat) (vs : List VerM) (v : VwM) (key : Int) (hn : vs.length ≤ 1000000) (hl : v.op.length ≤ 1000000) (w0 : World) (hfs : List PH) (hm : Mod hfs (hpX h m b1 b2 s A c vs) w0) (hS : RdF hfs v.S (v.op.flatMap (encI .i64))) :
    Calls Tryz.prog 53 #[.pointer (some ⟨h, 0, none⟩), v.v, .int .i64 key] w0 fun e w' => ∃ u Rs', e = .returned u ∧ killQ h m b1 b2 s A c vs v key u Rs' ∧ Mod hfs Rs' w' ∧ Oth w0 w' := by
  have hA : vs ≠ [] → ∃ b o, A = some ⟨b, o, none⟩ := fun h => hm.own_some (i := 1) rfl h
  refine enterN (tab := tab) Tryz.func53 rfl Tryz.ntmps53 rfl (args := [_, _, _]) rfl hm ?_
  refine VC_sound tabOk 100 ?_
  intro b4 _
  (repeat (first | refine Or.inl ⟨rfl, rfl, ?_⟩ | refine Or.inl ⟨rfl, ?_⟩ | refine Or.inr ?_))
  refine Go_ops rfl (OpTo_pcall (v := .int .i64 (readyE (stE s) v)) rfl rfl rfl rfl rfl (by kernel_rfl) (fun w hm _ => hp_ready h m b1 b2 s A c vs v w (HpAt.of hm 1 rfl rfl rfl rfl rfl)) ?_)
  refine VC_sound tabOk 100 ?_
  by_cases ho : stE s v.own = 1
  rotate_left
  · have e : readyE (stE s) v = 7 := by rw [readyE, if_neg ho]
    rw [e]
    refine ⟨fun _ => ?_, fun h => by first | (simp at h; done) | (simp at h; omega) | (simp_all; done)⟩
    exact ⟨_, ⟨7, vs, .inl ⟨ho, rfl, rfl⟩, rfl, rfl⟩, fun _ _ h => h.sel [1, 2, 3, 4, 5] rfl⟩
  have e : readyE (stE s) v = 0 := by rw [readyE, if_pos ho]
  rw [e]
  refine ⟨fun h => by first | (simp at h; done) | (simp at h; omega) | (simp_all; done), fun _ => ?_⟩
  (repeat (first | refine Or.inl ⟨rfl, rfl, ?_⟩ | refine Or.inl ⟨rfl, ?_⟩ | refine Or.inr ?_))
  refine Go_ops rfl (OpTo_pcall (v := .int .i64 (idxF (findP (stE s) v key) vs)) rfl rfl rfl rfl rfl (by kernel_rfl) (fun w hm _ => hp_find h m b1 b2 s A c vs v key w (HpAt.of hm 1 rfl rfl rfl rfl rfl) (hS _ w hm) hl hn) ?_)
  refine VC_sound tabOk 100 ?_
  rcases idxF_spec (findP (stE s) v key) vs with ⟨h0, hall⟩ | ⟨i, hi, h0, hpi, hne⟩
  · rw [h0]
    refine ⟨fun _ => ?_, fun h => by first | (simp at h; done) | (simp at h; omega) | (simp_all; done)⟩
    exact ⟨_, ⟨4, vs, .inr (.inl ⟨ho, hall, rfl, rfl⟩), rfl, rfl⟩, fun _ _ h => h.sel [1, 2, 3, 4, 5] rfl⟩
  rw [h0]
  refine ⟨fun h => by first | (simp at h; done) | (simp at h; omega) | (simp_all; done), fun _ => ?_⟩
  obtain ⟨ba, oa, rfl⟩ := hA (ne_nil_of_lt hi)
  have hgx : vs[i]? = some vs[i] := List.getElem?_eq_getElem hi
  generalize vs[i] = x at hgx hpi
  show Go _ _ _ _
  refine Go_any mixed [] [(0, false), (2, false), (3, false), (4, false), (6, false), (1, false), (5, false), (7, false), (8, false), (9, false), (10, true), (11, false)] rfl (by kernel_rfl) (by kernel_rfl) [.blk b4 51 v.cs, .blk h 108 (hpV m (some ⟨ba, oa, none⟩) vs.length c)] (fun w => RdW w (some ⟨ba, oa, none⟩) (vs.flatMap encV)) (fun w w' hk h => h.old hk) (fun w hm _ => ⟨Holds.of_idx [0, 1] hm, by exact Mod.own_rd (k := 4) (T := 113) (c := c) (i := 2) hm rfl⟩) ?_
  refine VC_sound tabOk 100 ?_
  (repeat (first | refine Or.inl ⟨rfl, rfl, ?_⟩ | refine Or.inl ⟨rfl, ?_⟩ | refine Or.inr ?_))
  (repeat (first | refine Or.inl ⟨rfl, rfl, ?_⟩ | refine Or.inl ⟨rfl, ?_⟩ | refine Or.inr ?_))
  refine ⟨⟨by omega, by omega⟩, ?_⟩
  (repeat (first | refine Or.inl ⟨rfl, rfl, ?_⟩ | refine Or.inl ⟨rfl, ?_⟩ | refine Or.inr ?_))
  refine Go_first (v := .int .i64 x.died) rfl rfl rfl rfl (fun w _ hw => rxLoadPart tabOk rfl encV_is hw hgx (off := 3) rfl (by simp only [addA]; rfl)) ?_
  refine VC_sound tabOk 100 ?_
  refine Go_aloneL rfl rfl (OpTo_pcall (v := .bool (othP (stE s) v x.died)) rfl rfl rfl rfl rfl (by kernel_rfl) (fun w hm _ => hp_others h m b1 b2 s _ c vs v x.died w (HpAt.of hm 1 rfl rfl rfl rfl rfl)) ?_)
  refine And.intro (fun w hm _ => ⟨Holds.of_idx [0, 1] hm, by exact Mod.own_rd (k := 4) (T := 113) (c := c) (i := 2) hm rfl⟩) ?_
  refine VC_sound tabOk 100 ?_
  refine ⟨fun h1 => ?_, fun h1 => ?_⟩
  · exact ⟨_, ⟨6, vs, .inr (.inr ⟨ho, i, x, hgx, hpi, hne, .inl ⟨h1, rfl, rfl⟩⟩), rfl, rfl⟩, fun _ _ h => h.sel [1, 2, 3, 4, 5] rfl⟩
  show Go _ _ _ _
  refine Go_any mixed [9] [(0, false), (1, false), (2, false), (4, false), (5, false), (3, false), (6, false), (7, false), (8, false), (9, true)] rfl (by kernel_rfl) (by kernel_rfl) [.blk b4 51 v.cs, .blk h 108 (hpV m (some ⟨ba, oa, none⟩) vs.length c)] (FrmX hfs) (FrmX.stable _) (fun w hm _ => ⟨Holds.of_idx [0, 1] hm, FrmX.of_mod hm⟩) ?_
  refine VC_sound tabOk 100 ?_
  (repeat (first | refine Or.inl ⟨rfl, rfl, ?_⟩ | refine Or.inl ⟨rfl, ?_⟩ | refine Or.inr ?_))
  (repeat (first | refine Or.inl ⟨rfl, rfl, ?_⟩ | refine Or.inl ⟨rfl, ?_⟩ | refine Or.inr ?_))
  refine ⟨⟨by omega, by omega⟩, ?_⟩
  (repeat (first | refine Or.inl ⟨rfl, rfl, ?_⟩ | refine Or.inl ⟨rfl, ?_⟩ | refine Or.inr ?_))
  refine Go_aloneM rfl rfl rfl (OpTo_storePart tabOk encV_is (j := 3) (n := i) (u' := ⟨x.key, x.text, x.born, v.own⟩) 2 rfl rfl rfl rfl rfl rfl hgx rfl rfl rfl (by simp only [addA]; rfl) ?_)
  refine VC_sound tabOk 100 ?_
  refine ⟨_, ⟨0, _, .inr (.inr ⟨ho, i, x, hgx, hpi, hne, .inr ⟨h1, rfl, rfl⟩⟩), rfl, rfl⟩, fun hfs w h => ?_⟩
  have h := h.sel [1, 2, 3, 4, 5] rfl
  simp only [hpX, hpR, List.length_set]
  exact h

/-- What Insert comes to. -/
def insE (st : Int → Int) (v : VwM) (vs : List VerM) (key : Int) : Int :=
  if st v.own = 1 then (if vs.any (findP st v key) = true then 5 else if vs.any (insP st v key) = true then 6 else 0) else 7
def insVs (st : Int → Int) (v : VwM) (vs : List VerM) (r : RowM) : List VerM := if insE st v vs r.key = 0 then vs ++ [⟨r.key, r.text, v.own, 0⟩] else vs
set_option maxHeartbeats 4000000 in
theorem hp_insert (h m b1 b2 : Nat) (s : TxS) (A : Option Addr) (c : Nat) (vs : List VerM) (v : VwM) (r : RowM) (hn : vs.length ≤ 1000000) (hl : v.op.length ≤ 1000000) (w0 : World) (hfs : List PH) (hm : Mod hfs (hpX h m b1 b2 s A c vs) w0) (hS : RdF hfs v.S (v.op.flatMap (encI .i64))) :
    Calls Tryz.prog 31 #[.pointer (some ⟨h, 0, none⟩), v.v, mkR r] w0 fun e w' => ∃ u Rs', e = .returned u ∧ (u = .int .i64 (insE (stE s) v vs r.key) ∧ ∃ A' c', Rs' = hpX h m b1 b2 s A' c' (insVs (stE s) v vs r)) ∧ Mod hfs Rs' w' ∧ Oth w0 w' := by
  refine enterN (tab := tab) Tryz.func31 rfl Tryz.ntmps31 rfl (args := [_, _, _]) rfl hm ?_
  refine VC_sound tabOk 100 ?_
  intro b3 _ b4 _ b5 _
  (repeat (first | refine Or.inl ⟨rfl, rfl, ?_⟩ | refine Or.inl ⟨rfl, ?_⟩ | refine Or.inr ?_))
  (repeat (first | refine Or.inl ⟨rfl, rfl, ?_⟩ | refine Or.inl ⟨rfl, ?_⟩ | refine Or.inr ?_))
  refine Go_ops rfl (OpTo_pcall (v := .int .i64 (readyE (stE s) v)) rfl rfl rfl rfl rfl (by kernel_rfl) (fun w hm _ => hp_ready h m b1 b2 s A c vs v w (HpAt.of hm 3 rfl rfl rfl rfl rfl)) ?_)
  refine VC_sound tabOk 100 ?_
  by_cases ho : stE s v.own = 1
  rotate_left
  · have e : readyE (stE s) v = 7 := by rw [readyE, if_neg ho]
    have e2 : insE (stE s) v vs r.key = 7 := by rw [insE, if_neg ho]
    rw [e]
    refine ⟨fun _ => ?_, fun h => by first | (simp at h; done) | (simp at h; omega) | (simp_all; done)⟩
    exact ⟨_, ⟨by rw [e2]; rfl, A, c, by rw [insVs, e2]; rfl⟩, fun _ _ h => h.sel [3, 4, 5, 6, 7] rfl⟩
  have e : readyE (stE s) v = 0 := by rw [readyE, if_pos ho]
  rw [e]
  refine ⟨fun h => by first | (simp at h; done) | (simp at h; omega) | (simp_all; done), fun _ => ?_⟩
  (repeat (first | refine Or.inl ⟨rfl, rfl, ?_⟩ | refine Or.inl ⟨rfl, ?_⟩ | refine Or.inr ?_))
  (repeat (first | refine Or.inl ⟨rfl, rfl, ?_⟩ | refine Or.inl ⟨rfl, ?_⟩ | refine Or.inr ?_))
  (repeat (first | refine Or.inl ⟨rfl, rfl, ?_⟩ | refine Or.inl ⟨rfl, ?_⟩ | refine Or.inr ?_))
  refine Go_ops rfl (OpTo_pcall (v := .int .i64 (idxF (findP (stE s) v r.key) vs)) rfl rfl rfl rfl rfl (by kernel_rfl) (fun w hm _ => hp_find h m b1 b2 s A c vs v r.key w (HpAt.of hm 3 rfl rfl rfl rfl rfl) (hS _ w hm) hl hn) ?_)
  refine VC_sound tabOk 100 ?_
  have hany := idxF_any (findP (stE s) v r.key) vs
  refine ⟨fun h1 => ?_, fun h1 => ?_⟩
  · have e2 : insE (stE s) v vs r.key = 5 := by rw [insE, if_pos ho, if_pos (by rw [← hany]; exact h1)]
    exact ⟨_, ⟨by rw [e2]; rfl, A, c, by rw [insVs, e2]; rfl⟩, fun _ _ h => h.sel [3, 4, 5, 6, 7] rfl⟩
  have hf : ¬ vs.any (findP (stE s) v r.key) = true := by rw [← hany, h1]; simp
  (repeat (first | refine Or.inl ⟨rfl, rfl, ?_⟩ | refine Or.inl ⟨rfl, ?_⟩ | refine Or.inr ?_))
  (repeat (first | refine Or.inl ⟨rfl, rfl, ?_⟩ | refine Or.inl ⟨rfl, ?_⟩ | refine Or.inr ?_))
  refine Go_ops rfl (OpTo_pcall (v := .bool (vs.any (insP (stE s) v r.key))) rfl rfl rfl rfl rfl (by kernel_rfl) (fun w hm hio => sl_containsFunc_V A c vs 50 #[] #[.pointer (some ⟨b5, 0, none⟩), .pointer (some ⟨b3, 0, none⟩), .pointer (some ⟨b4, 0, none⟩)] (insP (stE s) v r.key) w (hm.own_rd (i := 4) rfl) (by omega) (by kernel_rfl)
    (fun x _ w2 h2 => hp_ins1 h m b1 b2 s A c vs v r.key r.text x b3 b4 b5 w2 ((HpAt.of hm 3 rfl rfl rfl rfl rfl).below h2) (blk_below h2 (hm.blk_at (i := 0) rfl)) (blk_below h2 (hm.blk_at (i := 2) rfl)) (blk_below h2 (hm.blk_at (i := 1) rfl)))) ?_)
  refine VC_sound tabOk 100 ?_
  refine ⟨fun h2 => ?_, fun h2 => ?_⟩
  · have e2 : insE (stE s) v vs r.key = 6 := by rw [insE, if_pos ho, if_neg hf, if_pos h2]
    exact ⟨_, ⟨by rw [e2]; rfl, A, c, by rw [insVs, e2]; rfl⟩, fun _ _ h => h.sel [3, 4, 5, 6, 7] rfl⟩
  have e2 : insE (stE s) v vs r.key = 0 := by rw [insE, if_pos ho, if_neg hf, if_neg (by rw [h2]; simp)]
  (repeat (first | refine Or.inl ⟨rfl, rfl, ?_⟩ | refine Or.inl ⟨rfl, ?_⟩ | refine Or.inr ?_))
  (repeat (first | refine Or.inl ⟨rfl, rfl, ?_⟩ | refine Or.inl ⟨rfl, ?_⟩ | refine Or.inr ?_))
  (repeat (first | refine Or.inl ⟨rfl, rfl, ?_⟩ | refine Or.inl ⟨rfl, ?_⟩ | refine Or.inr ?_))
  refine Go_sel [3, 4, 5, 6, 7, 0, 1, 2] rfl ?_
  show Go _ _ _ _
  show Go _ _ _ _
  refine Go_ops rfl (OpTo_mcall (hpR h m A c vs) (txB m b1 b2 s ++ [.blk b5 55 (encR r), .blk b4 51 v.cs, .blk b3 79 [.pointer (some ⟨h, 0, none⟩)]]) (List.Perm.of_eq rfl) rfl rfl rfl rfl rfl (by kernel_rfl) (fun w hb hm hio hsp k => hp_bear h m A c vs v.own r hn w _ k) ?_)
  rintro _ _ ⟨rfl, A2, c2, rfl⟩
  refine VC_sound tabOk 100 ?_
  exact ⟨_, ⟨by rw [e2]; rfl, A2, c2, by rw [insVs, if_pos e2]; rfl⟩, fun _ _ h => h.sel [0, 1, 2, 3, 4] rfl⟩

set_option maxHeartbeats 1000000 in
theorem hp_delete (h m b1 b2 : Nat) (s : TxS) (A : Option Addr) (c : Nat) (vs : List VerM) (v : VwM) (key : Int) (hn : vs.length ≤ 1000000) (hl : v.op.length ≤ 1000000) (w0 : World) (hfs : List PH) (hm : Mod hfs (hpX h m b1 b2 s A c vs) w0) (hS : RdF hfs v.S (v.op.flatMap (encI .i64))) :
    Calls Tryz.prog 33 #[.pointer (some ⟨h, 0, none⟩), v.v, .int .i64 key] w0 fun e w' => ∃ u Rs', e = .returned u ∧ killQ h m b1 b2 s A c vs v key u Rs' ∧ Mod hfs Rs' w' ∧ Oth w0 w' := by
  refine enterN (tab := tab) Tryz.func33 rfl Tryz.ntmps33 rfl (args := [_, _, _]) rfl hm ?_
  refine VC_sound tabOk 100 ?_
  intro b4 _
  (repeat (first | refine Or.inl ⟨rfl, rfl, ?_⟩ | refine Or.inl ⟨rfl, ?_⟩ | refine Or.inr ?_))
  refine Go_sel [1, 2, 3, 4, 5, 0] rfl ?_
  show Go _ _ _ _
  show Go _ _ _ _
  refine Go_ops rfl (OpTo_mcall (hpX h m b1 b2 s A c vs) [.blk b4 51 v.cs] (List.Perm.of_eq rfl) rfl rfl rfl rfl rfl (by kernel_rfl) (fun w hb hm hio hsp k => hp_kill h m b1 b2 s A c vs v key hn hl w _ k (RdF.of_split hsp fun Rs w h => hS _ w h)) ?_)
  rintro _ _ ⟨e, vs', hk, rfl, rfl⟩
  refine VC_sound tabOk 100 ?_
  exact ⟨_, ⟨e, vs', hk, rfl, rfl⟩, fun _ _ h => h.sel [0, 1, 2, 3, 4] rfl⟩

/-- What Update comes to. -/
def updR (st : Int → Int) (v : VwM) (vs : List VerM) (r : RowM) : Int → List VerM → Prop := fun e vs' => ∃ vs1, killR st v vs r.key e vs1 ∧ vs' = if e = 0 then vs1 ++ [⟨r.key, r.text, v.own, 0⟩] else vs1
def updQ (h m b1 b2 : Nat) (s : TxS) (vs : List VerM) (v : VwM) (r : RowM) : Value → List Res → Prop := fun u Rs => ∃ e vs' A' c', updR (stE s) v vs r e vs' ∧ u = .int .i64 e ∧ Rs = hpX h m b1 b2 s A' c' vs'
set_option maxHeartbeats 2000000 in
theorem hp_update (h m b1 b2 : Nat) (s : TxS) (A : Option Addr) (c : Nat) (vs : List VerM) (v : VwM) (r : RowM) (hn : vs.length ≤ 1000000) (hl : v.op.length ≤ 1000000) (w0 : World) (hfs : List PH) (hm : Mod hfs (hpX h m b1 b2 s A c vs) w0) (hS : RdF hfs v.S (v.op.flatMap (encI .i64))) :
    Calls Tryz.prog 32 #[.pointer (some ⟨h, 0, none⟩), v.v, mkR r] w0 fun e w' => ∃ u Rs', e = .returned u ∧ updQ h m b1 b2 s vs v r u Rs' ∧ Mod hfs Rs' w' ∧ Oth w0 w' := by
  refine enterN (tab := tab) Tryz.func32 rfl Tryz.ntmps32 rfl (args := [_, _, _]) rfl hm ?_
  refine VC_sound tabOk 100 ?_
  intro b4 _ b5 _
  (repeat (first | refine Or.inl ⟨rfl, rfl, ?_⟩ | refine Or.inl ⟨rfl, ?_⟩ | refine Or.inr ?_))
  (repeat (first | refine Or.inl ⟨rfl, rfl, ?_⟩ | refine Or.inl ⟨rfl, ?_⟩ | refine Or.inr ?_))
  refine Go_sel [2, 3, 4, 5, 6, 0, 1] rfl ?_
  show Go _ _ _ _
  show Go _ _ _ _
  refine Go_ops rfl (OpTo_mcall (hpX h m b1 b2 s A c vs) [.blk b5 55 (encR r), .blk b4 51 v.cs] (List.Perm.of_eq rfl) rfl rfl rfl rfl rfl (by kernel_rfl) (fun w hb hm hio hsp k => hp_kill h m b1 b2 s A c vs v r.key hn hl w _ k (RdF.of_split hsp fun Rs w h => hS _ w h)) ?_)
  rintro _ _ ⟨e, vs1, hk, rfl, rfl⟩
  have hl1 := hk.len
  by_cases he : e = 0
  rotate_left
  · refine VC_sound tabOk 100 ?_
    refine ⟨fun h => absurd (of_decide_eq_true h) he, fun _ => ?_⟩
    exact ⟨_, ⟨e, vs1, _, _, ⟨vs1, hk, by rw [if_neg he]⟩, rfl, rfl⟩, fun _ _ h => h.sel [0, 1, 2, 3, 4] rfl⟩
  · subst he
    refine VC_sound tabOk 100 ?_
    refine ⟨fun _ => ?_, fun h => by first | (simp at h; done) | (simp at h; omega) | (simp_all; done)⟩
    (repeat (first | refine Or.inl ⟨rfl, rfl, ?_⟩ | refine Or.inl ⟨rfl, ?_⟩ | refine Or.inr ?_))
    (repeat (first | refine Or.inl ⟨rfl, rfl, ?_⟩ | refine Or.inl ⟨rfl, ?_⟩ | refine Or.inr ?_))
    show Go _ _ _ _
    show Go _ _ _ _
    refine Go_ops rfl (OpTo_mcall (hpR h m A c vs1) (txB m b1 b2 s ++ [.blk b5 55 (encR r), .blk b4 51 v.cs]) (List.Perm.of_eq rfl) rfl rfl rfl rfl rfl (by kernel_rfl) (fun w hb hm hio hsp k => hp_bear h m A c vs1 v.own r (by omega) w _ k) ?_)
    rintro _ _ ⟨rfl, A2, c2, rfl⟩
    refine VC_sound tabOk 100 ?_
    exact ⟨_, ⟨0, _, A2, c2, ⟨vs1, hk, rfl⟩, rfl, rfl⟩, fun _ _ h => h.sel [0, 1, 2, 3, 4] rfl⟩
end Go.Proofs.YtbhlkninmbafcaaGreat
