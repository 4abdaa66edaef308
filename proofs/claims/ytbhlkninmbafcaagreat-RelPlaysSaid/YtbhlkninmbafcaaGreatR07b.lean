/- What the reference of layer 7 changes. -/
import Derived.Test.YtbhlkninmbafcaaGreatR07s
set_option maxRecDepth 100000
set_option autoImplicit false
set_option linter.unusedVariables false
set_option linter.unusedSimpArgs false
namespace Go.Proofs.YtbhlkninmbafcaaGreat
open Go.RX Go Go.RowKit


abbrev hqR (h br : Nat) (A : Option Addr) (c : Nat) (vs : List VerM) : List Res := [.blk h 84 (hpV br A vs.length c), own encV 4 123 A c vs]
/-- A heap and its manager. -/
abbrev hqX (h br : Nat) (Ar : Option Addr) (cr : Nat) (R : List Int) (A : Option Addr) (c : Nat) (vs : List VerM) : List Res := hqR h br A c vs ++ refB br Ar cr R
theorem RpAt.of {hfs : List PH} {Rs : List Res} {w : World} {h br : Nat} {Ar : Option Addr} {cr : Nat} {R : List Int} {A : Option Addr} {c : Nat} {vs : List VerM} (hm : Mod hfs Rs w) (i : Nat)
    (h0 : Rs[i]? = some (.blk h 84 (hpV br A vs.length c))) (h1 : Rs[i + 1]? = some (own encV 4 123 A c vs)) (h2 : Rs[i + 2]? = some (.blk br 30 [.slice Ar R.length cr]))
    (h3 : Rs[i + 3]? = some (own encU 1 5 Ar cr R)) : RpAt w h br Ar cr R A c vs :=
  ⟨hm.blk_at h0, hm.blk_at h2, hm.own_rd h3, hm.own_rd h1⟩

set_option maxHeartbeats 4000000 in
theorem r7_delete (h br : Nat) (Ar : Option Addr) (cr : Nat) (R : List Int) (A : Option Addr) (c : Nat) (vs : List VerM) (v : VwM) (key : Int) (hR : R.length ≤ 2000000) (hn : vs.length ≤ 1000000) (hl : v.op.length ≤ 1000000) (w0 : World) (hfs : List PH) (hm : Mod hfs (hqX h br Ar cr R A c vs) w0) (hS : RdF hfs v.S (v.op.flatMap (encI .i64))) :
    Calls Tryz.prog 39 #[.pointer (some ⟨h, 0, none⟩), v.v, .int .i64 key] w0 fun e w' => ∃ u Rs', e = .returned u ∧ (∃ e vs', killR (rState R) v vs key e vs' ∧ u = .int .i64 e ∧ Rs' = hqX h br Ar cr R A c vs') ∧ Mod hfs Rs' w' ∧ Oth w0 w' := by
  have hA : vs ≠ [] → ∃ b o, A = some ⟨b, o, none⟩ := fun h => hm.own_some (i := 1) rfl h
  refine enterN (tab := tab) Tryz.func39 rfl Tryz.ntmps39 rfl (args := [_, _, _]) rfl hm ?_
  refine VC_sound tabOk 100 ?_
  intro b4 _
  show Go _ _ _ _
  refine Go_any mixed [] [(0, false), (1, false), (2, false), (4, false), (3, false), (5, false), (6, true), (7, false)] rfl (by kernel_rfl) (by kernel_rfl) [.blk b4 50 v.cs, .blk h 84 (hpV br A vs.length c)] (FrmX hfs) (FrmX.stable _) (fun w hm _ => ⟨Holds.of_idx [0, 1] hm, FrmX.of_mod hm⟩) ?_
  refine VC_sound tabOk 100 ?_
  (repeat (first | refine Or.inl ⟨rfl, rfl, ?_⟩ | refine Or.inl ⟨rfl, ?_⟩ | refine Or.inr ?_))
  refine Go_aloneL rfl rfl (OpTo_pcall (v := .int .u8 (rState R v.own)) rfl rfl rfl rfl rfl (by kernel_rfl) (fun w hm _ => r06_state br Ar cr R v.own w (hm.blk_at (i := 3) rfl) (hm.own_rd (i := 4) rfl) hR) ?_)
  refine And.intro (fun w hm _ => ⟨Holds.of_idx [0, 1] hm, FrmX.of_mod hm⟩) ?_
  refine VC_sound tabOk 100 ?_
  refine ⟨fun h1 => ?_, fun h1 => ?_⟩
  · have ho : ¬ rState R v.own = 1 := by simpa using h1
    exact ⟨_, ⟨7, vs, .inl ⟨ho, rfl, rfl⟩, rfl, rfl⟩, fun _ _ h => h.sel [1, 2, 3, 4] rfl⟩
  have ho : rState R v.own = 1 := by simpa using h1
  (repeat (first | refine Or.inl ⟨rfl, rfl, ?_⟩ | refine Or.inl ⟨rfl, ?_⟩ | refine Or.inr ?_))
  refine Go_ops rfl (OpTo_pcall (v := .int .i64 (idxF (findP (rState R) v key) vs)) rfl rfl rfl rfl rfl (by kernel_rfl) (fun w hm _ => r7_find h br Ar cr R A c vs v w (RpAt.of hm 1 rfl rfl rfl rfl) hR key hn (hS _ w hm) hl) ?_)
  rcases idxF_spec (findP (rState R) v key) vs with ⟨h0, hall⟩ | ⟨i, hi, h0, hpi, hne⟩
  · rw [h0]
    refine VC_sound tabOk 100 ?_
    refine ⟨fun _ => ?_, fun h => by first | (simp at h; done) | (simp at h; omega) | (simp_all; done)⟩
    exact ⟨_, ⟨4, vs, .inr (.inl ⟨ho, hall, rfl, rfl⟩), rfl, rfl⟩, fun _ _ h => h.sel [1, 2, 3, 4] rfl⟩
  rw [h0]
  obtain ⟨ba, oa, rfl⟩ := hA (ne_nil_of_lt hi)
  have hgx : vs[i]? = some vs[i] := List.getElem?_eq_getElem hi
  generalize vs[i] = x at hgx hpi
  refine VC_sound tabOk 100 ?_
  refine ⟨fun h => by first | (simp at h; done) | (simp at h; omega) | (simp_all; done), fun _ => ?_⟩
  show Go _ _ _ _
  refine Go_any mixed [] [(0, false), (2, false), (3, false), (4, false), (6, false), (1, false), (5, false), (7, false), (8, false), (9, false), (10, true)] rfl (by kernel_rfl) (by kernel_rfl) [.blk b4 50 v.cs, .blk h 84 (hpV br (some ⟨ba, oa, none⟩) vs.length c)] (fun w => RdW w (some ⟨ba, oa, none⟩) (vs.flatMap encV)) (fun w w' hk h => h.old hk) (fun w hm _ => ⟨Holds.of_idx [0, 1] hm, by exact Mod.own_rd (k := 4) (T := 123) (c := c) (i := 2) hm rfl⟩) ?_
  refine VC_sound tabOk 100 ?_
  (repeat (first | refine Or.inl ⟨rfl, rfl, ?_⟩ | refine Or.inl ⟨rfl, ?_⟩ | refine Or.inr ?_))
  refine ⟨⟨by omega, by omega⟩, ?_⟩
  (repeat (first | refine Or.inl ⟨rfl, rfl, ?_⟩ | refine Or.inl ⟨rfl, ?_⟩ | refine Or.inr ?_))
  refine Go_first (v := .int .i64 x.died) rfl rfl rfl rfl (fun w _ hw => rxLoadPart tabOk rfl encV_is hw hgx (off := 3) rfl (by first | (simp only [addA]; rfl) | rfl)) ?_
  refine VC_sound tabOk 100 ?_
  refine Go_aloneL rfl rfl (OpTo_pcall (v := .bool (othP (rState R) v x.died)) rfl rfl rfl rfl rfl (by kernel_rfl) (fun w hm _ => r7_taken h br Ar cr R _ c vs v w (RpAt.of hm 1 rfl rfl rfl rfl) hR x.died) ?_)
  refine And.intro (fun w hm _ => ⟨Holds.of_idx [0, 1] hm, by exact Mod.own_rd (k := 4) (T := 123) (c := c) (i := 2) hm rfl⟩) ?_
  refine VC_sound tabOk 100 ?_
  refine ⟨fun h1 => ?_, fun h1 => ?_⟩
  · exact ⟨_, ⟨6, vs, .inr (.inr ⟨ho, i, x, hgx, hpi, hne, .inl ⟨h1, rfl, rfl⟩⟩), rfl, rfl⟩, fun _ _ h => h.sel [1, 2, 3, 4] rfl⟩
  show Go _ _ _ _
  refine Go_any mixed [9] [(0, false), (1, false), (2, false), (4, false), (5, false), (3, false), (6, false), (7, false), (8, false), (9, true)] rfl (by kernel_rfl) (by kernel_rfl) [.blk b4 50 v.cs, .blk h 84 (hpV br (some ⟨ba, oa, none⟩) vs.length c)] (FrmX hfs) (FrmX.stable _) (fun w hm _ => ⟨Holds.of_idx [0, 1] hm, FrmX.of_mod hm⟩) ?_
  refine VC_sound tabOk 100 ?_
  (repeat (first | refine Or.inl ⟨rfl, rfl, ?_⟩ | refine Or.inl ⟨rfl, ?_⟩ | refine Or.inr ?_))
  refine ⟨⟨by omega, by omega⟩, ?_⟩
  (repeat (first | refine Or.inl ⟨rfl, rfl, ?_⟩ | refine Or.inl ⟨rfl, ?_⟩ | refine Or.inr ?_))
  refine Go_aloneM rfl rfl rfl (OpTo_storePart tabOk encV_is (j := 3) (n := i) (u' := ⟨x.key, x.text, x.born, v.own⟩) 2 rfl rfl rfl rfl rfl rfl hgx rfl rfl rfl (by first | (simp only [addA]; rfl) | rfl) ?_)
  refine VC_sound tabOk 100 ?_
  refine ⟨_, ⟨0, _, .inr (.inr ⟨ho, i, x, hgx, hpi, hne, .inr ⟨h1, rfl, rfl⟩⟩), rfl, rfl⟩, fun hfs w h => ?_⟩
  have h := h.sel [1, 2, 3, 4] rfl
  simp only [hqX, hqR, List.length_set]
  exact h

set_option maxHeartbeats 2000000 in
theorem r7_update (h br : Nat) (Ar : Option Addr) (cr : Nat) (R : List Int) (A : Option Addr) (c : Nat) (vs : List VerM) (v : VwM) (r : RowM) (hR : R.length ≤ 2000000) (hn : vs.length ≤ 1000000) (hl : v.op.length ≤ 1000000) (w0 : World) (hfs : List PH) (hm : Mod hfs (hqX h br Ar cr R A c vs) w0) (hS : RdF hfs v.S (v.op.flatMap (encI .i64))) :
    Calls Tryz.prog 38 #[.pointer (some ⟨h, 0, none⟩), v.v, mkR r] w0 fun e w' => ∃ u Rs', e = .returned u ∧ (∃ e vs' A' c', updR (rState R) v vs r e vs' ∧ u = .int .i64 e ∧ Rs' = hqX h br Ar cr R A' c' vs') ∧ Mod hfs Rs' w' ∧ Oth w0 w' := by
  refine enterN (tab := tab) Tryz.func38 rfl Tryz.ntmps38 rfl (args := [_, _, _]) rfl hm ?_
  refine VC_sound tabOk 100 ?_
  intro b4 _ b5 _
  (repeat (first | refine Or.inl ⟨rfl, rfl, ?_⟩ | refine Or.inl ⟨rfl, ?_⟩ | refine Or.inr ?_))
  (repeat (first | refine Or.inl ⟨rfl, rfl, ?_⟩ | refine Or.inl ⟨rfl, ?_⟩ | refine Or.inr ?_))
  refine Go_sel [2, 3, 4, 5, 0, 1] rfl ?_
  show Go _ _ _ _
  show Go _ _ _ _
  refine Go_ops rfl (OpTo_mcall (hqX h br Ar cr R A c vs) [.blk b5 55 (encR r), .blk b4 50 v.cs] (List.Perm.of_eq rfl) rfl rfl rfl rfl rfl (by kernel_rfl) (fun w hb hm hio hsp k => r7_delete h br Ar cr R A c vs v r.key hR hn hl w _ k (RdF.of_split hsp fun Rs w h => hS _ w h)) ?_)
  rintro _ _ ⟨e, vs1, hk, rfl, rfl⟩
  have hl1 := hk.len
  by_cases he : e = 0
  rotate_left
  · refine VC_sound tabOk 100 ?_
    refine ⟨fun h => absurd (of_decide_eq_true h) he, fun _ => ?_⟩
    exact ⟨_, ⟨e, vs1, _, _, ⟨vs1, hk, by rw [if_neg he]⟩, rfl, rfl⟩, fun _ _ h => h.sel [0, 1, 2, 3] rfl⟩
  · subst he
    refine VC_sound tabOk 100 ?_
    refine ⟨fun _ => ?_, fun h => by first | (simp at h; done) | (simp at h; omega) | (simp_all; done)⟩
    show Go _ _ _ _
    refine Go_any mixed [10, 13] [(0, false), (1, false), (2, false), (3, false), (6, false), (4, false), (5, false), (7, false), (8, false), (9, true), (10, true), (11, false), (12, false), (13, true)] rfl (by kernel_rfl) (by kernel_rfl) [.blk b5 55 (encR r), .blk b4 50 v.cs, .blk h 84 (hpV br A vs1.length c)] (FrmX hfs) (FrmX.stable _) (fun w hm _ => ⟨Holds.of_idx [4, 5, 0] hm, FrmX.of_mod hm⟩) ?_
    refine VC_sound tabOk 100 ?_
    (repeat (first | refine Or.inl ⟨rfl, rfl, ?_⟩ | refine Or.inl ⟨rfl, ?_⟩ | refine Or.inr ?_))
    (repeat (first | refine Or.inl ⟨rfl, rfl, ?_⟩ | refine Or.inl ⟨rfl, ?_⟩ | refine Or.inr ?_))
    intro b9 _
    refine Go_aloneM rfl rfl rfl (OpTo_append tabOk encV_is (ys := [⟨r.key, r.text, v.own, 0⟩]) (i := 2) rfl rfl rfl rfl rfl rfl rfl rfl rfl rfl rfl (fun w hm _ => hm.blk_rd (i := 0) rfl) (by simp; omega) (by simp; omega) (fun A2 c2 => ?_))
    refine VC_sound tabOk 100 ?_
    (repeat (first | refine Or.inl ⟨rfl, rfl, ?_⟩ | refine Or.inl ⟨rfl, ?_⟩ | refine Or.inr ?_))
    refine ⟨_, ⟨0, _, A2, c2, ⟨vs1, hk, rfl⟩, rfl, rfl⟩, fun hfs w h => ?_⟩
    have h := h.sel [1, 2, 3, 4] rfl
    rw [show vs1.length + 1 = (vs1 ++ [(⟨r.key, r.text, v.own, 0⟩ : VerM)]).length by simp] at h
    exact h
end Go.Proofs.YtbhlkninmbafcaaGreat
