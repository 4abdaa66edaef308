/- What Insert and Truncate of the reference of layer 7 change. -/
import Derived.Test.YtbhlkninmbafcaaGreatR07b
import Derived.Test.YtbhlkninmbafcaaGreatRelR
set_option maxRecDepth 100000
set_option autoImplicit false
set_option linter.unusedVariables false
set_option linter.unusedSimpArgs false
namespace Go.Proofs.YtbhlkninmbafcaaGreat
open Go.RX Go Go.RowKit


set_option maxHeartbeats 8000000 in
theorem r7_insert (h br : Nat) (Ar : Option Addr) (cr : Nat) (R : List Int) (A : Option Addr) (c : Nat) (vs : List VerM) (v : VwM) (r : RowM) (hR : R.length ≤ 2000000) (hn : vs.length ≤ 1000000) (hl : v.op.length ≤ 1000000) (w0 : World) (hfs : List PH) (hm : Mod hfs (hqX h br Ar cr R A c vs) w0) (hS : RdF hfs v.S (v.op.flatMap (encI .i64))) :
    Calls Tryz.prog 37 #[.pointer (some ⟨h, 0, none⟩), v.v, mkR r] w0 fun e w' => ∃ u Rs', e = .returned u ∧ (u = .int .i64 (insE (rState R) v vs r.key) ∧ ∃ A' c', Rs' = hqX h br Ar cr R A' c' (insVs (rState R) v vs r)) ∧ Mod hfs Rs' w' ∧ Oth w0 w' := by
  have hA : vs ≠ [] → ∃ b o, A = some ⟨b, o, none⟩ := fun h => hm.own_some (i := 1) rfl h
  refine enterN (tab := tab) Tryz.func37 rfl Tryz.ntmps37 rfl (args := [_, _, _]) rfl hm ?_
  refine VC_sound tabOk 100 ?_
  intro b4 _ b5 _
  show Go _ _ _ _
  refine Go_any mixed [] [(0, false), (1, false), (2, false), (4, false), (3, false), (5, false), (6, true), (7, false)] rfl (by kernel_rfl) (by kernel_rfl) [.blk b4 50 v.cs, .blk h 84 (hpV br A vs.length c)] (FrmX hfs) (FrmX.stable _) (fun w hm _ => ⟨Holds.of_idx [1, 2] hm, FrmX.of_mod hm⟩) ?_
  refine VC_sound tabOk 100 ?_
  (repeat (first | refine Or.inl ⟨rfl, rfl, ?_⟩ | refine Or.inl ⟨rfl, ?_⟩ | refine Or.inr ?_))
  refine Go_aloneL rfl rfl (OpTo_pcall (v := .int .u8 (rState R (v.own))) rfl rfl rfl rfl rfl (by kernel_rfl) (fun w hm _ => r06_state br Ar cr R (v.own) w (hm.blk_at (i := 4) rfl) (hm.own_rd (i := 5) rfl) hR) ?_)
  refine And.intro (fun w hm _ => ⟨Holds.of_idx [1, 2] hm, FrmX.of_mod hm⟩) ?_
  refine VC_sound tabOk 100 ?_
  refine ⟨fun h1 => ?_, fun h1 => ?_⟩
  · have ho : ¬ rState R v.own = 1 := by simpa using h1
    have e2 : insE (rState R) v vs r.key = 7 := by rw [insE, if_neg ho]
    exact ⟨_, ⟨by rw [e2]; rfl, A, c, by rw [insVs, e2]; rfl⟩, fun _ _ h => h.sel [2, 3, 4, 5] rfl⟩
  have ho : rState R v.own = 1 := by simpa using h1
  (repeat (first | refine Or.inl ⟨rfl, rfl, ?_⟩ | refine Or.inl ⟨rfl, ?_⟩ | refine Or.inr ?_))
  (repeat (first | refine Or.inl ⟨rfl, rfl, ?_⟩ | refine Or.inl ⟨rfl, ?_⟩ | refine Or.inr ?_))
  refine Go_ops rfl (OpTo_pcall (v := .int .i64 (idxF (findP (rState R) v r.key) vs)) rfl rfl rfl rfl rfl (by kernel_rfl) (fun w hm _ => r7_find h br Ar cr R A c vs v w (RpAt.of hm 2 rfl rfl rfl rfl) hR r.key hn (hS _ w hm) hl) ?_)
  refine VC_sound tabOk 100 ?_
  have hany := idxF_any (findP (rState R) v r.key) vs
  refine ⟨fun h1 => ?_, fun h1 => ?_⟩
  · have e2 : insE (rState R) v vs r.key = 5 := by rw [insE, if_pos ho, if_pos (by rw [← hany]; exact h1)]
    exact ⟨_, ⟨by rw [e2]; rfl, A, c, by rw [insVs, e2]; rfl⟩, fun _ _ h => h.sel [2, 3, 4, 5] rfl⟩
  have hf : ¬ vs.any (findP (rState R) v r.key) = true := by rw [← hany, h1]; simp
  refine Go_loop (σ := Nat) (fun i => [(0, .v (.pointer (some ⟨h, 0, none⟩))), (4, .v (.pointer (some ⟨b4, 0, none⟩))), (5, .v (.pointer (some ⟨b5, 0, none⟩))), (7, .v (.int .i64 i))]) (fun _ => .blk b5 55 (encR r) :: .blk b4 50 v.cs :: hqX h br Ar cr R A c vs) (fun i => i ≤ vs.length ∧ (vs.take i).any (insP (rState R) v r.key) = false) (fun i => vs.length - i) 0 ⟨Nat.zero_le _, rfl⟩ ⟨rfl, rfl, rfl, rfl, trivial⟩ (fun _ h => h) ?_
  rintro i ⟨hi, hall⟩
  dsimp only at hi hall ⊢
  by_cases hlt : i < vs.length
  rotate_left
  · have he : i = vs.length := by omega
    subst he
    rw [List.take_length] at hall
    have e2 : insE (rState R) v vs r.key = 0 := by rw [insE, if_pos ho, if_neg hf, if_neg (by rw [hall]; simp)]
    refine VC_sound tabOk 100 ?_
    (repeat (first | refine Or.inl ⟨rfl, rfl, ?_⟩ | refine Or.inl ⟨rfl, ?_⟩ | refine Or.inr ?_))
    refine ⟨fun h => by first | (simp at h; done) | (simp at h; omega) | (simp_all; done), fun _ => ?_⟩
    show Go _ _ _ _
    refine Go_any mixed [10, 13] [(0, false), (1, false), (2, false), (3, false), (6, false), (4, false), (5, false), (7, false), (8, false), (9, true), (10, true), (11, false), (12, false), (13, true)] rfl (by kernel_rfl) (by kernel_rfl) [.blk b5 55 (encR r), .blk b4 50 v.cs, .blk h 84 (hpV br A vs.length c)] (FrmX hfs) (FrmX.stable _) (fun w hm _ => ⟨Holds.of_idx [0, 1, 2] hm, FrmX.of_mod hm⟩) ?_
    refine VC_sound tabOk 100 ?_
    (repeat (first | refine Or.inl ⟨rfl, rfl, ?_⟩ | refine Or.inl ⟨rfl, ?_⟩ | refine Or.inr ?_))
    (repeat (first | refine Or.inl ⟨rfl, rfl, ?_⟩ | refine Or.inl ⟨rfl, ?_⟩ | refine Or.inr ?_))
    intro b9 _
    refine Go_aloneM rfl rfl rfl (OpTo_append tabOk encV_is (ys := [⟨r.key, r.text, v.own, 0⟩]) (i := 4) rfl rfl rfl rfl rfl rfl rfl rfl rfl rfl rfl (fun w hm _ => hm.blk_rd (i := 0) rfl) (by simp; omega) (by simp; omega) (fun A2 c2 => ?_))
    refine VC_sound tabOk 100 ?_
    (repeat (first | refine Or.inl ⟨rfl, rfl, ?_⟩ | refine Or.inl ⟨rfl, ?_⟩ | refine Or.inr ?_))
    refine ⟨_, ⟨by rw [e2]; rfl, A2, c2, by rw [insVs, if_pos e2]⟩, fun hfs w h => ?_⟩
    have h := h.sel [3, 4, 5, 6] rfl
    rw [show vs.length + 1 = (vs ++ [(⟨r.key, r.text, v.own, 0⟩ : VerM)]).length by simp] at h
    exact h
  obtain ⟨ba, oa, rfl⟩ := hA (ne_nil_of_lt hlt)
  obtain ⟨x, hgx⟩ : ∃ x, vs[i]? = some x := ⟨_, List.getElem?_eq_getElem hlt⟩
  have hnext : insP (rState R) v r.key x = false → (vs.take (i + 1)).any (insP (rState R) v r.key) = false := fun hx => by
    rw [List.take_add_one, hgx, List.any_append, hall]; simp [hx]
  refine VC_sound tabOk 100 ?_
  (repeat (first | refine Or.inl ⟨rfl, rfl, ?_⟩ | refine Or.inl ⟨rfl, ?_⟩ | refine Or.inr ?_))
  refine ⟨fun _ => ?_, fun h => by first | (simp at h; done) | (simp at h; omega) | (simp_all; done)⟩
  (repeat (first | refine Or.inl ⟨rfl, rfl, ?_⟩ | refine Or.inl ⟨rfl, ?_⟩ | refine Or.inr ?_))
  refine ⟨⟨by omega, by omega⟩, ?_⟩
  (repeat (first | refine Or.inl ⟨rfl, rfl, ?_⟩ | refine Or.inl ⟨rfl, ?_⟩ | refine Or.inr ?_))
  refine Go_ops rfl (OpTo_loadRow tabOk encV_is (mkV x) rfl rfl rfl rfl rfl (fun h => by first | rfl | cases h) (fun w hm _ => hm.own_rd (i := 3) rfl) hgx (by simp only [addA]; rfl) ?_)
  refine VC_sound tabOk 100 ?_
  intro b8 _
  (repeat (first | refine Or.inl ⟨rfl, rfl, ?_⟩ | refine Or.inl ⟨rfl, ?_⟩ | refine Or.inr ?_))
  refine Go_cut (σ := Unit) (fun _ => [(0, .v (.pointer (some ⟨h, 0, none⟩))), (4, .v (.pointer (some ⟨b4, 0, none⟩))), (5, .v (.pointer (some ⟨b5, 0, none⟩))), (7, .v (.int .i64 i)), (8, .v (.pointer (some ⟨b8, 0, none⟩))), (9, .v (.bool (deadP (rState R) v x)))]) (fun _ => .blk b8 123 (encV x) :: .blk b5 55 (encR r) :: .blk b4 50 v.cs :: hqX h br Ar cr R (some ⟨ba, oa, none⟩) c vs) (fun _ => True) ?_ ?_
  · refine Go_any mixed [] [(0, false), (1, false), (2, false), (3, false), (4, false), (6, false), (5, false), (7, false), (8, false), (9, false), (10, false), (11, false), (12, false), (14, false), (13, false), (15, false), (16, true), (17, false), (18, false), (19, false), (20, false)] rfl (by kernel_rfl) (by kernel_rfl) [.blk b8 123 (encV x), .blk b4 50 v.cs, .blk h 84 (hpV br (some ⟨ba, oa, none⟩) vs.length c)] (FrmX hfs) (FrmX.stable _) (fun w hm _ => ⟨Holds.of_idx [0, 2, 3] hm, FrmX.of_mod hm⟩) ?_
    refine VC_sound tabOk 100 ?_
    (repeat (first | refine Or.inl ⟨rfl, rfl, ?_⟩ | refine Or.inl ⟨rfl, ?_⟩ | refine Or.inr ?_))
    refine ⟨fun g1 => ?_, fun g1 => ?_⟩
    rotate_left
    · exact Go_put () trivial ⟨rfl, rfl, rfl, rfl, rfl, congrArg Value.bool (by simp only [deadP, g1, Bool.false_and]), trivial⟩ (fun _ h => h)
    (repeat (first | refine Or.inl ⟨rfl, rfl, ?_⟩ | refine Or.inl ⟨rfl, ?_⟩ | refine Or.inr ?_))
    (repeat (first | refine Or.inl ⟨rfl, rfl, ?_⟩ | refine Or.inl ⟨rfl, ?_⟩ | refine Or.inr ?_))
    refine ⟨fun g2 => ?_, fun g2 => ?_⟩
    · exact Go_put () trivial ⟨rfl, rfl, rfl, rfl, rfl, congrArg Value.bool (by simp only [deadP, g1, g2, Bool.true_and, Bool.true_or]), trivial⟩ (fun _ h => h)
    (repeat (first | refine Or.inl ⟨rfl, rfl, ?_⟩ | refine Or.inl ⟨rfl, ?_⟩ | refine Or.inr ?_))
    refine Go_aloneL rfl rfl (OpTo_pcall (v := .int .u8 (rState R (x.died))) rfl rfl rfl rfl rfl (by kernel_rfl) (fun w hm _ => r06_state br Ar cr R (x.died) w (hm.blk_at (i := 5) rfl) (hm.own_rd (i := 6) rfl) hR) ?_)
    refine And.intro (fun w hm _ => ⟨Holds.of_idx [0, 2, 3] hm, FrmX.of_mod hm⟩) ?_
    refine VC_sound tabOk 100 ?_
    exact Go_put () trivial ⟨rfl, rfl, rfl, rfl, rfl, congrArg Value.bool (by simp only [deadP, g1, g2, Bool.true_and, Bool.false_or]), trivial⟩ (fun _ h => h)
  rintro _ _
  have FINX : insP (rState R) v r.key x = false → ∀ w, Mod hfs (.blk b8 123 (encV x) :: .blk b5 55 (encR r) :: .blk b4 50 v.cs :: hqX h br Ar cr R (some ⟨ba, oa, none⟩) c vs) w → Mod hfs (.blk b5 55 (encR r) :: .blk b4 50 v.cs :: hqX h br Ar cr R (some ⟨ba, oa, none⟩) c vs) w := fun _ w h => h.sel [1, 2, 3, 4, 5, 6] rfl
  refine VC_sound tabOk 100 ?_
  (repeat (first | refine Or.inl ⟨rfl, rfl, ?_⟩ | refine Or.inl ⟨rfl, ?_⟩ | refine Or.inr ?_))
  (repeat (first | refine Or.inl ⟨rfl, rfl, ?_⟩ | refine Or.inl ⟨rfl, ?_⟩ | refine Or.inr ?_))
  refine ⟨fun g1 => ?_, fun g1 => ?_⟩
  rotate_left
  · have hx : insP (rState R) v r.key x = false := by simp only [insP, g1, Bool.false_and]
    refine ⟨_, wrap_i64 (n := (i : Int) + 1) (by omega) (by omega), ?_⟩
    exact Go_fin (i + 1) ⟨by omega, hnext hx⟩ (by omega) ⟨rfl, rfl, rfl, rfl, trivial⟩ (FINX hx)
  (repeat (first | refine Or.inl ⟨rfl, rfl, ?_⟩ | refine Or.inl ⟨rfl, ?_⟩ | refine Or.inr ?_))
  (repeat (first | refine Or.inl ⟨rfl, rfl, ?_⟩ | refine Or.inl ⟨rfl, ?_⟩ | refine Or.inr ?_))
  refine Go_ops rfl (OpTo_pcall (v := .bool (othP (rState R) v x.born)) rfl rfl rfl rfl rfl (by kernel_rfl) (fun w hm _ => r7_taken h br Ar cr R _ c vs v w (RpAt.of hm 3 rfl rfl rfl rfl) hR x.born) ?_)
  refine VC_sound tabOk 100 ?_
  refine ⟨fun g2 => ?_, fun g2 => ?_⟩
  rotate_left
  · have hx : insP (rState R) v r.key x = false := by simp only [insP, blkP, g2, Bool.false_and, Bool.and_false]
    refine ⟨_, wrap_i64 (n := (i : Int) + 1) (by omega) (by omega), ?_⟩
    exact Go_fin (i + 1) ⟨by omega, hnext hx⟩ (by omega) ⟨rfl, rfl, rfl, rfl, trivial⟩ (FINX hx)
  refine ⟨fun g3 => ?_, fun g3 => ?_⟩
  · have hx : insP (rState R) v r.key x = true := by simp only [insP, blkP, g1, g2, g3, Bool.true_and]
    have e2 : insE (rState R) v vs r.key = 6 := by rw [insE, if_pos ho, if_neg hf, if_pos (List.any_eq_true.2 ⟨x, List.mem_of_getElem? hgx, hx⟩)]
    exact ⟨_, ⟨by rw [e2]; rfl, _, c, by rw [insVs, e2]; rfl⟩, fun _ _ h => h.sel [3, 4, 5, 6] rfl⟩
  · have hx : insP (rState R) v r.key x = false := by simp only [insP, blkP, g3, Bool.and_false]
    refine ⟨_, wrap_i64 (n := (i : Int) + 1) (by omega) (by omega), ?_⟩
    exact Go_fin (i + 1) ⟨by omega, hnext hx⟩ (by omega) ⟨rfl, rfl, rfl, rfl, trivial⟩ (FINX hx)

set_option maxHeartbeats 8000000 in
theorem r7_truncate (h br : Nat) (Ar : Option Addr) (cr : Nat) (R : List Int) (A : Option Addr) (c : Nat) (vs : List VerM) (v : VwM) (hR : R.length ≤ 2000000) (hn : vs.length ≤ 10000) (hl : v.op.length ≤ 1000000) (w0 : World) (hfs : List PH) (hm : Mod hfs (hqX h br Ar cr R A c vs) w0) (hS : RdF hfs v.S (v.op.flatMap (encI .i64))) :
    Calls Tryz.prog 40 #[.pointer (some ⟨h, 0, none⟩), v.v] w0 fun e w' => ∃ u Rs', e = .returned u ∧ (∃ e ys A2 c2 vs', truR (rState R) v vs e ys vs' ∧ u = .tuple #[.slice A2 ys.length c2, .int .i64 e] ∧ Rs' = own encR 2 55 A2 c2 ys :: hqX h br Ar cr R A c vs') ∧ Mod hfs Rs' w' ∧ Oth w0 w' := by
  have hA : vs ≠ [] → ∃ b o, A = some ⟨b, o, none⟩ := fun h => hm.own_some (i := 1) rfl h
  refine enterN (tab := tab) Tryz.func40 rfl Tryz.ntmps40 rfl (args := [_, _]) rfl hm ?_
  refine VC_sound tabOk 100 ?_
  intro b3 _
  show Go _ _ _ _
  refine Go_any mixed [] [(0, false), (1, false), (2, false), (4, false), (3, false), (5, false), (6, true), (7, false)] rfl (by kernel_rfl) (by kernel_rfl) [.blk b3 50 v.cs, .blk h 84 (hpV br A vs.length c)] (FrmX hfs) (FrmX.stable _) (fun w hm _ => ⟨Holds.of_idx [0, 1] hm, FrmX.of_mod hm⟩) ?_
  refine VC_sound tabOk 100 ?_
  (repeat (first | refine Or.inl ⟨rfl, rfl, ?_⟩ | refine Or.inl ⟨rfl, ?_⟩ | refine Or.inr ?_))
  refine Go_aloneL rfl rfl (OpTo_pcall (v := .int .u8 (rState R (v.own))) rfl rfl rfl rfl rfl (by kernel_rfl) (fun w hm _ => r06_state br Ar cr R (v.own) w (hm.blk_at (i := 3) rfl) (hm.own_rd (i := 4) rfl) hR) ?_)
  refine And.intro (fun w hm _ => ⟨Holds.of_idx [0, 1] hm, FrmX.of_mod hm⟩) ?_
  refine VC_sound tabOk 100 ?_
  refine ⟨fun h1 => ?_, fun h1 => ?_⟩
  · have ho : ¬ rState R v.own = 1 := by simpa using h1
    exact ⟨_, ⟨7, [], none, 0, vs, .inl ⟨ho, rfl, rfl, rfl⟩, rfl, rfl⟩, fun _ _ h => (h.own_nil (enc := encR) (k := 2) (T := 55) none).sel [0, 2, 3, 4, 5] rfl⟩
  have ho : rState R v.own = 1 := by simpa using h1
  have hop : 0 < v.own := by
    by_cases hx : v.own < 1 ∨ (R.length : Int) < v.own
    · rw [rState, if_pos hx] at ho; cases ho
    · omega
  refine Go_loop (σ := Nat) (fun i => [(0, .v (.pointer (some ⟨h, 0, none⟩))), (3, .v (.pointer (some ⟨b3, 0, none⟩))), (6, .v (.int .i64 i))]) (fun _ => .blk b3 50 v.cs :: hqX h br Ar cr R A c vs) (fun i => i ≤ vs.length ∧ (vs.take i).any (truP (rState R) v) = false) (fun i => vs.length - i) 0 ⟨Nat.zero_le _, rfl⟩ ⟨rfl, rfl, rfl, trivial⟩ (fun _ h => h) ?_
  rintro i ⟨hi, hall⟩
  dsimp only at hi hall ⊢
  by_cases hlt : i < vs.length
  · obtain ⟨ba, oa, rfl⟩ := hA (ne_nil_of_lt hlt)
    obtain ⟨x, hgx⟩ : ∃ x, vs[i]? = some x := ⟨_, List.getElem?_eq_getElem hlt⟩
    have hnext : truP (rState R) v x = false → (vs.take (i + 1)).any (truP (rState R) v) = false := fun hx => by
      rw [List.take_add_one, hgx, List.any_append, hall]; simp [hx]
    refine VC_sound tabOk 100 ?_
    (repeat (first | refine Or.inl ⟨rfl, rfl, ?_⟩ | refine Or.inl ⟨rfl, ?_⟩ | refine Or.inr ?_))
    refine ⟨fun _ => ?_, fun h => by first | (simp at h; done) | (simp at h; omega) | (simp_all; done)⟩
    show Go _ _ _ _
    refine Go_any mixed [] [(0, false), (2, false), (1, false), (3, true), (4, false), (5, false), (7, false), (8, false), (9, false), (11, false), (6, false), (10, false), (12, false), (13, false), (14, false), (15, true), (16, false)] rfl (by kernel_rfl) (by kernel_rfl) [.blk b3 50 v.cs, .blk h 84 (hpV br (some ⟨ba, oa, none⟩) vs.length c)] (fun w => RdW w (some ⟨ba, oa, none⟩) (vs.flatMap encV)) (fun w w' hk h => h.old hk) (fun w hm _ => ⟨Holds.of_idx [0, 1] hm, by exact Mod.own_rd (k := 4) (T := 123) (c := c) (i := 2) hm rfl⟩) ?_
    refine VC_sound tabOk 100 ?_
    (repeat (first | refine Or.inl ⟨rfl, rfl, ?_⟩ | refine Or.inl ⟨rfl, ?_⟩ | refine Or.inr ?_))
    refine Go_aloneL rfl rfl (OpTo_pcall (v := .bool (seesP (rState R) v x)) rfl rfl rfl rfl rfl (by kernel_rfl) (fun w hm _ => r7_sees h br Ar cr R _ c vs v w (RpAt.of hm 1 rfl rfl rfl rfl) hR i x hgx (by omega) (hS _ w hm) hl) ?_)
    refine And.intro (fun w hm _ => ⟨Holds.of_idx [0, 1] hm, by exact Mod.own_rd (k := 4) (T := 123) (c := c) (i := 2) hm rfl⟩) ?_
    refine VC_sound tabOk 100 ?_
    refine ⟨fun g1 => ?_, fun g1 => ?_⟩
    rotate_left
    · have hx : truP (rState R) v x = false := by simp only [truP, g1, Bool.false_and]
      refine ⟨_, wrap_i64 (n := (i : Int) + 1) (by omega) (by omega), ?_⟩
      exact Go_fin (i + 1) ⟨by omega, hnext hx⟩ (by omega) ⟨rfl, rfl, rfl, trivial⟩ (fun _ h => h)
    (repeat (first | refine Or.inl ⟨rfl, rfl, ?_⟩ | refine Or.inl ⟨rfl, ?_⟩ | refine Or.inr ?_))
    refine ⟨⟨by omega, by omega⟩, ?_⟩
    (repeat (first | refine Or.inl ⟨rfl, rfl, ?_⟩ | refine Or.inl ⟨rfl, ?_⟩ | refine Or.inr ?_))
    refine Go_first (v := .int .i64 x.died) rfl rfl rfl rfl (fun w _ hw => rxLoadPart tabOk rfl encV_is hw hgx (off := 3) rfl (by first | (simp only [addA]; rfl) | rfl)) ?_
    refine VC_sound tabOk 100 ?_
    refine Go_aloneL rfl rfl (OpTo_pcall (v := .bool (othP (rState R) v x.died)) rfl rfl rfl rfl rfl (by kernel_rfl) (fun w hm _ => r7_taken h br Ar cr R _ c vs v w (RpAt.of hm 1 rfl rfl rfl rfl) hR x.died) ?_)
    refine And.intro (fun w hm _ => ⟨Holds.of_idx [0, 1] hm, by exact Mod.own_rd (k := 4) (T := 123) (c := c) (i := 2) hm rfl⟩) ?_
    refine VC_sound tabOk 100 ?_
    refine ⟨fun g2 => ?_, fun g2 => ?_⟩
    · have hx : truP (rState R) v x = true := by simp only [truP, g1, g2, Bool.true_and]
      exact ⟨_, ⟨6, [], none, 0, vs, .inr (.inl ⟨ho, List.any_eq_true.2 ⟨x, List.mem_of_getElem? hgx, hx⟩, rfl, rfl, rfl⟩), rfl, rfl⟩, fun _ _ h => (h.own_nil (enc := encR) (k := 2) (T := 55) none).sel [0, 2, 3, 4, 5] rfl⟩
    · have hx : truP (rState R) v x = false := by simp only [truP, g2, Bool.and_false]
      refine ⟨_, wrap_i64 (n := (i : Int) + 1) (by omega) (by omega), ?_⟩
      exact Go_fin (i + 1) ⟨by omega, hnext hx⟩ (by omega) ⟨rfl, rfl, rfl, trivial⟩ (fun _ h => h)
  have he : i = vs.length := by omega
  subst he
  rw [List.take_length] at hall
  refine VC_sound tabOk 100 ?_
  (repeat (first | refine Or.inl ⟨rfl, rfl, ?_⟩ | refine Or.inl ⟨rfl, ?_⟩ | refine Or.inr ?_))
  refine ⟨fun h => by first | (simp at h; done) | (simp at h; omega) | (simp_all; done), fun _ => ?_⟩
  (repeat (first | refine Or.inl ⟨rfl, rfl, ?_⟩ | refine Or.inl ⟨rfl, ?_⟩ | refine Or.inr ?_))
  show Go _ _ _ _
  refine Go_ops rfl (OpTo_ncall rfl rfl rfl rfl rfl (by kernel_rfl) (fun w hm _ => r7_scan h br Ar cr R A c vs v w (RpAt.of hm 1 rfl rfl rfl rfl) hR (hS _ w hm) hl hn) ?_)
  rintro _ _ ⟨ys, hy, A2, c2, rfl, rfl⟩
  have hyl : ys.length ≤ 10000 := by rw [hy.2.2]; exact Nat.le_trans (seenL_len _ _ _) hn
  refine VC_sound tabOk 100 ?_
  refine Go_loop (σ := Nat × List VerM) (fun u => [(0, .v (.pointer (some ⟨h, 0, none⟩))), (3, .v (.pointer (some ⟨b3, 0, none⟩))), (7, .v (.slice A2 ys.length c2)), (8, .v (.int .i64 u.1))]) (fun u => own encR 2 55 A2 c2 ys :: .blk b3 50 v.cs :: hqX h br Ar cr R A c u.2) (fun u => u.1 ≤ ys.length ∧ TruI (rState R) v vs u.2 ((ys.drop u.1).map RowM.key)) (fun u => ys.length - u.1) (0, vs) ⟨Nat.zero_le _, TruI.start hy hall⟩ ⟨rfl, rfl, rfl, rfl, trivial⟩ (fun _ h => h) ?_
  rintro ⟨i, vs'⟩ ⟨hi, hI⟩
  dsimp only at hi hI ⊢
  by_cases hlt : i < ys.length
  · refine Go_with _ (fun w hm _ => hm.own_some (i := 0) rfl (ne_nil_of_lt hlt)) ?_
    rintro ⟨b2', o2, rfl⟩
    obtain ⟨y, hgy⟩ : ∃ y, ys[i]? = some y := ⟨_, List.getElem?_eq_getElem hlt⟩
    have hdr : ys.drop i = y :: ys.drop (i + 1) := by
      obtain ⟨_, rfl⟩ := List.getElem?_eq_some_iff.1 hgy
      exact List.drop_eq_getElem_cons hlt
    rw [hdr, List.map_cons] at hI
    have hvl := hI.len
    refine VC_sound tabOk 100 ?_
    refine ⟨fun _ => ?_, fun h => by first | (simp at h; done) | (simp at h; omega) | (simp_all; done)⟩
    show Go _ _ _ _
    refine Go_any mixed [7] [(0, false), (2, false), (3, false), (4, false), (5, false), (1, false), (6, false), (7, true)] rfl (by kernel_rfl) (by kernel_rfl) [.blk b3 50 v.cs] (fun w => RdW w (some ⟨b2', o2, none⟩) (ys.flatMap encR)) (fun w w' hk h => h.old hk) (fun w hm _ => ⟨Holds.of_idx [1] hm, by exact Mod.own_rd (k := 2) (T := 55) (c := c2) (i := 0) hm rfl⟩) ?_
    refine VC_sound tabOk 100 ?_
    refine ⟨⟨by omega, by omega⟩, ?_⟩
    (repeat (first | refine Or.inl ⟨rfl, rfl, ?_⟩ | refine Or.inl ⟨rfl, ?_⟩ | refine Or.inr ?_))
    refine Go_first (v := .int .i64 y.key) rfl rfl rfl rfl (fun w _ hw => rxLoadPart tabOk rfl encR_is hw hgy (off := 0) rfl (by first | (simp only [addA]; rfl) | rfl)) ?_
    refine VC_sound tabOk 100 ?_
    refine Go_aloneM rfl rfl rfl (OpTo_mcall (hqX h br Ar cr R A c vs') [own encR 2 55 (some ⟨b2', o2, none⟩) c2 ys, .blk b3 50 v.cs] (List.perm_append_comm (l₁ := [_, _])) rfl rfl rfl rfl rfl (by kernel_rfl) (fun w hb hm hio hsp k => r7_delete h br Ar cr R A c vs' v y.key hR (by omega) hl w _ k (RdF.of_split hsp fun Rs w h => hS _ w h)) ?_)
    rintro _ _ ⟨e, vs2, hq, rfl, rfl⟩
    rcases hq with ⟨hx, _⟩ | ⟨_, hall2, _⟩ | ⟨_, k, x, hx, hf, _, ⟨hoth, _⟩ | ⟨_, rfl, rfl⟩⟩
    · exact absurd ho hx
    · exact absurd hall2 hI.some
    · have hsx : x.key = y.key ∧ seesP (rState R) v x = true := by simpa [findP] using hf
      have := hI.no x (List.mem_of_getElem? hx) hsx.2
      rw [hoth] at this; cases this
    refine VC_sound tabOk 100 ?_
    refine ⟨_, wrap_i64 (n := (i : Int) + 1) (by omega) (by omega), ?_⟩
    exact Go_fin (i + 1, vs'.set k ⟨x.key, x.text, x.born, v.own⟩) ⟨by dsimp only; omega, hI.step hop hx hf⟩ (by dsimp only; omega) ⟨rfl, rfl, rfl, rfl, trivial⟩ (fun _ h => h.sel [4, 5, 0, 1, 2, 3] rfl)
  have he : i = ys.length := by omega
  subst he
  rw [List.drop_length, List.map_nil] at hI
  have hd := hI.done
  subst hd
  refine VC_sound tabOk 100 ?_
  refine ⟨fun h => by first | (simp at h; done) | (simp at h; omega) | (simp_all; done), fun _ => ?_⟩
  exact ⟨_, ⟨0, ys, A2, c2, _, .inr (.inr ⟨ho, hall, rfl, hy, rfl⟩), rfl, rfl⟩, fun _ _ h => h.sel [0, 2, 3, 4, 5] rfl⟩
end Go.Proofs.YtbhlkninmbafcaaGreat
