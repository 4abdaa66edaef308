/- What Run of package rel does. -/
import Derived.Test.YtbhlkninmbafcaaGreatRelH
set_option maxRecDepth 100000
set_option autoImplicit false
set_option linter.unusedVariables false
set_option linter.unusedSimpArgs false
namespace Go.Proofs.YtbhlkninmbafcaaGreat
open Go.RX Go Go.RowKit


/-- The store's own memory may be read whatever is done besides. -/
def RelF (hfs : List PH) (br : Nat) (Ap : Option Addr) (cp : Nat) (ps : List (Option Addr)) : Prop := ∀ Rs w, Mod hfs Rs w → w.heap[br]? = some (.cells #[.slice Ap ps.length cp] 78 (0, 0)) ∧ RdW w Ap (ps.flatMap encP)
theorem RelF.of_split {hb hfs : List PH} {Rr : List Res} (hsp : ∀ a' w', Mod (hb ++ hfs) a' w' → Mod hfs (a' ++ Rr) w') {br : Nat} {Ap : Option Addr} {cp : Nat} {ps : List (Option Addr)} (h : ∀ Rs w, Mod hfs (Rs ++ Rr) w → w.heap[br]? = some (.cells #[.slice Ap ps.length cp] 78 (0, 0)) ∧ RdW w Ap (ps.flatMap encP)) : RelF (hb ++ hfs) br Ap cp ps :=
  fun Rs w hm => h Rs w (hsp Rs w hm)
/-- What Truncate comes to: the error, the rows, the versions. -/
def truR (st : Int → Int) (v : VwM) (vs : List VerM) : Int → List RowM → List VerM → Prop := fun e ys vs' =>
  (st v.own ≠ 1 ∧ e = 7 ∧ ys = [] ∧ vs' = vs) ∨ (st v.own = 1 ∧ vs.any (truP st v) = true ∧ e = 6 ∧ ys = [] ∧ vs' = vs) ∨ (st v.own = 1 ∧ vs.any (truP st v) = false ∧ e = 0 ∧ SrtS (seenL st v vs) ys ∧ vs' = vs.map (endV st v))
/-- What a statement comes to: the error, the rows, the versions. -/
def runR (st : Int → Int) (v : VwM) (vs : List VerM) (k : Int) (r : RowM) : Int → List RowM → List VerM → Prop := fun e ys vs' =>
  (k = 1 ∧ e = insE st v vs r.key ∧ ys = [] ∧ vs' = insVs st v vs r) ∨ (k = 2 ∧ ys = [] ∧ updR st v vs r e vs') ∨ (k = 3 ∧ ys = [] ∧ killR st v vs r.key e vs') ∨ (k = 4 ∧ truR st v vs e ys vs') ∨
  (k = 5 ∧ vs' = vs ∧ ((vs.find? (findP st v r.key) = none ∧ e = 4 ∧ ys = []) ∨ ∃ x, vs.find? (findP st v r.key) = some x ∧ e = 0 ∧ ys = [rowOf x])) ∨ (k = 6 ∧ vs' = vs ∧ e = 0 ∧ SrtS (seenL st v vs) ys)
set_option maxHeartbeats 8000000 in
theorem rel_run (br : Nat) (Ap : Option Addr) (cp : Nat) (ps : List (Option Addr)) (h m b1 b2 : Nat) (s : TxS) (A : Option Addr) (c : Nat) (vs : List VerM) (v : VwM) (k t : Int) (r : RowM) (hn : vs.length ≤ 9999) (hl : v.op.length ≤ 1000000)
    (hright : rightP k ps t r.text.size = true) (hh : heapAt ps t = some ⟨h, 0, none⟩) (w0 : World) (hfs : List PH) (hm : Mod hfs (hpX h m b1 b2 s A c vs) w0) (hS : RdF hfs v.S (v.op.flatMap (encI .i64))) (hF : RelF hfs br Ap cp ps) :
    Calls Tryz.prog 15 #[.pointer (some ⟨br, 0, none⟩), v.v, mkSt k t r] w0 fun e w' => ∃ u Rs', e = .returned u ∧ (∃ e ys A2 c2 vs' A' c', runR (stE s) v vs k r e ys vs' ∧ u = .tuple #[.slice A2 ys.length c2, .int .i64 e] ∧ Rs' = own encR 2 55 A2 c2 ys :: hpX h m b1 b2 s A' c' vs') ∧ Mod hfs Rs' w' ∧ Oth w0 w' := by
  have hk : 1 ≤ k ∧ k ≤ 6 := by
    simp only [rightP, Bool.and_eq_true, decide_eq_true_eq] at hright
    exact ⟨hright.1, hright.2.1⟩
  refine enterN (tab := tab) Tryz.func15 rfl Tryz.ntmps15 rfl (args := [_, _, _]) rfl hm ?_
  refine VC_sound tabOk 100 ?_
  intro b4 _ b5 _
  (repeat (first | refine Or.inl ⟨rfl, rfl, ?_⟩ | refine Or.inl ⟨rfl, ?_⟩ | refine Or.inr ?_))
  refine Go_ops rfl (OpTo_pcall (v := .bool true) rfl rfl rfl rfl rfl (by kernel_rfl) (fun w hm _ => by have := rel_right br Ap cp ps k t r w (hF _ w hm).1 (hF _ w hm).2; rw [hright] at this; exact this) ?_)
  refine VC_sound tabOk 100 ?_
  refine ⟨fun h => by first | (simp at h; done) | (simp at h; omega) | (simp_all; done), fun _ => ?_⟩
  (repeat (first | refine Or.inl ⟨rfl, rfl, ?_⟩ | refine Or.inl ⟨rfl, ?_⟩ | refine Or.inr ?_))
  refine Go_ops rfl (OpTo_pcall (v := .pointer (some ⟨h, 0, none⟩)) rfl rfl rfl rfl rfl (by kernel_rfl) (fun w hm _ => by have := rel_heap br Ap cp ps t w (hF _ w hm).1 (hF _ w hm).2; rw [hh] at this; exact this) ?_)
  refine VC_sound tabOk 100 ?_
  (repeat (first | refine Or.inl ⟨rfl, rfl, ?_⟩ | refine Or.inl ⟨rfl, ?_⟩ | refine Or.inr ?_))
  refine ⟨fun h1 => ?_, fun h1 => ?_⟩
  · have hk1 : k = 1 := by simpa using h1
    (repeat (first | refine Or.inl ⟨rfl, rfl, ?_⟩ | refine Or.inl ⟨rfl, ?_⟩ | refine Or.inr ?_))
    refine Go_sel [2, 3, 4, 5, 6, 0, 1] rfl ?_
    show Go _ _ _ _
    show Go _ _ _ _
    refine Go_ops rfl (OpTo_mcall (hpX h m b1 b2 s A c vs) [.blk b5 58 [.int .u8 k, .int .i64 t, .int .i64 r.key, .string r.text], .blk b4 51 v.cs] (List.Perm.of_eq rfl) rfl rfl rfl rfl rfl (by kernel_rfl) (fun w hb hm hio hsp k => hp_insert h m b1 b2 s A c vs v r (by omega) hl w _ k (RdF.of_split hsp fun Rs w h => hS _ w h)) ?_)
    rintro _ _ ⟨rfl, A2, c2, rfl⟩
    refine VC_sound tabOk 100 ?_
    exact ⟨_, ⟨_, [], none, 0, _, A2, c2, .inl ⟨hk1, rfl, rfl, rfl⟩, rfl, rfl⟩, fun _ _ h => (h.own_nil (enc := encR) (k := 2) (T := 55) none).sel [0, 1, 2, 3, 4, 5] rfl⟩
  refine ⟨fun h2 => ?_, fun h2 => ?_⟩
  · have hk2 : k = 2 := by simpa using h2
    (repeat (first | refine Or.inl ⟨rfl, rfl, ?_⟩ | refine Or.inl ⟨rfl, ?_⟩ | refine Or.inr ?_))
    refine Go_sel [2, 3, 4, 5, 6, 0, 1] rfl ?_
    show Go _ _ _ _
    show Go _ _ _ _
    refine Go_ops rfl (OpTo_mcall (hpX h m b1 b2 s A c vs) [.blk b5 58 [.int .u8 k, .int .i64 t, .int .i64 r.key, .string r.text], .blk b4 51 v.cs] (List.Perm.of_eq rfl) rfl rfl rfl rfl rfl (by kernel_rfl) (fun w hb hm hio hsp k => hp_update h m b1 b2 s A c vs v r (by omega) hl w _ k (RdF.of_split hsp fun Rs w h => hS _ w h)) ?_)
    rintro _ _ ⟨e, vs', A2, c2, hq, rfl, rfl⟩
    refine VC_sound tabOk 100 ?_
    exact ⟨_, ⟨e, [], none, 0, _, A2, c2, .inr (.inl ⟨hk2, rfl, hq⟩), rfl, rfl⟩, fun _ _ h => (h.own_nil (enc := encR) (k := 2) (T := 55) none).sel [0, 1, 2, 3, 4, 5] rfl⟩
  refine ⟨fun h3 => ?_, fun h3 => ?_⟩
  · have hk3 : k = 3 := by simpa using h3
    (repeat (first | refine Or.inl ⟨rfl, rfl, ?_⟩ | refine Or.inl ⟨rfl, ?_⟩ | refine Or.inr ?_))
    refine Go_sel [2, 3, 4, 5, 6, 0, 1] rfl ?_
    show Go _ _ _ _
    show Go _ _ _ _
    refine Go_ops rfl (OpTo_mcall (hpX h m b1 b2 s A c vs) [.blk b5 58 [.int .u8 k, .int .i64 t, .int .i64 r.key, .string r.text], .blk b4 51 v.cs] (List.Perm.of_eq rfl) rfl rfl rfl rfl rfl (by kernel_rfl) (fun w hb hm hio hsp k => hp_delete h m b1 b2 s A c vs v r.key (by omega) hl w _ k (RdF.of_split hsp fun Rs w h => hS _ w h)) ?_)
    rintro _ _ ⟨e, vs', hq, rfl, rfl⟩
    refine VC_sound tabOk 100 ?_
    exact ⟨_, ⟨e, [], none, 0, _, A, c, .inr (.inr (.inl ⟨hk3, rfl, hq⟩)), rfl, rfl⟩, fun _ _ h => (h.own_nil (enc := encR) (k := 2) (T := 55) none).sel [0, 1, 2, 3, 4, 5] rfl⟩
  refine ⟨fun h4 => ?_, fun h4 => ?_⟩
  · have hk4 : k = 4 := by simpa using h4
    (repeat (first | refine Or.inl ⟨rfl, rfl, ?_⟩ | refine Or.inl ⟨rfl, ?_⟩ | refine Or.inr ?_))
    refine Go_sel [2, 3, 4, 5, 6, 0, 1] rfl ?_
    show Go _ _ _ _
    show Go _ _ _ _
    refine Go_ops rfl (OpTo_mcall (hpX h m b1 b2 s A c vs) [.blk b5 58 [.int .u8 k, .int .i64 t, .int .i64 r.key, .string r.text], .blk b4 51 v.cs] (List.Perm.of_eq rfl) rfl rfl rfl rfl rfl (by kernel_rfl) (fun w hb hm hio hsp k => hp_truncate h m b1 b2 s A c vs v (by omega) hl w _ k (RdF.of_split hsp fun Rs w h => hS _ w h)) ?_)
    rintro _ _ (⟨ha, rfl, rfl⟩ | ⟨ha, hb, rfl, rfl⟩ | ⟨ha, hb, ys, A2, c2, hy, rfl, rfl⟩)
    · refine VC_sound tabOk 100 ?_
      exact ⟨_, ⟨7, [], none, 0, _, A, c, .inr (.inr (.inr (.inl ⟨hk4, .inl ⟨ha, rfl, rfl, rfl⟩⟩))), rfl, rfl⟩, fun _ _ h => (h.own_nil (enc := encR) (k := 2) (T := 55) none).sel [0, 1, 2, 3, 4, 5] rfl⟩
    · refine VC_sound tabOk 100 ?_
      exact ⟨_, ⟨6, [], none, 0, _, A, c, .inr (.inr (.inr (.inl ⟨hk4, .inr (.inl ⟨ha, hb, rfl, rfl, rfl⟩)⟩))), rfl, rfl⟩, fun _ _ h => (h.own_nil (enc := encR) (k := 2) (T := 55) none).sel [0, 1, 2, 3, 4, 5] rfl⟩
    · refine VC_sound tabOk 100 ?_
      exact ⟨_, ⟨0, ys, A2, c2, _, A, c, .inr (.inr (.inr (.inl ⟨hk4, .inr (.inr ⟨ha, hb, rfl, hy, rfl⟩)⟩))), rfl, rfl⟩, fun _ _ h => h.sel [0, 1, 2, 3, 4, 5] rfl⟩
  refine ⟨fun h5 => ?_, fun h5 => ?_⟩
  · have hk5 : k = 5 := by simpa using h5
    (repeat (first | refine Or.inl ⟨rfl, rfl, ?_⟩ | refine Or.inl ⟨rfl, ?_⟩ | refine Or.inr ?_))
    refine Go_ops rfl (OpTo_pcall (v := getV (stE s) v vs r.key) rfl rfl rfl rfl rfl (by kernel_rfl) (fun w hm _ => hp_get h m b1 b2 s A c vs v r.key w (HpAt.of hm 2 rfl rfl rfl rfl rfl) (hS _ w hm) hl (by omega)) ?_)
    cases hg : vs.find? (findP (stE s) v r.key) with
    | none =>
      simp only [getV, hg]
      refine VC_sound tabOk 100 ?_
      intro b9 _
      (repeat (first | refine Or.inl ⟨rfl, rfl, ?_⟩ | refine Or.inl ⟨rfl, ?_⟩ | refine Or.inr ?_))
      refine ⟨fun _ => ?_, fun h => by first | (simp at h; done) | (simp at h; omega) | (simp_all; done)⟩
      exact ⟨_, ⟨4, [], none, 0, _, A, c, .inr (.inr (.inr (.inr (.inl ⟨hk5, rfl, .inl ⟨hg, rfl, rfl⟩⟩)))), rfl, rfl⟩, fun _ _ h => (h.own_nil (enc := encR) (k := 2) (T := 55) none).sel [0, 4, 5, 6, 7, 8] rfl⟩
    | some x =>
      simp only [getV, hg]
      refine VC_sound tabOk 100 ?_
      intro b9 _
      (repeat (first | refine Or.inl ⟨rfl, rfl, ?_⟩ | refine Or.inl ⟨rfl, ?_⟩ | refine Or.inr ?_))
      refine ⟨fun h => by first | (simp at h; done) | (simp at h; omega) | (simp_all; done), fun _ => ?_⟩
      (repeat (first | refine Or.inl ⟨rfl, rfl, ?_⟩ | refine Or.inl ⟨rfl, ?_⟩ | refine Or.inr ?_))
      intro b68 _
      exact ⟨_, ⟨0, [rowOf x], some ⟨b68, 0, none⟩, 1, _, A, c, .inr (.inr (.inr (.inr (.inl ⟨hk5, rfl, .inr ⟨x, hg, rfl, rfl⟩⟩)))), rfl, rfl⟩, fun _ _ h => ((h.own_blk (enc := encR) (k := 2) (i := 0) (xs := [rowOf x]) rfl rfl (by simp)).sel [0, 4, 5, 6, 7, 8] rfl)⟩
  have hk6 : k = 6 := by simp at h1 h2 h3 h4 h5; omega
  (repeat (first | refine Or.inl ⟨rfl, rfl, ?_⟩ | refine Or.inl ⟨rfl, ?_⟩ | refine Or.inr ?_))
  show Go _ _ _ _
  refine Go_ops rfl (OpTo_ncall rfl rfl rfl rfl rfl (by kernel_rfl) (fun w hm _ => hp_scan h m b1 b2 s A c vs v w (HpAt.of hm 2 rfl rfl rfl rfl rfl) (hS _ w hm) hl (by omega)) ?_)
  rintro _ _ ⟨ys, hy, A2, c2, rfl, rfl⟩
  refine VC_sound tabOk 100 ?_
  exact ⟨_, ⟨0, ys, A2, c2, _, A, c, .inr (.inr (.inr (.inr (.inr ⟨hk6, rfl, rfl, hy⟩)))), rfl, rfl⟩, fun _ _ h => h.sel [0, 3, 4, 5, 6, 7] rfl⟩

/-- A statement that may not be. -/
theorem rel_run_wrong (br : Nat) (Ap : Option Addr) (cp : Nat) (ps : List (Option Addr)) (v : VwM) (k t : Int) (r : RowM) (hright : rightP k ps t r.text.size = false) (w0 : World) (hb : w0.heap[br]? = some (.cells #[.slice Ap ps.length cp] 78 (0, 0))) (hA : RdW w0 Ap (ps.flatMap encP)) :
    Calls Tryz.prog 15 #[.pointer (some ⟨br, 0, none⟩), v.v, mkSt k t r] w0 fun e w' => e = .returned (.tuple #[.slice none 0 0, .int .i64 1]) ∧ BelowD w0.heap.size w0 w' := by
  refine enterP (tab := tab) Tryz.func15 rfl Tryz.ntmps15 rfl (args := [_, _, _]) rfl ?_
  refine VC_sound tabOk 100 ?_
  intro b4 _ b5 _
  (repeat (first | refine Or.inl ⟨rfl, rfl, ?_⟩ | refine Or.inl ⟨rfl, ?_⟩ | refine Or.inr ?_))
  refine Go_ops rfl (OpTo_pcall (v := .bool false) rfl rfl rfl rfl rfl (by kernel_rfl) (fun w hm _ => by have := rel_right br Ap cp ps k t r w (hm.block_old hb) (hA.mod hm); rw [hright] at this; exact this) ?_)
  refine VC_sound tabOk 100 ?_
  refine ⟨fun _ => ?_, fun h => by first | (simp at h; done) | (simp at h; omega) | (simp_all; done)⟩
  rfl
end Go.Proofs.YtbhlkninmbafcaaGreat
