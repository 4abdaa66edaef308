/- What the reference of layer 7 does that changes nothing: a heap is the same versions. -/
import Derived.Test.YtbhlkninmbafcaaGreatHeapQ
import Derived.Test.YtbhlkninmbafcaaGreatR06
set_option maxRecDepth 100000
set_option autoImplicit false
set_option linter.unusedVariables false
set_option linter.unusedSimpArgs false
namespace Go.Proofs.YtbhlkninmbafcaaGreat
open Go.RX Go Go.RowKit


/-- A heap of the reference that may be read. -/
structure RpAt (w : World) (h br : Nat) (Ar : Option Addr) (cr : Nat) (R : List Int) (A : Option Addr) (c : Nat) (vs : List VerM) : Prop where
  blk : w.heap[h]? = some (.cells (hpV br A vs.length c).toArray 84 (0, 0))
  mgr : w.heap[br]? = some (.cells #[.slice Ar R.length cr] 30 (0, 0))
  mr : RdW w Ar (R.flatMap encU)
  rd : RdW w A (vs.flatMap encV)
theorem RpAt.old {w w' : World} {h br : Nat} {Ar : Option Addr} {cr : Nat} {R : List Int} {A : Option Addr} {c : Nat} {vs : List VerM} (hp : RpAt w h br Ar cr R A c vs) (hk : ∀ n, n < w.heap.size → w'.heap[n]? = w.heap[n]?) : RpAt w' h br Ar cr R A c vs :=
  ⟨by rw [hk h (Array.getElem?_eq_some_iff.1 hp.blk).1]; exact hp.blk, by rw [hk br (Array.getElem?_eq_some_iff.1 hp.mgr).1]; exact hp.mgr, hp.mr.old hk, hp.rd.old hk⟩
theorem RpAt.mod {w0 w : World} {h br : Nat} {Ar : Option Addr} {cr : Nat} {R : List Int} {A : Option Addr} {c : Nat} {vs : List VerM} (hp : RpAt w0 h br Ar cr R A c vs) {Rs : List Res} (hm : Mod [heapOf w0] Rs w) : RpAt w h br Ar cr R A c vs := hp.old fun n hn => hm.old n hn

section
variable (h br : Nat) (Ar : Option Addr) (cr : Nat) (R : List Int) (A : Option Addr) (c : Nat) (vs : List VerM) (v : VwM) (w0 : World) (hp : RpAt w0 h br Ar cr R A c vs) (hR : R.length ≤ 2000000)
include hp hR
set_option maxHeartbeats 1000000 in
theorem r7_did (x : Int) (hS : RdI w0 v.S v.op) (hl : v.op.length ≤ 1000000) :
    Calls Tryz.prog 78 #[.pointer (some ⟨h, 0, none⟩), v.v, .int .i64 x] w0 fun e w' => e = .returned (.bool (didP (rState R) v x)) ∧ BelowD w0.heap.size w0 w' := by
  refine enterP (tab := tab) Tryz.func78 rfl Tryz.ntmps78 rfl (args := [_, _, _]) rfl ?_
  refine VC_sound tabOk 100 ?_
  intro b4 _
  refine ⟨fun h1 => ?_, fun h1 => ?_⟩
  · have hx : ¬ 0 < x := by simp at h1; omega
    exact congrArg Value.bool (by simp [didP, hx])
  have hx : 0 < x := by simp at h1; omega
  (repeat (first | refine Or.inl ⟨rfl, rfl, ?_⟩ | refine Or.inl ⟨rfl, ?_⟩ | refine Or.inr ?_))
  refine ⟨fun h2 => ?_, fun h2 => ?_⟩
  · exact congrArg Value.bool (by simp only [didP, h2, hx, decide_true, Bool.true_and, Bool.true_or])
  (repeat (first | refine Or.inl ⟨rfl, rfl, ?_⟩ | refine Or.inl ⟨rfl, ?_⟩ | refine Or.inr ?_))
  refine Go_ops rfl (OpTo_loadBlk tabOk (cs := hpV br A vs.length c) (.pointer (some ⟨br, 0, none⟩)) rfl rfl rfl (fun w hm _ => hm.block_old hp.blk) rfl ?_)
  refine VC_sound tabOk 100 ?_
  refine Go_ops rfl (OpTo_pcall (v := .int .u8 (rState R x)) rfl rfl rfl rfl rfl (by kernel_rfl) (fun w hm _ => r06_state br Ar cr R x w (hp.mod hm).mgr (hp.mod hm).mr hR) ?_)
  refine VC_sound tabOk 100 ?_
  refine ⟨fun h3 => ?_, fun h3 => ?_⟩
  · (repeat (first | refine Or.inl ⟨rfl, rfl, ?_⟩ | refine Or.inl ⟨rfl, ?_⟩ | refine Or.inr ?_))
    refine Go_ops rfl (OpTo_pcall (v := .bool (snSees v.mx v.op x)) rfl rfl rfl rfl rfl (by kernel_rfl) (fun w hm _ => r05_sees v.mx v.S v.d v.op x w (hS.mod hm) (by omega)) ?_)
    refine VC_sound tabOk 100 ?_
    exact congrArg Value.bool (by simp only [didP, h2, h3, hx, decide_true, Bool.true_and, Bool.false_or])
  · exact congrArg Value.bool (by simp only [didP, h2, h3, hx, decide_true, Bool.true_and, Bool.false_and, Bool.or_self])

set_option maxHeartbeats 1000000 in
theorem r7_sees (i : Nat) (x : VerM) (hgx : vs[i]? = some x) (hn : vs.length ≤ 1000000) (hS : RdI w0 v.S v.op) (hl : v.op.length ≤ 1000000) :
    Calls Tryz.prog 63 #[.pointer (some ⟨h, 0, none⟩), v.v, .int .i64 i] w0 fun e w' => e = .returned (.bool (seesP (rState R) v x)) ∧ BelowD w0.heap.size w0 w' := by
  have hi := (List.getElem?_eq_some_iff.1 hgx).1
  have hrd := hp.rd
  obtain ⟨ba, oa, rfl⟩ := RdW.some encV_is hrd (ne_nil_of_lt hi)
  refine enterP (tab := tab) Tryz.func63 rfl Tryz.ntmps63 rfl (args := [_, _, _]) rfl ?_
  refine VC_sound tabOk 100 ?_
  intro b4 _
  show Go _ _ _ _
  refine Go_any mixed [] [(0, false), (2, false), (3, false), (4, false), (6, false), (1, false), (5, false), (7, false), (8, false), (9, false), (10, true), (11, false), (12, false), (14, false), (15, false), (16, false), (18, false), (13, false), (17, false), (19, false), (20, false), (21, false), (22, true), (23, false), (24, false), (25, false)] rfl (by kernel_rfl) (by kernel_rfl) [.blk b4 50 v.cs] (FrmX [heapOf w0]) (FrmX.stable _) (fun w hm _ => ⟨Holds.of_idx [0] hm, FrmX.of_mod hm⟩) ?_
  refine VC_sound tabOk 100 ?_
  (repeat (first | refine Or.inl ⟨rfl, rfl, ?_⟩ | refine Or.inl ⟨rfl, ?_⟩ | refine Or.inr ?_))
  refine Go_first (v := .slice (some ⟨ba, oa, none⟩) vs.length c) rfl rfl rfl rfl (fun w _ hw => run_loadVar_at tabOk rfl (hw (heapOf w0) (by simp) _ _ hp.blk) rfl) ?_
  refine VC_sound tabOk 100 ?_
  refine ⟨⟨by omega, by omega⟩, ?_⟩
  (repeat (first | refine Or.inl ⟨rfl, rfl, ?_⟩ | refine Or.inl ⟨rfl, ?_⟩ | refine Or.inr ?_))
  refine Go_first (v := .int .i64 x.born) rfl rfl rfl rfl (fun w _ hw => rxLoadPart tabOk rfl encV_is (hrd.heap.world (hw (heapOf w0) (by simp))) hgx (off := 2) rfl (by first | (simp only [addA]; rfl) | rfl)) ?_
  refine VC_sound tabOk 100 ?_
  refine Go_aloneL rfl rfl (OpTo_pcall (v := .bool (didP (rState R) v x.born)) rfl rfl rfl rfl rfl (by kernel_rfl) (fun w hm _ => r7_did h br Ar cr R _ c vs v w (hp.mod hm) hR x.born (hS.mod hm) hl) ?_)
  refine And.intro (fun w hm _ => ⟨Holds.of_idx [0] hm, FrmX.of_mod hm⟩) ?_
  refine VC_sound tabOk 100 ?_
  refine ⟨fun h1 => ?_, fun h1 => ?_⟩
  rotate_left
  · exact congrArg Value.bool (by simp only [seesP, h1, Bool.false_and])
  (repeat (first | refine Or.inl ⟨rfl, rfl, ?_⟩ | refine Or.inl ⟨rfl, ?_⟩ | refine Or.inr ?_))
  refine Go_first (v := .slice (some ⟨ba, oa, none⟩) vs.length c) rfl rfl rfl rfl (fun w _ hw => run_loadVar_at tabOk rfl (hw (heapOf w0) (by simp) _ _ hp.blk) rfl) ?_
  refine VC_sound tabOk 100 ?_
  refine ⟨⟨by omega, by omega⟩, ?_⟩
  (repeat (first | refine Or.inl ⟨rfl, rfl, ?_⟩ | refine Or.inl ⟨rfl, ?_⟩ | refine Or.inr ?_))
  refine Go_first (v := .int .i64 x.died) rfl rfl rfl rfl (fun w _ hw => rxLoadPart tabOk rfl encV_is (hrd.heap.world (hw (heapOf w0) (by simp))) hgx (off := 3) rfl (by first | (simp only [addA]; rfl) | rfl)) ?_
  refine VC_sound tabOk 100 ?_
  refine Go_aloneL rfl rfl (OpTo_pcall (v := .bool (didP (rState R) v x.died)) rfl rfl rfl rfl rfl (by kernel_rfl) (fun w hm _ => r7_did h br Ar cr R _ c vs v w (hp.mod hm) hR x.died (hS.mod hm) hl) ?_)
  refine And.intro (fun w hm _ => ⟨Holds.of_idx [0] hm, FrmX.of_mod hm⟩) ?_
  refine VC_sound tabOk 100 ?_
  exact congrArg Value.bool (by simp only [seesP, h1, Bool.true_and])

set_option maxHeartbeats 1000000 in
theorem r7_find (key : Int) (hn : vs.length ≤ 1000000) (hS : RdI w0 v.S v.op) (hl : v.op.length ≤ 1000000) :
    Calls Tryz.prog 61 #[.pointer (some ⟨h, 0, none⟩), v.v, .int .i64 key] w0 fun e w' => e = .returned (.int .i64 (idxF (findP (rState R) v key) vs)) ∧ BelowD w0.heap.size w0 w' := by
  refine enterP (tab := tab) Tryz.func61 rfl Tryz.ntmps61 rfl (args := [_, _, _]) rfl ?_
  refine VC_sound tabOk 100 ?_
  intro b4 _
  refine Go_loop (σ := Nat) (fun i => [(0, .v (.pointer (some ⟨h, 0, none⟩))), (2, .v (.int .i64 key)), (4, .v (.pointer (some ⟨b4, 0, none⟩))), (7, .v (.int .i64 i))]) (fun _ => [.blk b4 50 v.cs]) (fun i => i ≤ vs.length ∧ ∀ j (hj : j < vs.length), j < i → findP (rState R) v key vs[j] = false) (fun i => vs.length - i) 0 ⟨Nat.zero_le _, fun j _ h => by omega⟩ ⟨rfl, rfl, rfl, rfl, trivial⟩ (fun _ h => h) ?_
  rintro i ⟨hi, hall⟩
  dsimp only at hi hall ⊢
  have hrd := hp.rd
  refine VC_sound tabOk 100 ?_
  (repeat (first | refine Or.inl ⟨rfl, rfl, ?_⟩ | refine Or.inl ⟨rfl, ?_⟩ | refine Or.inr ?_))
  refine Go_ops rfl (OpTo_loadBlk tabOk (cs := hpV br A vs.length c) (.slice A vs.length c) rfl rfl rfl (fun w hm _ => hm.block_old hp.blk) rfl ?_)
  refine VC_sound tabOk 100 ?_
  by_cases hlt : i < vs.length
  · obtain ⟨ba, oa, rfl⟩ := RdW.some encV_is hrd (ne_nil_of_lt hlt)
    have hgx : vs[i]? = some vs[i] := List.getElem?_eq_getElem hlt
    obtain ⟨x, hx⟩ : ∃ x, x = vs[i] := ⟨_, rfl⟩
    rw [← hx] at hgx
    have hstep : findP (rState R) v key x = false → ∀ j (hj : j < vs.length), j < i + 1 → findP (rState R) v key vs[j] = false := fun hf j hj hji => by
      by_cases hh : j = i
      · subst hh; rw [← hx]; exact hf
      · exact hall j hj (by omega)
    refine ⟨fun _ => ?_, fun h => by first | (simp at h; done) | (simp at h; omega) | (simp_all; done)⟩
    (repeat (first | refine Or.inl ⟨rfl, rfl, ?_⟩ | refine Or.inl ⟨rfl, ?_⟩ | refine Or.inr ?_))
    refine Go_ops rfl (OpTo_loadBlk tabOk (cs := hpV br (some ⟨ba, oa, none⟩) vs.length c) (.slice (some ⟨ba, oa, none⟩) vs.length c) rfl rfl rfl (fun w hm _ => hm.block_old hp.blk) rfl ?_)
    refine VC_sound tabOk 100 ?_
    refine ⟨⟨by omega, by omega⟩, ?_⟩
    (repeat (first | refine Or.inl ⟨rfl, rfl, ?_⟩ | refine Or.inl ⟨rfl, ?_⟩ | refine Or.inr ?_))
    refine Go_ops rfl (OpTo_loadPart tabOk encV_is (n := i) (j := 0) (.int .i64 x.key) rfl rfl rfl (fun w hm _ => hrd.mod hm) hgx rfl (by simp only [addA]; rfl) ?_)
    refine VC_sound tabOk 100 ?_
    refine ⟨fun h1 => ?_, fun h1 => ?_⟩
    · (repeat (first | refine Or.inl ⟨rfl, rfl, ?_⟩ | refine Or.inl ⟨rfl, ?_⟩ | refine Or.inr ?_))
      refine Go_ops rfl (OpTo_pcall (v := .bool (seesP (rState R) v x)) rfl rfl rfl rfl rfl (by kernel_rfl) (fun w hm _ => r7_sees h br Ar cr R _ c vs v w (hp.mod hm) hR i x hgx hn (hS.mod hm) hl) ?_)
      refine VC_sound tabOk 100 ?_
      refine ⟨fun h2 => ?_, fun h2 => ?_⟩
      · have hf : findP (rState R) v key vs[i] = true := by rw [← hx, findP, h1, h2]; rfl
        exact congrArg (Value.int .i64) (idxF_at _ vs i hlt hf hall).symm
      · refine ⟨_, wrap_i64 (n := (i : Int) + 1) (by omega) (by omega), ?_⟩
        exact Go_fin (i + 1) ⟨by omega, hstep (by rw [findP, h2, Bool.and_false])⟩ (by omega) ⟨rfl, rfl, rfl, rfl, trivial⟩ (fun _ h => h)
    · refine ⟨_, wrap_i64 (n := (i : Int) + 1) (by omega) (by omega), ?_⟩
      exact Go_fin (i + 1) ⟨by omega, hstep (by rw [findP, h1, Bool.false_and])⟩ (by omega) ⟨rfl, rfl, rfl, rfl, trivial⟩ (fun _ h => h)
  refine ⟨fun h => by first | (simp at h; done) | (simp at h; omega) | (simp_all; done), fun _ => ?_⟩
  exact congrArg (Value.int .i64) (idxF_none _ vs fun j hj => hall j hj (by omega)).symm

set_option maxHeartbeats 1000000 in
theorem r7_get (key : Int) (hn : vs.length ≤ 1000000) (hS : RdI w0 v.S v.op) (hl : v.op.length ≤ 1000000) :
    Calls Tryz.prog 41 #[.pointer (some ⟨h, 0, none⟩), v.v, .int .i64 key] w0 fun e w' => e = .returned (getV (rState R) v vs key) ∧ BelowD w0.heap.size w0 w' := by
  refine enterP (tab := tab) Tryz.func41 rfl Tryz.ntmps41 rfl (args := [_, _, _]) rfl ?_
  refine VC_sound tabOk 100 ?_
  intro b4 _ b6 _
  (repeat (first | refine Or.inl ⟨rfl, rfl, ?_⟩ | refine Or.inl ⟨rfl, ?_⟩ | refine Or.inr ?_))
  refine Go_ops rfl (OpTo_pcall (v := .int .i64 (idxF (findP (rState R) v key) vs)) rfl rfl rfl rfl rfl (by kernel_rfl) (fun w hm _ => r7_find h br Ar cr R A c vs v w (hp.mod hm) hR key hn (hS.mod hm) hl) ?_)
  rcases idxF_spec (findP (rState R) v key) vs with ⟨h0, hall⟩ | ⟨i, hi, h0, hpi, hne⟩
  · rw [h0]
    refine VC_sound tabOk 100 ?_
    refine ⟨fun _ => ?_, fun h => by first | (simp at h; done) | (simp at h; omega) | (simp_all; done)⟩
    (repeat (first | refine Or.inl ⟨rfl, rfl, ?_⟩ | refine Or.inl ⟨rfl, ?_⟩ | refine Or.inr ?_))
    have hf := find_none hall
    simp only [getV, hf]
    rfl
  rw [h0]
  have hA := hp.rd
  obtain ⟨ba, oa, rfl⟩ := RdW.some encV_is hA (ne_nil_of_lt hi)
  have hf := find_of hi hpi hne
  have hgx : vs[i]? = some vs[i] := List.getElem?_eq_getElem hi
  refine VC_sound tabOk 100 ?_
  refine ⟨fun h => by first | (simp at h; done) | (simp at h; omega) | (simp_all; done), fun _ => ?_⟩
  (repeat (first | refine Or.inl ⟨rfl, rfl, ?_⟩ | refine Or.inl ⟨rfl, ?_⟩ | refine Or.inr ?_))
  refine Go_ops rfl (OpTo_loadBlk tabOk (cs := hpV br (some ⟨ba, oa, none⟩) vs.length c) (.slice (some ⟨ba, oa, none⟩) vs.length c) rfl rfl rfl (fun w hm _ => hm.block_old hp.blk) rfl ?_)
  refine VC_sound tabOk 100 ?_
  refine ⟨⟨by omega, by omega⟩, ?_⟩
  (repeat (first | refine Or.inl ⟨rfl, rfl, ?_⟩ | refine Or.inl ⟨rfl, ?_⟩ | refine Or.inr ?_))
  refine Go_ops rfl (OpTo_loadPart tabOk encV_is (n := i) (j := 0) (mkR (rowOf vs[i])) rfl rfl rfl (fun w hm _ => hA.mod hm) hgx rfl (by simp only [addA]; rfl) ?_)
  refine VC_sound tabOk 100 ?_
  (repeat (first | refine Or.inl ⟨rfl, rfl, ?_⟩ | refine Or.inl ⟨rfl, ?_⟩ | refine Or.inr ?_))
  simp only [getV, hf]
  rfl

set_option maxHeartbeats 1000000 in
theorem r7_taken (x : Int) :
    Calls Tryz.prog 62 #[.pointer (some ⟨h, 0, none⟩), v.v, .int .i64 x] w0 fun e w' => e = .returned (.bool (othP (rState R) v x)) ∧ BelowD w0.heap.size w0 w' := by
  refine enterP (tab := tab) Tryz.func62 rfl Tryz.ntmps62 rfl (args := [_, _, _]) rfl ?_
  refine VC_sound tabOk 100 ?_
  intro b4 _
  (repeat (first | refine Or.inl ⟨rfl, rfl, ?_⟩ | refine Or.inl ⟨rfl, ?_⟩ | refine Or.inr ?_))
  refine Go_ops rfl (OpTo_loadBlk tabOk (cs := hpV br A vs.length c) (.pointer (some ⟨br, 0, none⟩)) rfl rfl rfl (fun w hm _ => hm.block_old hp.blk) rfl ?_)
  refine VC_sound tabOk 100 ?_
  refine Go_ops rfl (OpTo_pcall (v := .int .u8 (rState R x)) rfl rfl rfl rfl rfl (by kernel_rfl) (fun w hm _ => r06_state br Ar cr R x w (hp.mod hm).mgr (hp.mod hm).mr hR) ?_)
  refine VC_sound tabOk 100 ?_
  refine ⟨fun h1 => ?_, fun h1 => ?_⟩
  · exact congrArg Value.bool (by simp only [othP, h1, Bool.true_or])
  refine ⟨fun h2 => ?_, fun h2 => ?_⟩
  · (repeat (first | refine Or.inl ⟨rfl, rfl, ?_⟩ | refine Or.inl ⟨rfl, ?_⟩ | refine Or.inr ?_))
    exact congrArg Value.bool (by simp only [othP, h1, h2, Bool.false_or, Bool.true_and, decide_not])
  · exact congrArg Value.bool (by simp only [othP, h1, h2, Bool.false_or, Bool.false_and])
end
end Go.Proofs.YtbhlkninmbafcaaGreat
