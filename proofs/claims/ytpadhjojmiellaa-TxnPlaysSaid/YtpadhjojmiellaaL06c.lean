/- The laws TxnLoads, TxnPlays: what each run comes to. -/
import Derived.Test.YtpadhjojmiellaaL06
import Derived.Test.YtpadhjojmiellaaTxnL
import Derived.Test.YtpadhjojmiellaaRxActs
import Derived.KernelRfl
set_option autoImplicit false
set_option linter.unusedVariables false
set_option linter.unusedSimpArgs false
namespace Go.Proofs.Ytpadhjojmiellaa
open Go.RX Go Go.RowKit Go.ChangeShapes Go.WideShapes Go.ChangeAt

structure TxActM where
  d_ : Int
  x : Int
  lA : Option Addr
  lC : Nat
  l : List Int
def encA : TxActM → List Value := fun x => [.int .u8 x.d_, .int .i64 x.x, .slice x.lA x.l.length x.lC]
theorem encA_is : IsEnc encA 3 := ⟨fun _ => rfl, fun x v hv => by simp [encA] at hv; rcases hv with rfl | rfl | rfl <;> rfl, by decide⟩
abbrev mkA (x : TxActM) : Value := .agg #[.int .u8 x.d_, .int .i64 x.x, .slice x.lA x.l.length x.lC]
def okA (w : World) (x : TxActM) : Prop := (Lit.int .u8 x.d_).wf = true ∧ (Lit.int .i64 x.x).wf = true ∧ RdW w x.lA (x.l.flatMap (encI .i64)) ∧ (∀ z ∈ x.l, (Lit.int .i64 z).wf = true) ∧ x.l.length ≤ x.lC ∧ x.lC ≤ maxLen
theorem rd_acts {H : Type} {enc : TypeId × Value → H} {w : World} {base : Nat} {sp : Nat → Bool} {held : Bool} {r : Reach} {b0 : Nat} {v : Value} {d : DataW H} {ps : List MemPlace} (hval : Value.okWide Try.prog w r b0 42 v) (hd : DataW.Trod enc Try.prog w base sp held 42 v d ps) :
    ∃ (A : Option Addr) (c : Nat) (xs : List TxActM), v = .slice A xs.length c ∧ RdW w A (xs.flatMap encA) ∧ (∀ x ∈ xs, okA w x) ∧ xs.length ≤ c ∧ c ≤ maxLen :=
  rd_slice encA_is Try.underlying42 (by kernel_rfl) (fun cs y fuel h => by
    obtain ⟨hl, hf⟩ := rd_struct tabOk (T := 44) rfl h
    rw [show Try.prog.cellsOf 44 = 3 from by kernel_rfl] at hl
    match cs, hl with
    | [v0, v1, v2], _ =>
      obtain ⟨y0, m0, h0⟩ := hf 0 0 5 rfl
      rw [show Try.prog.cellsOf 5 = 1 from by kernel_rfl] at h0
      obtain ⟨z0, e0, _, q0⟩ := DataW.trod_int Try.underlying5 h0
      simp at e0
      subst e0
      obtain ⟨y1, m1, h1⟩ := hf 1 1 2 rfl
      rw [show Try.prog.cellsOf 2 = 1 from by kernel_rfl] at h1
      obtain ⟨z1, e1, _, q1⟩ := DataW.trod_int Try.underlying2 h1
      simp at e1
      subst e1
      obtain ⟨y2, m2, h2⟩ := hf 2 2 28 rfl
      rw [show Try.prog.cellsOf 28 = 1 from by kernel_rfl] at h2
      obtain ⟨A2, c2, z2, e2, q2⟩ := rd_cells (encI_is .i64) (Q := fun z => (Lit.int .i64 z).wf = true) Try.underlying28 (by kernel_rfl) (fun cs y fuel h => by obtain ⟨n, h1, _, h3⟩ := DataW.trod_int Try.underlying2 h; exact ⟨n, h1, h3⟩) h2
      simp at e2
      subst e2
      exact ⟨⟨z0, z1, A2, c2, z2⟩, rfl, q0, q1, q2.1, q2.2.1, q2.2.2.1, q2.2.2.2⟩) hval hd

theorem txn_next_p (m b1 b2 : Nat) (s : TxS) (w0 : World) (hb : w0.heap[m]? = some (.cells #[.int .i64 s.next, .map (some b1), .map (some b2)] 52 (0, 0))) :
    Calls Try.prog 17 #[.pointer (some ⟨m, 0, none⟩)] w0 fun e w' => e = .returned (.int .i64 s.next) ∧ BelowD w0.heap.size w0 w' := by
  refine enterP (tab := tab) Try.func17 rfl Try.ntmps17 rfl (args := [_]) rfl ?_
  refine VC_sound tabOk 100 ?_
  refine Go_ops rfl (OpTo_loadBlk tabOk (cs := [.int .i64 s.next, .map (some b1), .map (some b2)]) (.int .i64 s.next) rfl rfl rfl (fun w hm _ => hm.block_old hb) rfl ?_)
  refine VC_sound tabOk 100 ?_
  rfl

/-- Both managers. -/
abbrev bothM (m b1 b2 : Nat) (s : TxS) (br : Nat) (A : Option Addr) (c : Nat) (R : List Int) : List Res := txB m b1 b2 s ++ refB br A c R
theorem Alike.cons {s : TxS} {R : List Int} (h : Alike s R) : stE s = rState R := funext h.state

set_option maxHeartbeats 4000000 in
theorem l6_TxnLoads (n : Int) (A0 : Option Addr) (c0 : Nat) (l : List Int) (near : Bool) (w0 : World) (hr : RdI w0 A0 l) (hn : -9223372036854775808 ≤ n ∧ n ≤ 9223372036854775807) :
    Calls Try.prog 5 #[.int .i64 n, .slice A0 l.length c0, .bool near] w0 fun e w' => e = .returned (.bool true) ∧ BelowD w0.heap.size w0 w' := by
  refine enterP (tab := tab) Try.func5 rfl Try.ntmps5 rfl (args := [_, _, _]) rfl ?_
  refine VC_sound tabOk 100 ?_
  refine Go_ops rfl (OpTo_pcall (v := .bool true) rfl rfl rfl rfl rfl (by kernel_rfl) (fun w hm _ => l6_two w) ?_)
  refine VC_sound tabOk 13 ?_
  refine ⟨fun h => by first | (simp at h; done) | (simp at h; omega) | (simp_all; done), fun _ => ?_⟩
  refine ⟨fun hc => ?_, fun hc => ?_⟩
  · refine Go_ops rfl (OpTo_pcall (v := .bool true) rfl rfl rfl rfl rfl (by kernel_rfl) (fun w hm _ => l6_two w) ?_)
    refine VC_sound tabOk 100 ?_
    rfl
  have hl30 : l.length ≤ 30 := by have := of_decide_eq_false hc; omega
  show Go _ (KI.code (Code.cond _ _ _) :: _) _ _
  refine Go_cut (σ := Int) (fun t => [(0, .v (.int .i64 t)), (1, .v (.slice A0 l.length c0))]) (fun _ => []) (fun t => -9223372036854775808 ≤ t ∧ t ≤ 9223372036854775807) ?_ ?_
  · refine VC_sound tabOk 100 ?_
    refine ⟨fun h => ?_, fun h => ?_⟩
    · refine ⟨by decide, _, rfl, ?_⟩
      have h1 := Int.tmod_lt_of_pos n (b := 50) (by decide)
      have h2 : -50 < n.tmod 50 := by
        have := Int.lt_tmod_of_pos n (b := 50) (by decide); omega
      exact Go_put _ ⟨by omega, by omega⟩ ⟨rfl, rfl, trivial⟩ (fun _ h => h)
    · exact Go_put _ hn ⟨rfl, rfl, trivial⟩ (fun _ h => h)
  intro t ht
  refine VC_sound tabOk 100 ?_
  show Go _ _ _ _
  refine Go_ops rfl (OpTo_ncall rfl rfl rfl rfl rfl (by kernel_rfl) (fun w hm _ => txn_new w) ?_)
  rintro _ _ ⟨m, b1, b2, rfl, rfl⟩
  refine VC_sound tabOk 100 ?_
  intro br _
  refine Go_res (bothM m b1 b2 ⟨1, [], []⟩ br none 0 []) (fun _ h => (h.own_nil (enc := encU) (k := 1) (T := 5) none).sel [2, 3, 4, 1, 0] rfl) ?_
  refine VC_sound tabOk 100 ?_
  show Go _ _ _ _
  refine Go_ops rfl (OpTo_mcall (txB m b1 b2 ⟨1, [], []⟩) (refB br none 0 []) (List.Perm.of_eq rfl) rfl rfl rfl rfl rfl (by kernel_rfl) (fun w hb hm hio hsp k => txn_begin_ok m b1 b2 ⟨1, [], []⟩ ⟨by decide, by decide⟩ (by decide) (by simp) w _ k) ?_)
  rintro _ _ ⟨rfl, rfl⟩
  refine VC_sound tabOk 100 ?_
  refine Go_sel [3, 4, 0, 1, 2] rfl ?_
  show Go _ _ _ _
  refine Go_ops rfl (OpTo_mcall (refB br none 0 []) (txB m b1 b2 ⟨2, [1], []⟩) (List.Perm.of_eq rfl) rfl rfl rfl rfl rfl (by kernel_rfl) (fun w hb hm hio hsp k => r06_begin_ok br none 0 [] ⟨by decide, by decide⟩ w _ k) ?_)
  rintro _ _ ⟨A1, c1, rfl, rfl⟩
  refine Go_res (bothM m b1 b2 ⟨2, [1], []⟩ br A1 c1 [1]) (fun _ h => h.sel [2, 3, 4, 0, 1] rfl) ?_
  have hal0 : Alike ⟨2, [1], []⟩ [1] := Alike.start.begin
  by_cases hbig : 2000 < t ∧ t ≤ 1048576
  · -- many
    refine VC_sound tabOk 100 ?_
    refine ⟨fun _ => ?_, fun h => by first | (simp at h; done) | (simp at h; omega) | (simp_all; done)⟩
    refine ⟨fun _ => ?_, fun h => by first | (simp at h; done) | (simp at h; omega) | (simp_all; done)⟩
    refine ⟨fun _ => ?_, fun h => by first | (simp at h; done) | (simp at h; omega) | (simp_all; done)⟩
    refine ⟨fun _ => ?_, fun h => by first | (simp at h; done) | (simp at h; omega) | (simp_all; done)⟩
    have hv : validL 1048576 [] = true := rfl
    show Go _ _ _ _
    refine Go_ops rfl (OpTo_mcall (txB m b1 b2 ⟨2, [1], []⟩) (refB br A1 c1 [1]) (List.Perm.of_eq rfl) rfl rfl rfl rfl rfl (by kernel_rfl) (fun w hb hm hio hsp k => txn_load m b1 b2 ⟨2, [1], []⟩ 1048576 none 0 [] w _ k (fun _ _ _ => .inl rfl) (by decide)) ?_)
    rintro _ _ (⟨_, rfl, b3, b4, rfl⟩ | ⟨h, _⟩)
    rotate_left
    · cases h
    refine VC_sound tabOk 100 ?_
    show Go _ _ _ _
    refine Go_ops rfl (OpTo_mcall (txB m b3 b4 ⟨1048576, [], []⟩) (refB br A1 c1 [1]) (List.Perm.of_eq rfl) rfl rfl rfl rfl rfl (by kernel_rfl) (fun w hb hm hio hsp k => txn_begin_full m b3 b4 ⟨1048576, [], []⟩ (.inr (by decide)) w _ k) ?_)
    rintro _ _ ⟨rfl, rfl⟩
    refine VC_sound tabOk 100 ?_
    refine ⟨fun _ => ?_, fun h => by first | (simp at h; done) | (simp at h; omega) | (simp_all; done)⟩
    refine ⟨fun _ => ?_, fun h => by first | (simp at h; done) | (simp at h; omega) | (simp_all; done)⟩
    refine Go_ops rfl (OpTo_pcall (v := .int .u8 3) rfl rfl rfl rfl rfl (by kernel_rfl) (fun w hm _ => txn_state_p m b3 b4 ⟨1048576, [], []⟩ 1 w (hm.blk_at (i := 0) rfl) (MpAt.of_mod (i := 1) hm rfl) (MpAt.of_mod (i := 2) hm rfl)) ?_)
    refine VC_sound tabOk 100 ?_
    refine ⟨fun _ => ?_, fun h => by first | (simp at h; done) | (simp at h; omega) | (simp_all; done)⟩
    refine Go_ops rfl (OpTo_pcall (v := .int .i64 1048576) rfl rfl rfl rfl rfl (by kernel_rfl) (fun w hm _ => txn_next_p m b3 b4 ⟨1048576, [], []⟩ w (hm.blk_at (i := 0) rfl)) ?_)
    refine VC_sound tabOk 100 ?_
    rfl
  · -- few
    have hcase : t ≤ 2000 ∨ (2000 < t ∧ 1048576 < t) := by omega
    rcases hcase with hc1 | ⟨hc1, hc2⟩
    · refine VC_sound tabOk 100 ?_
      refine ⟨fun h => by first | (simp at h; done) | (simp at h; omega) | (simp_all; done), fun _ => ?_⟩
      refine ⟨fun h => by first | (simp at h; done) | (simp at h; omega) | (simp_all; done), fun _ => ?_⟩
      show Go _ _ _ _
      refine Go_ops rfl (OpTo_mcall (txB m b1 b2 ⟨2, [1], []⟩) (refB br A1 c1 [1]) (List.Perm.of_eq rfl) rfl rfl rfl rfl rfl (by kernel_rfl) (fun w hb hm hio hsp k => txn_load m b1 b2 ⟨2, [1], []⟩ t A0 c0 l w _ k (fun Rs w h => hr.mod (hsp Rs w h)) (by omega)) ?_)
      rintro _ _ (⟨hv, rfl, b3, b4, rfl⟩ | ⟨hv, rfl, rfl⟩)
      · have hal := Alike.load hv
        have hvs := validL_spec hv
        have hRl : (loadR t l).length = (t - 1).toNat := by have := hal.next; dsimp only at this; omega
        refine VC_sound tabOk 100 ?_
        refine Go_sel [3, 4, 0, 1, 2] rfl ?_
        show Go _ _ _ _
        refine Go_ops rfl (OpTo_mcall (refB br A1 c1 [1]) (txB m b3 b4 ⟨t, [], insL l⟩) (List.Perm.of_eq rfl) rfl rfl rfl rfl rfl (by kernel_rfl) (fun w hb hm hio hsp k => r06_load br A1 c1 [1] t A0 c0 l w _ k (fun Rs w h => hr.mod (hsp Rs w h)) (by omega)) ?_)
        rintro _ _ (⟨_, rfl, A3, c3, rfl⟩ | ⟨hv2, _⟩)
        rotate_left
        · rw [hv] at hv2; cases hv2
        generalize loadR t l = R at hal hRl
        generalize insL l = D at hal
        refine Go_res (bothM m b3 b4 ⟨t, [], D⟩ br A3 c3 R) (fun _ h => h.sel [2, 3, 4, 0, 1] rfl) ?_
        refine VC_sound tabOk 100 ?_
        refine ⟨fun _ => ?_, fun h => by first | (simp at h; done) | (simp at h; omega) | (simp_all; done)⟩
        refine Go_ops rfl (OpTo_pcall (v := .int .i64 t) rfl rfl rfl rfl rfl (by kernel_rfl) (fun w hm _ => txn_next_p m b3 b4 ⟨t, [], D⟩ w (hm.blk_at (i := 0) rfl)) ?_)
        refine VC_sound tabOk 100 ?_
        refine Go_ops rfl (OpTo_pcall (v := .int .i64 ((R.length : Int) + 1)) rfl rfl rfl rfl rfl (by kernel_rfl) (fun w hm _ => r06_next br A3 c3 R w (hm.blk_at (i := 3) rfl) (by omega)) ?_)
        refine VC_sound tabOk 100 ?_
        refine ⟨fun _ => ?_, fun h => absurd hal.next (of_decide_eq_false h)⟩
        refine Go_ops rfl (OpTo_pcall (v := .int .u8 (stE ⟨t, [], D⟩ 1)) rfl rfl rfl rfl rfl (by kernel_rfl) (fun w hm _ => txn_state_p m b3 b4 ⟨t, [], D⟩ 1 w (hm.blk_at (i := 0) rfl) (MpAt.of_mod (i := 1) hm rfl) (MpAt.of_mod (i := 2) hm rfl)) ?_)
        refine VC_sound tabOk 100 ?_
        refine Go_ops rfl (OpTo_pcall (v := .int .u8 (rState R 1)) rfl rfl rfl rfl rfl (by kernel_rfl) (fun w hm _ => r06_state br A3 c3 R 1 w (hm.blk_at (i := 3) rfl) (hm.own_rd (i := 4) rfl) (by omega)) ?_)
        refine VC_sound tabOk 100 ?_
        refine ⟨fun _ => ?_, fun h => absurd (hal.state 1) (of_decide_eq_false h)⟩
        refine ⟨_, rfl, ?_⟩
        refine Go_ops rfl (OpTo_pcall (v := .int .u8 (stE ⟨t, [], D⟩ (IntKind.i64.wrap (t - 1)))) rfl rfl rfl rfl rfl (by kernel_rfl) (fun w hm _ => txn_state_p m b3 b4 ⟨t, [], D⟩ _ w (hm.blk_at (i := 0) rfl) (MpAt.of_mod (i := 1) hm rfl) (MpAt.of_mod (i := 2) hm rfl)) ?_)
        refine VC_sound tabOk 100 ?_
        refine ⟨_, rfl, ?_⟩
        refine Go_ops rfl (OpTo_pcall (v := .int .u8 (rState R (IntKind.i64.wrap (t - 1)))) rfl rfl rfl rfl rfl (by kernel_rfl) (fun w hm _ => r06_state br A3 c3 R _ w (hm.blk_at (i := 3) rfl) (hm.own_rd (i := 4) rfl) (by omega)) ?_)
        refine VC_sound tabOk 100 ?_
        exact congrArg Value.bool (decide_eq_true (hal.state _))
      · refine VC_sound tabOk 100 ?_
        refine Go_sel [3, 4, 0, 1, 2] rfl ?_
        show Go _ _ _ _
        refine Go_ops rfl (OpTo_mcall (refB br A1 c1 [1]) (txB m b1 b2 ⟨2, [1], []⟩) (List.Perm.of_eq rfl) rfl rfl rfl rfl rfl (by kernel_rfl) (fun w hb hm hio hsp k => r06_load br A1 c1 [1] t A0 c0 l w _ k (fun Rs w h => hr.mod (hsp Rs w h)) (by omega)) ?_)
        rintro _ _ (⟨hv2, _⟩ | ⟨_, rfl, rfl⟩)
        · rw [hv] at hv2; cases hv2
        have hal := hal0
        have hRl : ([1] : List Int).length ≤ 2000 := by decide
        refine Go_res (bothM m b1 b2 ⟨2, [1], []⟩ br A1 c1 [1]) (fun _ h => h.sel [2, 3, 4, 0, 1] rfl) ?_
        refine VC_sound tabOk 100 ?_
        refine ⟨fun _ => ?_, fun h => by first | (simp at h; done) | (simp at h; omega) | (simp_all; done)⟩
        refine Go_ops rfl (OpTo_pcall (v := .int .i64 2) rfl rfl rfl rfl rfl (by kernel_rfl) (fun w hm _ => txn_next_p m b1 b2 ⟨2, [1], []⟩ w (hm.blk_at (i := 0) rfl)) ?_)
        refine VC_sound tabOk 100 ?_
        refine Go_ops rfl (OpTo_pcall (v := .int .i64 (([1].length : Int) + 1)) rfl rfl rfl rfl rfl (by kernel_rfl) (fun w hm _ => r06_next br A1 c1 [1] w (hm.blk_at (i := 3) rfl) (by omega)) ?_)
        refine VC_sound tabOk 100 ?_
        refine ⟨fun _ => ?_, fun h => absurd hal.next (of_decide_eq_false h)⟩
        refine Go_ops rfl (OpTo_pcall (v := .int .u8 (stE ⟨2, [1], []⟩ 1)) rfl rfl rfl rfl rfl (by kernel_rfl) (fun w hm _ => txn_state_p m b1 b2 ⟨2, [1], []⟩ 1 w (hm.blk_at (i := 0) rfl) (MpAt.of_mod (i := 1) hm rfl) (MpAt.of_mod (i := 2) hm rfl)) ?_)
        refine VC_sound tabOk 100 ?_
        refine Go_ops rfl (OpTo_pcall (v := .int .u8 (rState [1] 1)) rfl rfl rfl rfl rfl (by kernel_rfl) (fun w hm _ => r06_state br A1 c1 [1] 1 w (hm.blk_at (i := 3) rfl) (hm.own_rd (i := 4) rfl) (by omega)) ?_)
        refine VC_sound tabOk 100 ?_
        refine ⟨fun _ => ?_, fun h => absurd (hal.state 1) (of_decide_eq_false h)⟩
        refine ⟨_, rfl, ?_⟩
        refine Go_ops rfl (OpTo_pcall (v := .int .u8 (stE ⟨2, [1], []⟩ (IntKind.i64.wrap (t - 1)))) rfl rfl rfl rfl rfl (by kernel_rfl) (fun w hm _ => txn_state_p m b1 b2 ⟨2, [1], []⟩ _ w (hm.blk_at (i := 0) rfl) (MpAt.of_mod (i := 1) hm rfl) (MpAt.of_mod (i := 2) hm rfl)) ?_)
        refine VC_sound tabOk 100 ?_
        refine ⟨_, rfl, ?_⟩
        refine Go_ops rfl (OpTo_pcall (v := .int .u8 (rState [1] (IntKind.i64.wrap (t - 1)))) rfl rfl rfl rfl rfl (by kernel_rfl) (fun w hm _ => r06_state br A1 c1 [1] _ w (hm.blk_at (i := 3) rfl) (hm.own_rd (i := 4) rfl) (by omega)) ?_)
        refine VC_sound tabOk 100 ?_
        exact congrArg Value.bool (decide_eq_true (hal.state _))
    · refine VC_sound tabOk 100 ?_
      refine ⟨fun _ => ?_, fun h => by first | (simp at h; done) | (simp at h; omega) | (simp_all; done)⟩
      refine ⟨fun h => by first | (simp at h; done) | (simp at h; omega) | (simp_all; done), fun _ => ?_⟩
      refine ⟨fun _ => ?_, fun h => by first | (simp at h; done) | (simp at h; omega) | (simp_all; done)⟩
      refine ⟨fun h => by first | (simp at h; done) | (simp at h; omega) | (simp_all; done), fun _ => ?_⟩
      show Go _ _ _ _
      refine Go_ops rfl (OpTo_mcall (txB m b1 b2 ⟨2, [1], []⟩) (refB br A1 c1 [1]) (List.Perm.of_eq rfl) rfl rfl rfl rfl rfl (by kernel_rfl) (fun w hb hm hio hsp k => txn_load m b1 b2 ⟨2, [1], []⟩ t A0 c0 l w _ k (fun Rs w h => hr.mod (hsp Rs w h)) (by omega)) ?_)
      rintro _ _ (⟨hv, rfl, b3, b4, rfl⟩ | ⟨hv, rfl, rfl⟩)
      · have hal := Alike.load hv
        have hvs := validL_spec hv
        have hRl : (loadR t l).length = (t - 1).toNat := by have := hal.next; dsimp only at this; omega
        refine VC_sound tabOk 100 ?_
        refine Go_sel [3, 4, 0, 1, 2] rfl ?_
        show Go _ _ _ _
        refine Go_ops rfl (OpTo_mcall (refB br A1 c1 [1]) (txB m b3 b4 ⟨t, [], insL l⟩) (List.Perm.of_eq rfl) rfl rfl rfl rfl rfl (by kernel_rfl) (fun w hb hm hio hsp k => r06_load br A1 c1 [1] t A0 c0 l w _ k (fun Rs w h => hr.mod (hsp Rs w h)) (by omega)) ?_)
        rintro _ _ (⟨_, rfl, A3, c3, rfl⟩ | ⟨hv2, _⟩)
        rotate_left
        · rw [hv] at hv2; cases hv2
        generalize loadR t l = R at hal hRl
        generalize insL l = D at hal
        refine Go_res (bothM m b3 b4 ⟨t, [], D⟩ br A3 c3 R) (fun _ h => h.sel [2, 3, 4, 0, 1] rfl) ?_
        refine VC_sound tabOk 100 ?_
        refine ⟨fun _ => ?_, fun h => by first | (simp at h; done) | (simp at h; omega) | (simp_all; done)⟩
        refine Go_ops rfl (OpTo_pcall (v := .int .i64 t) rfl rfl rfl rfl rfl (by kernel_rfl) (fun w hm _ => txn_next_p m b3 b4 ⟨t, [], D⟩ w (hm.blk_at (i := 0) rfl)) ?_)
        refine VC_sound tabOk 100 ?_
        refine Go_ops rfl (OpTo_pcall (v := .int .i64 ((R.length : Int) + 1)) rfl rfl rfl rfl rfl (by kernel_rfl) (fun w hm _ => r06_next br A3 c3 R w (hm.blk_at (i := 3) rfl) (by omega)) ?_)
        refine VC_sound tabOk 100 ?_
        refine ⟨fun _ => ?_, fun h => absurd hal.next (of_decide_eq_false h)⟩
        refine Go_ops rfl (OpTo_pcall (v := .int .u8 (stE ⟨t, [], D⟩ 1)) rfl rfl rfl rfl rfl (by kernel_rfl) (fun w hm _ => txn_state_p m b3 b4 ⟨t, [], D⟩ 1 w (hm.blk_at (i := 0) rfl) (MpAt.of_mod (i := 1) hm rfl) (MpAt.of_mod (i := 2) hm rfl)) ?_)
        refine VC_sound tabOk 100 ?_
        refine Go_ops rfl (OpTo_pcall (v := .int .u8 (rState R 1)) rfl rfl rfl rfl rfl (by kernel_rfl) (fun w hm _ => r06_state br A3 c3 R 1 w (hm.blk_at (i := 3) rfl) (hm.own_rd (i := 4) rfl) (by omega)) ?_)
        refine VC_sound tabOk 100 ?_
        refine ⟨fun _ => ?_, fun h => absurd (hal.state 1) (of_decide_eq_false h)⟩
        refine ⟨_, rfl, ?_⟩
        refine Go_ops rfl (OpTo_pcall (v := .int .u8 (stE ⟨t, [], D⟩ (IntKind.i64.wrap (t - 1)))) rfl rfl rfl rfl rfl (by kernel_rfl) (fun w hm _ => txn_state_p m b3 b4 ⟨t, [], D⟩ _ w (hm.blk_at (i := 0) rfl) (MpAt.of_mod (i := 1) hm rfl) (MpAt.of_mod (i := 2) hm rfl)) ?_)
        refine VC_sound tabOk 100 ?_
        refine ⟨_, rfl, ?_⟩
        refine Go_ops rfl (OpTo_pcall (v := .int .u8 (rState R (IntKind.i64.wrap (t - 1)))) rfl rfl rfl rfl rfl (by kernel_rfl) (fun w hm _ => r06_state br A3 c3 R _ w (hm.blk_at (i := 3) rfl) (hm.own_rd (i := 4) rfl) (by omega)) ?_)
        refine VC_sound tabOk 100 ?_
        exact congrArg Value.bool (decide_eq_true (hal.state _))
      · refine VC_sound tabOk 100 ?_
        refine Go_sel [3, 4, 0, 1, 2] rfl ?_
        show Go _ _ _ _
        refine Go_ops rfl (OpTo_mcall (refB br A1 c1 [1]) (txB m b1 b2 ⟨2, [1], []⟩) (List.Perm.of_eq rfl) rfl rfl rfl rfl rfl (by kernel_rfl) (fun w hb hm hio hsp k => r06_load br A1 c1 [1] t A0 c0 l w _ k (fun Rs w h => hr.mod (hsp Rs w h)) (by omega)) ?_)
        rintro _ _ (⟨hv2, _⟩ | ⟨_, rfl, rfl⟩)
        · rw [hv] at hv2; cases hv2
        have hal := hal0
        have hRl : ([1] : List Int).length ≤ 2000 := by decide
        refine Go_res (bothM m b1 b2 ⟨2, [1], []⟩ br A1 c1 [1]) (fun _ h => h.sel [2, 3, 4, 0, 1] rfl) ?_
        refine VC_sound tabOk 100 ?_
        refine ⟨fun _ => ?_, fun h => by first | (simp at h; done) | (simp at h; omega) | (simp_all; done)⟩
        refine Go_ops rfl (OpTo_pcall (v := .int .i64 2) rfl rfl rfl rfl rfl (by kernel_rfl) (fun w hm _ => txn_next_p m b1 b2 ⟨2, [1], []⟩ w (hm.blk_at (i := 0) rfl)) ?_)
        refine VC_sound tabOk 100 ?_
        refine Go_ops rfl (OpTo_pcall (v := .int .i64 (([1].length : Int) + 1)) rfl rfl rfl rfl rfl (by kernel_rfl) (fun w hm _ => r06_next br A1 c1 [1] w (hm.blk_at (i := 3) rfl) (by omega)) ?_)
        refine VC_sound tabOk 100 ?_
        refine ⟨fun _ => ?_, fun h => absurd hal.next (of_decide_eq_false h)⟩
        refine Go_ops rfl (OpTo_pcall (v := .int .u8 (stE ⟨2, [1], []⟩ 1)) rfl rfl rfl rfl rfl (by kernel_rfl) (fun w hm _ => txn_state_p m b1 b2 ⟨2, [1], []⟩ 1 w (hm.blk_at (i := 0) rfl) (MpAt.of_mod (i := 1) hm rfl) (MpAt.of_mod (i := 2) hm rfl)) ?_)
        refine VC_sound tabOk 100 ?_
        refine Go_ops rfl (OpTo_pcall (v := .int .u8 (rState [1] 1)) rfl rfl rfl rfl rfl (by kernel_rfl) (fun w hm _ => r06_state br A1 c1 [1] 1 w (hm.blk_at (i := 3) rfl) (hm.own_rd (i := 4) rfl) (by omega)) ?_)
        refine VC_sound tabOk 100 ?_
        refine ⟨fun _ => ?_, fun h => absurd (hal.state 1) (of_decide_eq_false h)⟩
        refine ⟨_, rfl, ?_⟩
        refine Go_ops rfl (OpTo_pcall (v := .int .u8 (stE ⟨2, [1], []⟩ (IntKind.i64.wrap (t - 1)))) rfl rfl rfl rfl rfl (by kernel_rfl) (fun w hm _ => txn_state_p m b1 b2 ⟨2, [1], []⟩ _ w (hm.blk_at (i := 0) rfl) (MpAt.of_mod (i := 1) hm rfl) (MpAt.of_mod (i := 2) hm rfl)) ?_)
        refine VC_sound tabOk 100 ?_
        refine ⟨_, rfl, ?_⟩
        refine Go_ops rfl (OpTo_pcall (v := .int .u8 (rState [1] (IntKind.i64.wrap (t - 1)))) rfl rfl rfl rfl rfl (by kernel_rfl) (fun w hm _ => r06_state br A1 c1 [1] _ w (hm.blk_at (i := 3) rfl) (hm.own_rd (i := 4) rfl) (by omega)) ?_)
        refine VC_sound tabOk 100 ?_
        exact congrArg Value.bool (decide_eq_true (hal.state _))
end Go.Proofs.Ytpadhjojmiellaa
