/- The law QueueOnce: what its run comes to. -/
import Derived.Test.YthpcahgdobnljaaGreatQr
set_option maxRecDepth 100000
set_option autoImplicit false
set_option linter.unusedVariables false
set_option linter.unusedSimpArgs false
namespace Go.Proofs.YthpcahgdobnljaaGreat
open Go.RX Go Go.RowKit Go.ChangeShapes Go.WideShapes Go.ChangeAt

structure Act15 where
  d_ : Int
  who : Int
  key : Int
  n : Int
def encA : Act15 → List Value := fun x => [.int .u8 x.d_, .int .u8 x.who, .int .u8 x.key, .int .i64 x.n]
theorem encA_is : IsEnc encA 4 := ⟨fun _ => rfl, fun x v hv => by simp [encA] at hv; rcases hv with rfl | rfl | rfl | rfl <;> rfl, by decide⟩
abbrev mkA (x : Act15) : Value := .agg #[.int .u8 x.d_, .int .u8 x.who, .int .u8 x.key, .int .i64 x.n]
def okA (w : World) (x : Act15) : Prop := (Lit.int .u8 x.d_).wf = true ∧ (Lit.int .u8 x.who).wf = true ∧ (Lit.int .u8 x.key).wf = true ∧ (Lit.int .i64 x.n).wf = true
theorem rd_acts {H : Type} {enc : TypeId × Value → H} {w : World} {base : Nat} {sp : Nat → Bool} {held : Bool} {r : Reach} {b0 : Nat} {v : Value} {d : DataW H} {ps : List MemPlace} (hval : Value.okWide Tryz.prog w r b0 22 v) (hd : DataW.Trod enc Tryz.prog w base sp held 22 v d ps) :
    ∃ (A : Option Addr) (c : Nat) (xs : List Act15), v = .slice A xs.length c ∧ RdW w A (xs.flatMap encA) ∧ (∀ x ∈ xs, okA w x) ∧ xs.length ≤ c ∧ c ≤ maxLen :=
  rd_slice encA_is Tryz.underlying22 (by kernel_rfl) (fun cs y fuel h => by
    obtain ⟨hl, hf⟩ := rd_struct tabOk (T := 28) rfl h
    rw [show Tryz.prog.cellsOf 28 = 4 from by kernel_rfl] at hl
    match cs, hl with
    | [v0, v1, v2, v3], _ =>
      obtain ⟨y0, m0, h0⟩ := hf 0 0 5 rfl
      rw [show Tryz.prog.cellsOf 5 = 1 from by kernel_rfl] at h0
      obtain ⟨z0, e0, _, q0⟩ := DataW.trod_int Tryz.underlying5 h0
      simp at e0
      subst e0
      obtain ⟨y1, m1, h1⟩ := hf 1 1 5 rfl
      rw [show Tryz.prog.cellsOf 5 = 1 from by kernel_rfl] at h1
      obtain ⟨z1, e1, _, q1⟩ := DataW.trod_int Tryz.underlying5 h1
      simp at e1
      subst e1
      obtain ⟨y2, m2, h2⟩ := hf 2 2 5 rfl
      rw [show Tryz.prog.cellsOf 5 = 1 from by kernel_rfl] at h2
      obtain ⟨z2, e2, _, q2⟩ := DataW.trod_int Tryz.underlying5 h2
      simp at e2
      subst e2
      obtain ⟨y3, m3, h3⟩ := hf 3 3 2 rfl
      rw [show Tryz.prog.cellsOf 2 = 1 from by kernel_rfl] at h3
      obtain ⟨z3, e3, _, q3⟩ := DataW.trod_int Tryz.underlying2 h3
      simp at e3
      subst e3
      exact ⟨⟨z0, z1, z2, z3⟩, rfl, q0, q1, q2, q3⟩) hval hd

theorem tmod_nat15 (k : Nat) (hk : 0 < k) {n : Int} (h : 0 ≤ n) : ∃ K : Nat, n.tmod k = K ∧ K < k := by
  have h1 := Int.tmod_nonneg (k : Int) h
  have h2 := Int.tmod_lt_of_pos n (b := (k : Int)) (by omega)
  exact ⟨(n.tmod k).toNat, by omega, by omega⟩
theorem next_p15 (m b1 b2 : Nat) (s : TxS) (w0 : World) (hb : w0.heap[m]? = some (.cells #[.int .i64 s.next, .map (some b1), .map (some b2)] 136 (0, 0))) :
    Calls Tryz.prog 23 #[.pointer (some ⟨m, 0, none⟩)] w0 fun e w' => e = .returned (.int .i64 s.next) ∧ BelowD w0.heap.size w0 w' := by
  refine enterP (tab := tab) Tryz.func23 rfl Tryz.ntmps23 rfl (args := [_]) rfl ?_
  refine VC_sound tabOk 100 ?_
  refine Go_ops rfl (OpTo_loadBlk tabOk (cs := [.int .i64 s.next, .map (some b1), .map (some b2)]) (.int .i64 s.next) rfl rfl rfl (fun w hm _ => hm.block_old hb) rfl ?_)
  refine VC_sound tabOk 100 ?_
  rfl
theorem add0 : Tk.tkAdd [] 1 (pos 1 []) 0 = 0 := by simp [Tk.tkAdd, Tk.tkFollows, snRight, rightFrom, snCovers, posF]
theorem reg0 (A : Option Addr) (c : Nat) (A1 : Option Addr) (c1 : Nat) : regQ ⟨(Sp.noTb, Sp.noTb, Sp.noTb), 0, A1, c1, [tk1 A c], 1, [], none, 0, [], 1, ⟨1, [], []⟩⟩ Cu.nA = 0 := by rfl
theorem OInv.start (q : Nat) (A : Option Addr) (c : Nat) (A1 : Option Addr) (c1 : Nat) : OInv 0 q ⟨(Sp.noTb, Sp.noTb, Sp.noTb), 0, A1, c1, [tk1 A c], 1, [cA 1 0 q], none, 0, [], 1, ⟨1, [], []⟩⟩ [] := by
  refine ⟨Alike.start, by simp, by decide, (by show (0:Nat) < 3; decide), (by simp [Sp.sum3, Sp.noTb]), rfl, by simp, ⟨fun j t ht => ?_, fun j t u ht hu => ?_, ⟨_, rfl, rfl, rfl⟩⟩, rfl, ⟨by simp, by simp⟩, fun e he => ?_, by simp [P3, Sp.pre3, Sp.noTb]⟩
  · cases j with
    | zero => obtain rfl : tk1 A c = t := by simpa using ht
              exact ⟨rfl, rfl, by simp [tk1], by simp [tk1]⟩
    | succ j => simp at ht
  · simp at hu
  · simp [P3, Sp.pre3, Sp.noTb] at he
set_option maxHeartbeats 16000000 in
theorem l15_QueueOnce (A0 : Option Addr) (c0 : Nat) (l : List Act15) (w0 : World) (hr : RdW w0 A0 (l.flatMap encA)) (hok : ∀ z ∈ l, okA w0 z) :
    Calls Tryz.prog 5 #[.slice A0 l.length c0] w0 fun e w' => e = .returned (.bool true) ∧ BelowD w0.heap.size w0 w' := by
  refine enterP (tab := tab) Tryz.func5 rfl Tryz.ntmps5 rfl (args := [_]) rfl ?_
  refine VC_sound tabOk 100 ?_
  refine Go_ops rfl (OpTo_pcall (v := .bool true) rfl rfl rfl rfl rfl (by kernel_rfl) (fun w hm _ => l15_early w) ?_)
  refine VC_sound tabOk 100 ?_
  refine ⟨fun h => by first | (simp at h; done) | (simp at h; omega) | (simp_all; done), fun _ => ?_⟩
  refine ⟨fun hc => ?_, fun hc => ?_⟩
  · refine Go_ops rfl (OpTo_pcall (v := .bool true) rfl rfl rfl rfl rfl (by kernel_rfl) (fun w hm _ => l15_early w) ?_)
    refine VC_sound tabOk 100 ?_
    rfl
  have hl100 : l.length ≤ 100 := by have := of_decide_eq_false hc; omega
  show Go _ _ _ _
  refine Go_ops rfl (OpTo_ncall rfl rfl rfl rfl rfl (by kernel_rfl) (fun w hm _ => txn_new w) ?_)
  rintro _ _ ⟨m, b1, b2, rfl, rfl⟩
  refine VC_sound tabOk 100 ?_
  refine Go_ops rfl (OpTo_tcall [] (txB m b1 b2 ⟨1, [], []⟩) rfl rfl rfl rfl rfl rfl (by kernel_rfl) (fun w hb hm hio hsp k => qs_new m b1 b2 ⟨1, [], []⟩ w _ k) ?_)
  rintro _ _ ⟨q, bs, bt, bc, bm, br, rfl, rfl⟩
  obtain ⟨I, hI⟩ : ∃ I : QI, I = ⟨q, m, b1, b2, bs, bt, bc, bm, br⟩ := ⟨_, rfl⟩
  obtain rfl : q = I.q := by rw [hI]
  obtain rfl : m = I.m := by rw [hI]
  rw [← hI]
  refine Go_res (qR I ⟨(Sp.noTb, Sp.noTb, Sp.noTb), 0, none, 0, [], 0, [], none, 0, [], 1, ⟨1, [], []⟩⟩) (fun _ h => h) ?_
  refine VC_sound tabOk 100 ?_
  refine Go_ops rfl (OpTo_tcall [] (qR I ⟨(Sp.noTb, Sp.noTb, Sp.noTb), 0, none, 0, [], 0, [], none, 0, [], 1, ⟨1, [], []⟩⟩) rfl rfl rfl rfl rfl rfl (by kernel_rfl) (fun w hb hm hio hsp k => q_tick I ⟨(Sp.noTb, Sp.noTb, Sp.noTb), 0, none, 0, [], 0, [], none, 0, [], 1, ⟨1, [], []⟩⟩ [] (0) Alike.start (by decide) (by intro t ht; simp at ht) (by decide) ⟨(by first | decide | (simp [Sp.sum3, Sp.noTb]; done)), (by first | decide | (simp [Sp.sum3, Sp.noTb]; done))⟩ (by first | decide | (simp [Sp.sum3, Sp.noTb]; done)) w _ k) ?_)
  rintro _ _ (⟨h0, _, _⟩ | ⟨_, A1, c1, A1', c1', A1'', c1'', rfl, rfl⟩)
  · exact absurd add0 h0
  refine Go_res (qR I ⟨(Sp.noTb, Sp.noTb, Sp.noTb), 0, A1', c1', [tk1 A1 c1], 1, [], none, 0, [], 1, ⟨1, [], []⟩⟩) (fun _ h => h.dropAt 0) ?_
  refine VC_sound tabOk 100 ?_
  refine Go_ops rfl (OpTo_tcall [] (qR I ⟨(Sp.noTb, Sp.noTb, Sp.noTb), 0, A1', c1', [tk1 A1 c1], 1, [], none, 0, [], 1, ⟨1, [], []⟩⟩) rfl rfl rfl rfl rfl rfl (by kernel_rfl) (fun w hb hm hio hsp k => q_register I ⟨(Sp.noTb, Sp.noTb, Sp.noTb), 0, A1', c1', [tk1 A1 c1], 1, [], none, 0, [], 1, ⟨1, [], []⟩⟩ Cu.nA w _ k) ?_)
  rintro _ _ ⟨rfl, qa, rfl⟩
  refine Go_res (qR I ⟨(Sp.noTb, Sp.noTb, Sp.noTb), 0, A1', c1', [tk1 A1 c1], 1, [cA 1 0 qa], none, 0, [], 1, ⟨1, [], []⟩⟩) (fun _ h => h) ?_
  refine VC_sound tabOk 100 ?_
  refine ⟨fun h => absurd h (by simp [reg0]), fun _ => ?_⟩
  have hr0 := hr
  refine Go_loop (σ := Nat × QS × List Int) (fun s => [(0, .v (.slice A0 l.length c0)), (3, .v (pv I.m)), (4, .v (pv I.q)), (5, .v (.slice none 0 0)), (6, .v (.slice none 0 0)), (7, .v (.int .i64 s.1))]) (fun s => qR I s.2.1) (fun s => s.1 ≤ l.length ∧ OInv s.1 qa s.2.1 s.2.2) (fun s => l.length - s.1) (0, ⟨(Sp.noTb, Sp.noTb, Sp.noTb), 0, A1', c1', [tk1 A1 c1], 1, [cA 1 0 qa], none, 0, [], 1, ⟨1, [], []⟩⟩, []) ⟨Nat.zero_le _, OInv.start qa A1 c1 A1' c1'⟩ ⟨rfl, rfl, rfl, rfl, rfl, rfl, trivial⟩ (fun _ h => h) ?_
  rintro ⟨i, S, R⟩ ⟨hi, hv⟩
  dsimp only at hi hv ⊢
  have hO := hv.al.O
  have hnx := hv.al.next
  have hrl := hv.rl
  have h06 := hv.o6
  have hcur := hv.cur
  have hlen := hv.len
  have hlst := hv.lst
  have htl := hv.tl
  have hev := hv.nx
  have hfit : Tk.Fit1 S.ts := hv.tk.fit (by omega)
  by_cases hlt : i < l.length
  · obtain ⟨ba, oa, rfl⟩ := RdW.some encA_is hr (ne_nil_of_lt hlt)
    obtain ⟨a, hga⟩ : ∃ a, l[i]? = some a := ⟨_, List.getElem?_eq_getElem hlt⟩
    have ho := hok a (List.mem_of_getElem? hga)
    obtain ⟨D8, hD8, hD88⟩ := tmod_nat15 8 (by decide) (bounds_u8 ho.1).1
    obtain ⟨H4, hH4, hH44⟩ := tmod_nat15 4 (by decide) (bounds_u8 ho.2.1).1
    refine VC_sound tabOk 100 ?_
    refine ⟨fun _ => ?_, fun h => by first | (simp at h; done) | (simp at h; omega) | (simp_all; done)⟩
    refine ⟨⟨by omega, by omega⟩, ?_⟩
    (repeat (first | refine Or.inl ⟨rfl, rfl, ?_⟩ | refine Or.inl ⟨rfl, ?_⟩ | refine Or.inr ?_))
    refine findR_E ?_
    refine Go_ops rfl (OpTo_loadRow tabOk encA_is (mkA a) rfl rfl rfl rfl rfl (fun h => by first | rfl | cases h) (fun w hm _ => hr.mod hm) hga (by simp only [addA]; rfl) ?_)
    refine VC_sound tabOk 25 ?_
    intro b8 _
    (repeat (first | refine Or.inl ⟨rfl, rfl, ?_⟩ | refine Or.inl ⟨rfl, ?_⟩ | refine Or.inr ?_))
    show Go _ _ _ _
    refine Go_any mixed [] [(0, false), (3, false), (4, false), (5, false), (6, false), (1, true), (2, false), (7, false), (8, false)] rfl (by kernel_rfl) (by kernel_rfl) [.blk b8 28 (encA a)] (fun _ => True) (fun _ _ _ h => h) (fun w hm _ => ⟨Holds.of_idx [0] hm, trivial⟩) ?_
    refine VC_sound tabOk 100 ?_
    (repeat (first | refine Or.inl ⟨rfl, rfl, ?_⟩ | refine Or.inl ⟨rfl, ?_⟩ | refine Or.inr ?_))
    refine ⟨by decide, _, hH4.symm, ?_⟩
    refine ⟨_, wrap_i64 (n := (H4 : Int)) (by omega) (by omega), ?_⟩
    refine Go_aloneL rfl rfl (OpTo_pcall (v := .int .i64 S.s.next) rfl rfl rfl rfl rfl (by kernel_rfl) (fun w hm _ => next_p15 I.m I.b1 I.b2 S.s w (hm.blk_at (i := 2) rfl)) ?_)
    refine And.intro (fun w hm _ => ⟨Holds.of_idx [0] hm, trivial⟩) ?_
    refine VC_sound tabOk 16 ?_
    refine ⟨_, wrap_i64 (n := S.s.next - 1) (by omega) (by omega), ?_⟩
    refine ⟨_, wrap_i64 (n := S.s.next - 1 - (H4 : Int)) (by omega) (by omega), ?_⟩
    generalize S.s.next - 1 - (H4 : Int) = x
    (repeat (first | refine Or.inl ⟨rfl, rfl, ?_⟩ | refine Or.inl ⟨rfl, ?_⟩ | refine Or.inr ?_))
    refine ⟨by decide, _, hD8.symm, ?_⟩
    show Go _ (KI.code (Code.cond _ _ _) :: _) _ _
    refine Go_cut (σ := Bool) (fun q => [(0, .v (.slice (some ⟨ba, oa, none⟩) l.length c0)), (3, .v (pv I.m)), (4, .v (pv I.q)), (5, .v (.slice none 0 0)), (6, .v (.slice none 0 0)), (7, .v (.int .i64 i)), (8, .v (.pointer (some ⟨b8, 0, none⟩))), (9, .v (.int .i64 x)), (60, .v (.int .u8 D8)), (65, .v (.bool q))]) (fun _ => .blk b8 28 (encA a) :: qR I S) (fun _ => True) ?_ ?_
    · refine VC_sound tabOk 100 ?_
      refine ⟨fun h => ?_, fun h => ?_⟩
      · exact Go_put (true) trivial ⟨rfl, rfl, rfl, rfl, rfl, rfl, rfl, rfl, rfl, rfl, trivial⟩ (fun _ h => h)
      exact Go_put (decide ((D8 : Int) = 1)) trivial ⟨rfl, rfl, rfl, rfl, rfl, rfl, rfl, rfl, rfl, rfl, trivial⟩ (fun _ h => h)
    intro q _
    refine VC_sound tabOk 6 ?_
    refine ⟨fun h => ?_, fun h => ?_⟩
    · by_cases h6 : (pos 1 R).length < 6
      · refine VC_sound tabOk 100 ?_
        refine Go_ops rfl (OpTo_tcall [.blk b8 28 (encA a)] (qR I S) rfl rfl rfl rfl rfl rfl (by kernel_rfl) (fun w hb hm hio hsp k => qs_begin_ok I S R hv.al h6 (by omega) w _ k) ?_)
        rintro _ _ ⟨rfl, rfl⟩
        refine VC_sound tabOk 100 ?_
        refine ⟨_, wrap_i64 (n := (i : Int) + 1) (by omega) (by omega), ?_⟩
        exact Go_fin (i + 1, { S with s := begS S.s }, R ++ [1]) ⟨by dsimp only; omega, hv.begin h6⟩ (by dsimp only; omega) ⟨rfl, rfl, rfl, rfl, rfl, rfl, trivial⟩ (fun _ h => h.dropAt 0)
      · refine VC_sound tabOk 100 ?_
        refine Go_ops rfl (OpTo_tcall [.blk b8 28 (encA a)] (qR I S) rfl rfl rfl rfl rfl rfl (by kernel_rfl) (fun w hb hm hio hsp k => qs_begin_full I S R hv.al h6 w _ k) ?_)
        rintro _ _ ⟨rfl, rfl⟩
        refine VC_sound tabOk 100 ?_
        refine ⟨_, wrap_i64 (n := (i : Int) + 1) (by omega) (by omega), ?_⟩
        exact Go_fin (i + 1, S, R) ⟨by dsimp only; omega, hv.up⟩ (by dsimp only; omega) ⟨rfl, rfl, rfl, rfl, rfl, rfl, trivial⟩ (fun _ h => h.dropAt 0)
    show Go _ (KI.code (Code.cond _ _ _) :: _) _ _
    refine Go_cut (σ := Bool) (fun q => [(0, .v (.slice (some ⟨ba, oa, none⟩) l.length c0)), (3, .v (pv I.m)), (4, .v (pv I.q)), (5, .v (.slice none 0 0)), (6, .v (.slice none 0 0)), (7, .v (.int .i64 i)), (8, .v (.pointer (some ⟨b8, 0, none⟩))), (9, .v (.int .i64 x)), (60, .v (.int .u8 D8)), (70, .v (.bool q))]) (fun _ => .blk b8 28 (encA a) :: qR I S) (fun _ => True) ?_ ?_
    · refine VC_sound tabOk 100 ?_
      refine ⟨fun h => ?_, fun h => ?_⟩
      · exact Go_put (true) trivial ⟨rfl, rfl, rfl, rfl, rfl, rfl, rfl, rfl, rfl, rfl, trivial⟩ (fun _ h => h)
      refine ⟨fun h => ?_, fun h => ?_⟩
      · exact Go_put (true) trivial ⟨rfl, rfl, rfl, rfl, rfl, rfl, rfl, rfl, rfl, rfl, trivial⟩ (fun _ h => h)
      exact Go_put (decide ((D8 : Int) = 4)) trivial ⟨rfl, rfl, rfl, rfl, rfl, rfl, rfl, rfl, rfl, rfl, trivial⟩ (fun _ h => h)
    intro q _
    refine VC_sound tabOk 6 ?_
    refine ⟨fun h => ?_, fun h => ?_⟩
    · refine VC_sound tabOk 100 ?_
      refine Go_ops rfl (OpTo_pcall (v := .int .u8 (stE S.s x)) rfl rfl rfl rfl rfl (by kernel_rfl) (fun w hm _ => txn_state_p I.m I.b1 I.b2 S.s x w (hm.blk_at (i := 2) rfl) (MpAt.of_mod (i := 3) hm rfl) (MpAt.of_mod (i := 4) hm rfl)) ?_)
      refine VC_sound tabOk 100 ?_
      refine ⟨fun h1 => ?_, fun h1 => ?_⟩
      · have hx : rState R x = 1 := by have := of_decide_eq_true h1; rw [hv.al.state] at this; exact this
        (repeat (first | refine Or.inl ⟨rfl, rfl, ?_⟩ | refine Or.inl ⟨rfl, ?_⟩ | refine Or.inr ?_))
        refine ⟨_, wrap_i64 (n := a.key) (by have := bounds_u8 ho.2.2.1; omega) (by have := bounds_u8 ho.2.2.1; omega), ?_⟩
        refine Go_ops rfl (OpTo_tcall [.blk b8 28 (encA a)] (qR I S) rfl rfl rfl rfl rfl rfl (by kernel_rfl) (fun w hb hm hio hsp k => q_write I S x 0 1 a.key ⟨#[]⟩ hcur (by omega) ⟨by omega, by omega⟩ w _ k) ?_)
        rintro _ _ ⟨rfl, A, c, rfl⟩
        refine VC_sound tabOk 100 ?_
        refine ⟨_, wrap_i64 (n := (i : Int) + 1) (by omega) (by omega), ?_⟩
        exact Go_fin (i + 1, { S.put A c (evW S x 0 1 a.key ⟨#[]⟩) with nx := S.nx + 1 }, R) ⟨by dsimp only; omega, hv.write hx A c 0 1 a.key ⟨#[]⟩⟩ (by dsimp only; omega) ⟨rfl, rfl, rfl, rfl, rfl, rfl, trivial⟩ (fun _ h => h.dropAt 0)
      · skip
        refine ⟨_, wrap_i64 (n := (i : Int) + 1) (by omega) (by omega), ?_⟩
        exact Go_fin (i + 1, S, R) ⟨by dsimp only; omega, hv.up⟩ (by dsimp only; omega) ⟨rfl, rfl, rfl, rfl, rfl, rfl, trivial⟩ (fun _ h => h.dropAt 0)
    refine VC_sound tabOk 100 ?_
    refine ⟨fun h => ?_, fun h => ?_⟩
    · by_cases hx : rState R x = 1
      · have hp := (rState_one x).1 hx
        have hxO : x ∈ S.s.O := by rw [hO]; exact hp
        refine VC_sound tabOk 100 ?_
        refine Go_ops rfl (OpTo_tcall [.blk b8 28 (encA a)] (qR I S) rfl rfl rfl rfl rfl rfl (by kernel_rfl) (fun w hb hm hio hsp k => qs_commit_ok I S x hxO w _ k) ?_)
        rintro _ _ ⟨rfl, rfl⟩
        refine VC_sound tabOk 100 ?_
        refine ⟨_, wrap_i64 (n := (i : Int) + 1) (by omega) (by omega), ?_⟩
        exact Go_fin (i + 1, { S with s := comS S.s x }, endR R x 2) ⟨by dsimp only; omega, (hv.commit hp).up⟩ (by dsimp only; omega) ⟨rfl, rfl, rfl, rfl, rfl, rfl, trivial⟩ (fun _ h => h.dropAt 0)
      · have hxO : ¬ x ∈ S.s.O := by rw [hO]; exact fun h => hx ((rState_one x).2 h)
        refine VC_sound tabOk 100 ?_
        refine Go_ops rfl (OpTo_tcall [.blk b8 28 (encA a)] (qR I S) rfl rfl rfl rfl rfl rfl (by kernel_rfl) (fun w hb hm hio hsp k => qs_commit_no I S x hxO w _ k) ?_)
        rintro _ _ ⟨rfl, rfl⟩
        refine VC_sound tabOk 100 ?_
        refine ⟨_, wrap_i64 (n := (i : Int) + 1) (by omega) (by omega), ?_⟩
        exact Go_fin (i + 1, S, R) ⟨by dsimp only; omega, hv.up⟩ (by dsimp only; omega) ⟨rfl, rfl, rfl, rfl, rfl, rfl, trivial⟩ (fun _ h => h.dropAt 0)
    refine ⟨fun h => ?_, fun h => ?_⟩
    · by_cases hx : rState R x = 1
      · have hp := (rState_one x).1 hx
        have hxO : x ∈ S.s.O := by rw [hO]; exact hp
        refine VC_sound tabOk 100 ?_
        refine Go_ops rfl (OpTo_tcall [.blk b8 28 (encA a)] (qR I S) rfl rfl rfl rfl rfl rfl (by kernel_rfl) (fun w hb hm hio hsp k => qs_abort_ok I S x hxO w _ k) ?_)
        rintro _ _ ⟨rfl, rfl⟩
        refine VC_sound tabOk 100 ?_
        refine ⟨fun _ => ?_, fun h => by first | (simp at h; done) | (simp at h; omega) | (simp_all; done)⟩
        refine Go_ops rfl (OpTo_tcall [.blk b8 28 (encA a)] (qR I { S with s := aboS S.s x }) rfl rfl rfl rfl rfl rfl (by kernel_rfl) (fun w hb hm hio hsp k => q_forget I { S with s := aboS S.s x } x (by dsimp only; omega) w _ k) ?_)
        rintro _ _ ⟨rfl, rfl⟩
        refine VC_sound tabOk 100 ?_
        refine ⟨_, wrap_i64 (n := (i : Int) + 1) (by omega) (by omega), ?_⟩
        exact Go_fin (i + 1, { S with s := aboS S.s x, T := (Sp.tf x S.T.1, Sp.tf x S.T.2.1, Sp.tf x S.T.2.2) }, endR R x 3) ⟨by dsimp only; omega, (hv.abort hp).up⟩ (by dsimp only; omega) ⟨rfl, rfl, rfl, rfl, rfl, rfl, trivial⟩ (fun _ h => h.dropAt 0)
      · have hxO : ¬ x ∈ S.s.O := by rw [hO]; exact fun h => hx ((rState_one x).2 h)
        refine VC_sound tabOk 100 ?_
        refine Go_ops rfl (OpTo_tcall [.blk b8 28 (encA a)] (qR I S) rfl rfl rfl rfl rfl rfl (by kernel_rfl) (fun w hb hm hio hsp k => qs_abort_no I S x hxO w _ k) ?_)
        rintro _ _ ⟨rfl, rfl⟩
        refine VC_sound tabOk 100 ?_
        refine ⟨fun h => by first | (simp at h; done) | (simp at h; omega) | (simp_all; done), fun _ => ?_⟩
        refine ⟨_, wrap_i64 (n := (i : Int) + 1) (by omega) (by omega), ?_⟩
        exact Go_fin (i + 1, S, R) ⟨by dsimp only; omega, hv.up⟩ (by dsimp only; omega) ⟨rfl, rfl, rfl, rfl, rfl, rfl, trivial⟩ (fun _ h => h.dropAt 0)
    refine VC_sound tabOk 100 ?_
    refine Go_ops rfl (OpTo_tcall [.blk b8 28 (encA a)] (qR I S) rfl rfl rfl rfl rfl rfl (by kernel_rfl) (fun w hb hm hio hsp k => q_tick I S R 0 hv.al (by omega) hfit.fit (by omega) ⟨by omega, by omega⟩ (by omega) w _ k) ?_)
    rintro _ _ (⟨h0, rfl, rfl⟩ | ⟨h0, A2, c2, A2', c2', A2'', c2'', rfl, rfl⟩)
    · have hv2 : OInv (i + 1) qa S R := hv.up
      refine Go_res (qR I S) (fun _ h => h.dropAt 0) ?_
      refine VC_sound tabOk 100 ?_
      refine Go_ops rfl (OpTo_tcall [] (qR I S) rfl rfl rfl rfl rfl rfl (by kernel_rfl) (fun w hb hm hio hsp k => q_rotate I S (by rw [hv2.cs]; simp) (hv2.tk.fit (by have := hv2.rl; omega)) (by have := hv2.tl; omega) hv2.cur (by have := hv2.len; omega) w _ k) ?_)
      rintro _ _ ⟨b, hF, (⟨h0, rfl, rfl⟩ | ⟨h0, h1, rfl, rfl⟩ | ⟨h0, h1, rfl, rfl⟩)⟩
      · refine VC_sound tabOk 100 ?_
        refine ⟨_, wrap_i64 (n := (i : Int) + 1) (by omega) (by omega), ?_⟩
        exact Go_fin (i + 1, { S with cur := Sp.nxt (S).cur }, R) ⟨by dsimp only; omega, hv2.turn⟩ (by dsimp only; omega) ⟨rfl, rfl, rfl, rfl, rfl, rfl, trivial⟩ (fun _ h => h)
      · refine VC_sound tabOk 100 ?_
        refine ⟨_, wrap_i64 (n := (i : Int) + 1) (by omega) (by omega), ?_⟩
        exact Go_fin (i + 1, S, R) ⟨by dsimp only; omega, hv2⟩ (by dsimp only; omega) ⟨rfl, rfl, rfl, rfl, rfl, rfl, trivial⟩ (fun _ h => h)
      · exact absurd (hv2.kept hF h0) (by simp [h1])
    · have hv2 : OInv (i + 1) qa (S.tick A2 c2 A2' c2' R 0) R := hv.tick h0 A2 c2 A2' c2'
      refine Go_res (qR I (S.tick A2 c2 A2' c2' R 0)) (fun _ h => (h.dropAt 0).dropAt 0) ?_
      refine VC_sound tabOk 100 ?_
      refine Go_ops rfl (OpTo_tcall [] (qR I (S.tick A2 c2 A2' c2' R 0)) rfl rfl rfl rfl rfl rfl (by kernel_rfl) (fun w hb hm hio hsp k => q_rotate I (S.tick A2 c2 A2' c2' R 0) (by rw [hv2.cs]; simp) (hv2.tk.fit (by have := hv2.rl; omega)) (by have := hv2.tl; omega) hv2.cur (by have := hv2.len; omega) w _ k) ?_)
      rintro _ _ ⟨b, hF, (⟨h0, rfl, rfl⟩ | ⟨h0, h1, rfl, rfl⟩ | ⟨h0, h1, rfl, rfl⟩)⟩
      · refine VC_sound tabOk 100 ?_
        refine ⟨_, wrap_i64 (n := (i : Int) + 1) (by omega) (by omega), ?_⟩
        exact Go_fin (i + 1, { (S.tick A2 c2 A2' c2' R 0) with cur := Sp.nxt ((S.tick A2 c2 A2' c2' R 0)).cur }, R) ⟨by dsimp only; omega, hv2.turn⟩ (by dsimp only; omega) ⟨rfl, rfl, rfl, rfl, rfl, rfl, trivial⟩ (fun _ h => h)
      · refine VC_sound tabOk 100 ?_
        refine ⟨_, wrap_i64 (n := (i : Int) + 1) (by omega) (by omega), ?_⟩
        exact Go_fin (i + 1, (S.tick A2 c2 A2' c2' R 0), R) ⟨by dsimp only; omega, hv2⟩ (by dsimp only; omega) ⟨rfl, rfl, rfl, rfl, rfl, rfl, trivial⟩ (fun _ h => h)
      · exact absurd (hv2.kept hF h0) (by simp [h1])
  have hil : i = l.length := by omega
  refine VC_sound tabOk 100 ?_
  refine ⟨fun h => by first | (simp at h; done) | (simp at h; omega) | (simp_all; done), fun _ => ?_⟩
  refine Go_ops rfl (OpTo_tcall [] (qR I S) rfl rfl rfl rfl rfl rfl (by kernel_rfl) (fun w hb hm hio hsp k => qs_now I S R hv.al h06 w _ k) ?_)
  rintro _ _ ⟨Ao, co, rfl, rfl⟩
  refine VC_sound tabOk 100 ?_
  refine Go_loop (σ := Nat × QS × List Int) (fun s => [(0, .v (.slice A0 l.length c0)), (3, .v (pv I.m)), (4, .v (pv I.q)), (5, .v (.slice none 0 0)), (6, .v (.slice none 0 0)), (10, .v (.slice Ao (pos 1 R).length co)), (11, .v (.int .i64 s.1))]) (fun s => own (RX.encI .i64) 1 2 Ao co (pos 1 R) :: qR I s.2.1) (fun s => s.1 ≤ (pos 1 R).length ∧ OInv i qa s.2.1 s.2.2 ∧ pos 1 s.2.2 = (pos 1 R).drop s.1) (fun s => (pos 1 R).length - s.1) (0, S, R) ⟨Nat.zero_le _, hv, rfl⟩ ⟨rfl, rfl, rfl, rfl, rfl, rfl, rfl, trivial⟩ (fun _ h => h) ?_
  rintro ⟨k, S2, R2⟩ ⟨hk, hv2, hp2⟩
  dsimp only at hk hv2 hp2 ⊢
  by_cases hlt2 : k < (pos 1 R).length
  · obtain ⟨x, hgx⟩ : ∃ x, (pos 1 R)[k]? = some x := ⟨_, List.getElem?_eq_getElem hlt2⟩
    have hdr : pos 1 R2 = x :: (pos 1 R).drop (k + 1) := by rw [hp2]; obtain ⟨h1, rfl⟩ := List.getElem?_eq_some_iff.1 hgx; exact List.drop_eq_getElem_cons h1
    have hxp : x ∈ pos 1 R2 := by rw [hdr]; simp
    have hxO : x ∈ S2.s.O := by rw [hv2.al.O]; exact hxp
    refine Go_with _ (fun w hm _ => hm.own_some (i := 0) rfl (ne_nil_of_lt hlt2)) ?_
    rintro ⟨bo, oo, rfl⟩
    refine VC_sound tabOk 100 ?_
    refine ⟨fun _ => ?_, fun h => by first | (simp at h; done) | (simp at h; omega) | (simp_all; done)⟩
    refine ⟨⟨by omega, by omega⟩, ?_⟩
    (repeat (first | refine Or.inl ⟨rfl, rfl, ?_⟩ | refine Or.inl ⟨rfl, ?_⟩ | refine Or.inr ?_))
    refine findR_E ?_
    refine Go_ops rfl (OpTo_loadRow tabOk (RX.encI_is .i64) (.int .i64 x) rfl rfl rfl rfl rfl (fun h => rfl) (fun w hm _ => hm.own_rd (i := 0) rfl) hgx (by simp only [addA]; rfl) ?_)
    refine VC_sound tabOk 100 ?_
    refine Go_ops rfl (OpTo_tcall [own (RX.encI .i64) 1 2 (some ⟨bo, oo, none⟩) co (pos 1 R)] (qR I S2) rfl rfl rfl rfl rfl rfl (by kernel_rfl) (fun w hb hm hio hsp k => qs_commit_ok I S2 x hxO w _ k) ?_)
    rintro _ _ ⟨rfl, rfl⟩
    refine VC_sound tabOk 100 ?_
    refine ⟨_, wrap_i64 (n := (k : Int) + 1) (by omega) (by omega), ?_⟩
    exact Go_fin (k + 1, { S2 with s := comS S2.s x }, endR R2 x 2) ⟨by dsimp only; omega, hv2.commit hxp, pos_end hv2.al hdr⟩ (by dsimp only; omega) ⟨rfl, rfl, rfl, rfl, rfl, rfl, rfl, trivial⟩ (fun _ h => h)
  have hp0 : pos 1 R2 = [] := by rw [hp2, List.drop_eq_nil_iff]; omega
  refine Go_res (qR I S2) (fun _ h => h.dropAt 0) ?_
  refine VC_sound tabOk 100 ?_
  refine ⟨fun h => by first | (simp at h; done) | (simp at h; omega) | (simp_all; done), fun _ => ?_⟩
  clear hp2 hv hO hnx hrl h06 hcur hlen hlst htl hev hfit
  have hlen := hv2.len
  have hlst := hv2.lst
  have htl := hv2.tl
  have hrl := hv2.rl
  refine Go_ops rfl (OpTo_pcall (v := pv I.bs) rfl rfl rfl rfl rfl (by kernel_rfl) (fun w hm _ => q_spools I S2.nx w (hm.blk_at (i := 0) rfl)) ?_)
  refine VC_sound tabOk 100 ?_
  show Go _ _ _ _
  refine Go_ops rfl (OpTo_ncall rfl rfl rfl rfl rfl (by kernel_rfl) (fun w hm _ => qs_all I S2 (by omega) w _ hm) ?_)
  rintro _ _ ⟨zs, hz, Az, cz, rfl, rfl⟩
  have hzp := srt_perm hz
  have hzl : zs.length ≤ 100 := by have := hz.2.2; rw [Sp.pre3_len] at this; omega
  refine VC_sound tabOk 100 ?_
  refine Go_loop (σ := Nat × Option Addr × Nat) (fun s => [(0, .v (.slice A0 l.length c0)), (3, .v (pv I.m)), (4, .v (pv I.q)), (5, .v (.slice s.2.1 s.1 s.2.2)), (6, .v (.slice none 0 0)), (12, .v (.slice Az zs.length cz)), (13, .v (.int .i64 s.1))]) (fun s => own (RX.encI .i64) 1 2 s.2.1 s.2.2 ((zs.take s.1).map EventM.id) :: own encE 8 65 Az cz zs :: qR I S2) (fun s => s.1 ≤ zs.length) (fun s => zs.length - s.1) (0, none, 0) (Nat.zero_le _) ⟨rfl, rfl, rfl, rfl, rfl, rfl, rfl, trivial⟩ (fun _ h => h.own_nil (enc := RX.encI .i64) (k := 1) (T := 2) none) ?_
  rintro ⟨k, A, c⟩ hk3
  dsimp only at hk3 ⊢
  have htk : ((zs.take k).map EventM.id).length = k := by simp; omega
  by_cases hlt3 : k < zs.length
  · obtain ⟨e, hge⟩ : ∃ e, zs[k]? = some e := ⟨_, List.getElem?_eq_getElem hlt3⟩
    refine Go_with _ (fun w hm _ => hm.own_some (i := 1) rfl (ne_nil_of_lt hlt3)) ?_
    rintro ⟨bz, oz, rfl⟩
    refine VC_sound tabOk 100 ?_
    refine ⟨fun _ => ?_, fun h => by first | (simp at h; done) | (simp at h; omega) | (simp_all; done)⟩
    refine ⟨⟨by omega, by omega⟩, ?_⟩
    (repeat (first | refine Or.inl ⟨rfl, rfl, ?_⟩ | refine Or.inl ⟨rfl, ?_⟩ | refine Or.inr ?_))
    refine findR_E ?_
    refine Go_ops rfl (OpTo_loadPart tabOk encE_is (n := k) (j := 0) (.int .i64 e.id) rfl rfl rfl (fun w hm _ => hm.own_rd (i := 1) rfl) hge rfl (by simp only [addA]; rfl) ?_)
    refine VC_sound tabOk 100 ?_
    intro b29 _
    show Go _ _ _ _
    refine Go_ops rfl (OpTo_append tabOk (RX.encI_is .i64) (ys := [e.id]) (i := 1) rfl rfl rfl rfl rfl rfl rfl rfl rfl htk.symm rfl (fun w hm _ => hm.blk_rd (i := 0) rfl) (by simp; omega) (by simp; omega) (fun A2 c2 => ?_))
    refine VC_sound tabOk 100 ?_
    refine ⟨_, wrap_i64 (n := (k : Int) + 1) (by omega) (by omega), ?_⟩
    have htk2 : (zs.take k).map EventM.id ++ [e.id] = (zs.take (k + 1)).map EventM.id := by rw [List.take_add_one, hge]; simp
    refine Go_fin (k + 1, A2, c2) (by dsimp only; omega) (by dsimp only; omega) ⟨rfl, rfl, rfl, rfl, rfl, rfl, rfl, trivial⟩ (fun _ h => ?_)
    dsimp only; rw [← htk2]; exact h.dropAt 0
  obtain rfl : k = zs.length := by omega
  rw [List.take_length] at htk ⊢
  obtain ⟨dl, hdl⟩ : ∃ dl, dl = zs.map EventM.id := ⟨_, rfl⟩
  rw [← hdl] at htk ⊢
  have hdn : dl.Nodup := by rw [hdl]; exact (hzp.map EventM.id).nodup_iff.2 hv2.nd
  refine Go_res (own (RX.encI .i64) 1 2 A c dl :: qR I S2) (fun _ h => h.dropAt 1) ?_
  refine VC_sound tabOk 100 ?_
  refine ⟨fun h => by first | (simp at h; done) | (simp at h; omega) | (simp_all; done), fun _ => ?_⟩
  refine Go_ops rfl (OpTo_tcall [own (RX.encI .i64) 1 2 A c dl] (qR I S2) rfl rfl rfl rfl rfl rfl (by kernel_rfl) (fun w hb hm hio hsp k => q_trim I S2 (by rw [hv2.cs]; simp) (by omega) w _ k) ?_)
  rintro _ _ ⟨ys, hpy, _, rfl, rfl⟩
  rw [hv2.trim hpy]
  refine Go_res (own (RX.encI .i64) 1 2 A c dl :: qR I S2) (fun _ h => h) ?_
  refine VC_sound tabOk 100 ?_
  refine Go_ops rfl (OpTo_tcall [own (RX.encI .i64) 1 2 A c dl] (qR I S2) rfl rfl rfl rfl rfl rfl (by kernel_rfl) (fun w hb hm hio hsp k => q_tick I S2 R2 0 hv2.al (by rw [hp0]; simp) (hv2.tk.fit (by omega)).fit (by omega) ⟨by omega, by omega⟩ (by omega) w _ k) ?_)
  rintro _ _ (⟨h0, rfl, rfl⟩ | ⟨h0, A2, c2, A2', c2', A2'', c2'', rfl, rfl⟩)
  · rw [hv2.add8 hp0 h0]
    refine VC_sound tabOk 100 ?_
    intro b14 _
    (repeat (first | refine Or.inl ⟨rfl, rfl, ?_⟩ | refine Or.inl ⟨rfl, ?_⟩ | refine Or.inr ?_))
    refine Go_loop (σ := Unit) (fun _ => [(15, .v (.int .i64 8))]) (fun _ => qR I S2) (fun _ => True) (fun _ => 0) () trivial ⟨rfl, trivial⟩ (fun _ h => (h.dropAt 0).dropAt 0) ?_
    rintro ⟨⟩ _
    refine VC_sound tabOk 100 ?_
    refine ⟨fun h => by first | (simp at h; done) | (simp at h; omega) | (simp_all; done), fun _ => ?_⟩
    refine ⟨fun _ => ?_, fun h => by first | (simp at h; done) | (simp at h; omega) | (simp_all; done)⟩
    rfl
  have hv3 := hv2.tick h0 A2 c2 A2' c2'
  have hts : (S2.tick A2 c2 A2' c2' R2 0).ts[(S2.tick A2 c2 A2' c2' R2 0).ts.length - 1]? = some ⟨S2.last + 1, S2.s.next, A2, c2, pos 1 R2, 0⟩ := by simp
  obtain ⟨S3, hS3⟩ : ∃ S3, S3 = S2.tick A2 c2 A2' c2' R2 0 := ⟨_, rfl⟩
  rw [← hS3] at hv3 hts
  refine Go_res (own (RX.encI .i64) 1 2 A c dl :: qR I S3) (fun _ h => by rw [hS3]; exact h.dropAt 1) ?_
  have hzp3 : zs.Perm (P3 S3.T) := by rw [hS3]; exact hzp
  have hdo := hv3.done hp0
  have hfit := hv3.tk.fit (by have := hv3.rl; omega)
  have htl3 := hv3.tl
  have hlen3 := hv3.len
  have hend : ∀ e ∈ P3 S3.T, sawC S3.ts S3.ts.length e = true := fun e he => hv3.sawEnd hts hv2.al.next hp0 he
  have hpos3 : 0 < S3.ts.length := by rw [hS3]; simp
  refine VC_sound tabOk 100 ?_
  intro b14 _
  (repeat (first | refine Or.inl ⟨rfl, rfl, ?_⟩ | refine Or.inl ⟨rfl, ?_⟩ | refine Or.inr ?_))
  refine Go_loop (σ := Nat × List Int × Option Addr × Nat) (fun s => [(3, .v (pv I.m)), (4, .v (pv I.q)), (5, .v (.slice A zs.length c)), (6, .v (.slice s.2.2.1 s.2.1.length s.2.2.2)), (15, .v (.int .i64 0))]) (fun s => own (RX.encI .i64) 1 2 A c dl :: own (RX.encI .i64) 1 2 s.2.2.1 s.2.2.2 s.2.1 :: qR I { S3 with cs := [cA ((s.1 : Nat) + 1 : Int) 0 qa] }) (fun s => s.1 < S3.ts.length ∧ s.2.1.Perm (((P3 S3.T).filter (sawC S3.ts ((s.1 : Nat) + 1 : Int))).map EventM.id)) (fun s => S3.ts.length - s.1) (0, [], none, 0) ⟨hpos3, ?_⟩ ⟨rfl, rfl, rfl, rfl, rfl, trivial⟩ (fun _ h => ?_) ?_
  · dsimp only
    rw [List.filter_eq_nil_iff.2 (fun e he => by simpa using hv3.saw0 he)]; exact List.Perm.nil
  · have h1 := h.dropAt 0
    rw [hv3.cur'] at h1
    exact (h1.own_nil (enc := RX.encI .i64) (k := 1) (T := 2) none).permRs (List.Perm.swap _ _ _)
  rintro ⟨j, told, At, ct⟩ ⟨hj, htp⟩
  dsimp only at hj htp ⊢
  have htol : told.length ≤ 200 := by have h1 := htp.length_eq; rw [List.length_map] at h1; have h2 := List.length_filter_le (sawC S3.ts ((j : Nat) + 1 : Int)) (P3 S3.T); rw [Sp.pre3_len] at h2; omega
  refine VC_sound tabOk 100 ?_
  refine ⟨fun _ => ?_, fun h => by first | (simp at h; done) | (simp at h; omega) | (simp_all; done)⟩
  refine Go_ops rfl (OpTo_tcall [own (RX.encI .i64) 1 2 A c dl, own (RX.encI .i64) 1 2 At ct told] (qR I { S3 with cs := [cA ((j : Nat) + 1 : Int) 0 qa] }) rfl rfl rfl rfl rfl rfl (by kernel_rfl) (fun w hb hm hio hsp k => q_next I { S3 with cs := [cA ((j : Nat) + 1 : Int) 0 qa] } [] [] ⟨Cu.nA, ((j : Nat) + 1 : Int), 0⟩ qa rfl rfl hfit (by dsimp only; omega) w _ k) ?_)
  rintro _ _ (⟨h1, _, _⟩ | ⟨_, h1, rfl, rfl⟩ | ⟨_, t, At2, ct2, h1, rfl, rfl⟩)
  · exact absurd h1 (by dsimp only; decide)
  rotate_left
  · have h2 : S3.ts[j + 1]? = some t := by rw [← hv3.tk.aft]; exact h1
    have hj2 : j + 1 < S3.ts.length := (List.getElem?_eq_some_iff.1 h2).1
    have htn : t.n = ((j + 1 : Nat) : Int) + 1 := (hv3.tk.ns _ _ h2).1
    rw [htn]
    refine Go_res (own (RX.encI .i64) 1 2 A c dl :: own (RX.encI .i64) 1 2 At ct told :: qR I { S3 with cs := [(⟨Cu.nA, ((j : Nat) + 1 : Int), ((j + 1 : Nat) : Int) + 1⟩, qa)] }) (fun _ h => h.dropAt 2) ?_
    refine VC_sound tabOk 100 ?_
    intro b16 _
    (repeat (first | refine Or.inl ⟨rfl, rfl, ?_⟩ | refine Or.inl ⟨rfl, ?_⟩ | refine Or.inr ?_))
    refine ⟨fun h => by first | (simp at h; done) | (simp at h; omega) | (simp_all; done), fun _ => ?_⟩
    refine Go_res (own (RX.encI .i64) 1 2 A c dl :: own (RX.encI .i64) 1 2 At ct told :: qR I { S3 with cs := [(⟨Cu.nA, ((j : Nat) + 1 : Int), ((j + 1 : Nat) : Int) + 1⟩, qa)] }) (fun _ h => h.dropAt 0) ?_
    refine Go_ops rfl (OpTo_tcall [own (RX.encI .i64) 1 2 A c dl, own (RX.encI .i64) 1 2 At ct told] (qR I { S3 with cs := [(⟨Cu.nA, ((j : Nat) + 1 : Int), ((j + 1 : Nat) : Int) + 1⟩, qa)] }) rfl rfl rfl rfl rfl rfl (by kernel_rfl) (fun w hb hm hio hsp k => q_batch I { S3 with cs := [(⟨Cu.nA, ((j : Nat) + 1 : Int), ((j + 1 : Nat) : Int) + 1⟩, qa)] } [] [] ⟨Cu.nA, ((j : Nat) + 1 : Int), ((j + 1 : Nat) : Int) + 1⟩ qa rfl rfl hfit (by dsimp only; omega) (by dsimp only; omega) w _ k) ?_)
    rintro _ _ (⟨h3, _, _⟩ | ⟨_, ys, Ab, cb, hB, rfl, rfl⟩)
    · exact absurd h3 (by show ¬ ((j + 1 : Nat) : Int) + 1 = 0; omega)
    have hyp := told_batch hB hdo
    have hyl : ys.length ≤ 200 := by have h4 := hyp.length_eq; have h5 := List.length_filter_le (fun e => sawC S3.ts (((j + 1 : Nat) : Int) + 1) e && !sawC S3.ts ((j : Nat) + 1 : Int) e) (P3 S3.T); rw [Sp.pre3_len] at h5; dsimp only at h4; omega
    refine VC_sound tabOk 100 ?_
    refine Go_loop (σ := Nat × Option Addr × Nat) (fun s => [(3, .v (pv I.m)), (4, .v (pv I.q)), (5, .v (.slice A zs.length c)), (6, .v (.slice s.2.1 (told ++ (ys.take s.1).map EventM.id).length s.2.2)), (15, .v (.int .i64 0)), (18, .v (.slice Ab ys.length cb)), (20, .v (.int .i64 s.1))]) (fun s => own (RX.encI .i64) 1 2 A c dl :: own (RX.encI .i64) 1 2 s.2.1 s.2.2 (told ++ (ys.take s.1).map EventM.id) :: own encE 8 65 Ab cb ys :: qR I { S3 with cs := [(⟨Cu.nA, ((j : Nat) + 1 : Int), ((j + 1 : Nat) : Int) + 1⟩, qa)] }) (fun s => s.1 ≤ ys.length) (fun s => ys.length - s.1) (0, At, ct) (Nat.zero_le _) ⟨rfl, rfl, rfl, by simp, rfl, rfl, rfl, trivial⟩ (fun _ h => by simpa using h) ?_
    rintro ⟨k, At5, ct5⟩ hk5
    dsimp only at hk5 ⊢
    by_cases hlt5 : k < ys.length
    · obtain ⟨e, hge⟩ : ∃ e, ys[k]? = some e := ⟨_, List.getElem?_eq_getElem hlt5⟩
      have hep : e ∈ P3 S3.T := (List.mem_filter.1 (hyp.mem_iff.1 (List.mem_of_getElem? hge))).1
      refine Go_with _ (fun w hm _ => hm.own_some (i := 2) rfl (ne_nil_of_lt hlt5)) ?_
      rintro ⟨bz, oz, rfl⟩
      refine VC_sound tabOk 100 ?_
      refine ⟨fun _ => ?_, fun h => by first | (simp at h; done) | (simp at h; omega) | (simp_all; done)⟩
      refine ⟨⟨by omega, by omega⟩, ?_⟩
      (repeat (first | refine Or.inl ⟨rfl, rfl, ?_⟩ | refine Or.inl ⟨rfl, ?_⟩ | refine Or.inr ?_))
      refine findR_E ?_
      refine Go_ops rfl (OpTo_loadPart tabOk encE_is (n := k) (j := 0) (.int .i64 e.id) rfl rfl rfl (fun w hm _ => hm.own_rd (i := 2) rfl) hge rfl (by simp only [addA]; rfl) ?_)
      refine VC_sound tabOk 100 ?_
      intro b29 _
      show Go _ _ _ _
      refine Go_ops rfl (OpTo_append tabOk (RX.encI_is .i64) (ys := [e.id]) (i := 2) rfl rfl rfl rfl rfl rfl rfl rfl rfl rfl rfl (fun w hm _ => hm.blk_rd (i := 0) rfl) (by simp; omega) (by simp; omega) (fun A6 c6 => ?_))
      have htk2 : told ++ (ys.take k).map EventM.id ++ [e.id] = told ++ (ys.take (k + 1)).map EventM.id := by rw [List.take_add_one, hge]; simp
      have hlk : (told ++ (ys.take (k + 1)).map EventM.id).length = (told ++ (ys.take k).map EventM.id).length + 1 := by rw [← htk2, List.length_append]; rfl
      refine VC_sound tabOk 100 ?_
      refine ⟨⟨by omega, by omega⟩, ?_⟩
      (repeat (first | refine Or.inl ⟨rfl, rfl, ?_⟩ | refine Or.inl ⟨rfl, ?_⟩ | refine Or.inr ?_))
      refine findR_E ?_
      refine Go_ops rfl (OpTo_loadPart tabOk encE_is (n := k) (j := 1) (.int .i64 e.tx) rfl rfl rfl (fun w hm _ => hm.own_rd (i := 3) rfl) hge rfl (by simp only [addA]; rfl) ?_)
      refine VC_sound tabOk 100 ?_
      refine Go_ops rfl (OpTo_pcall (v := .int .u8 (stE S3.s e.tx)) rfl rfl rfl rfl rfl (by kernel_rfl) (fun w hm _ => txn_state_p I.m I.b1 I.b2 S3.s e.tx w (hm.blk_at (i := 5) rfl) (MpAt.of_mod (i := 6) hm rfl) (MpAt.of_mod (i := 7) hm rfl)) ?_)
      refine VC_sound tabOk 100 ?_
      refine ⟨fun h => absurd (hdo e hep).1 (by simpa using h), fun _ => ?_⟩
      refine ⟨_, wrap_i64 (n := (k : Int) + 1) (by omega) (by omega), ?_⟩
      refine Go_fin (k + 1, A6, c6) (by dsimp only; omega) (by dsimp only; omega) ⟨rfl, rfl, rfl, by rw [hlk], rfl, rfl, rfl, trivial⟩ (fun _ h => ?_)
      dsimp only; rw [← htk2]; exact h.dropAt 0
    obtain rfl : k = ys.length := by omega
    rw [List.take_length]
    refine Go_res (own (RX.encI .i64) 1 2 A c dl :: own (RX.encI .i64) 1 2 At5 ct5 (told ++ ys.map EventM.id) :: qR I { S3 with cs := [(⟨Cu.nA, ((j : Nat) + 1 : Int), ((j + 1 : Nat) : Int) + 1⟩, qa)] }) (fun _ h => h.dropAt 2) ?_
    refine VC_sound tabOk 100 ?_
    refine ⟨fun h => by first | (simp at h; done) | (simp at h; omega) | (simp_all; done), fun _ => ?_⟩
    refine Go_ops rfl (OpTo_tcall [own (RX.encI .i64) 1 2 A c dl, own (RX.encI .i64) 1 2 At5 ct5 (told ++ ys.map EventM.id)] (qR I { S3 with cs := [(⟨Cu.nA, ((j : Nat) + 1 : Int), ((j + 1 : Nat) : Int) + 1⟩, qa)] }) rfl rfl rfl rfl rfl rfl (by kernel_rfl) (fun w hb hm hio hsp k => q_finish I { S3 with cs := [(⟨Cu.nA, ((j : Nat) + 1 : Int), ((j + 1 : Nat) : Int) + 1⟩, qa)] } [] [] ⟨Cu.nA, ((j : Nat) + 1 : Int), ((j + 1 : Nat) : Int) + 1⟩ qa rfl rfl w _ k) ?_)
    rintro _ _ ⟨rfl, rfl⟩
    have hne : ¬ ((j + 1 : Nat) : Int) + 1 = 0 := by omega
    simp only [if_neg hne]
    refine VC_sound tabOk 100 ?_
    refine Go_fin (j + 1, told ++ ys.map EventM.id, At5, ct5) ⟨hj2, ?_⟩ (by dsimp only; omega) ⟨rfl, rfl, rfl, rfl, rfl, trivial⟩ (fun _ h => h)
    dsimp only
    have hs := (told_step (P := P3 S3.T) (c := sawC S3.ts ((j : Nat) + 1 : Int)) (d := sawC S3.ts (((j + 1 : Nat) : Int) + 1)) (fun e he hc => hv3.sawUp hj2 e hc)).map EventM.id
    rw [List.map_append] at hs
    exact (htp.append (hyp.map EventM.id)).trans hs
  have hjn : j + 1 = S3.ts.length := by
    have h2 : S3.ts[j + 1]? = none := by rw [← hv3.tk.aft]; exact h1
    have := List.getElem?_eq_none_iff.1 h2; omega
  have htd : told.Perm dl := by
    rw [show ((j : Nat) + 1 : Int) = S3.ts.length from by omega, List.filter_eq_self.2 hend] at htp
    rw [hdl]; exact htp.trans (hzp3.map EventM.id).symm
  refine VC_sound tabOk 100 ?_
  intro b16 _
  (repeat (first | refine Or.inl ⟨rfl, rfl, ?_⟩ | refine Or.inl ⟨rfl, ?_⟩ | refine Or.inr ?_))
  refine ⟨fun _ => ?_, fun h => by first | (simp at h; done) | (simp at h; omega) | (simp_all; done)⟩
  refine ⟨fun h => by first | (simp at h; done) | (simp at h; omega) | (simp_all; done), fun _ => ?_⟩
  have htl9 : told.length = zs.length := by rw [htd.length_eq, htk]
  refine Go_loop (σ := Nat) (fun s => [(5, .v (.slice A zs.length c)), (6, .v (.slice At told.length ct)), (21, .v (.int .i64 s))]) (fun _ => own (RX.encI .i64) 1 2 A c dl :: own (RX.encI .i64) 1 2 At ct told :: qR I { S3 with cs := [cA ((j : Nat) + 1 : Int) 0 qa] }) (fun s => s ≤ dl.length) (fun s => dl.length - s) 0 (Nat.zero_le _) ⟨rfl, rfl, rfl, trivial⟩ (fun _ h => h.dropAt 0) ?_
  intro y hy
  dsimp only at hy ⊢
  by_cases hlt8 : y < dl.length
  · obtain ⟨d, hgd⟩ : ∃ d, dl[y]? = some d := ⟨_, List.getElem?_eq_getElem hlt8⟩
    have hcnt : told.count d = 1 := told_once htd hdn (List.mem_of_getElem? hgd)
    refine Go_with _ (fun w hm _ => hm.own_some (i := 0) rfl (ne_nil_of_lt hlt8)) ?_
    rintro ⟨bd, od, rfl⟩
    refine VC_sound tabOk 100 ?_
    refine ⟨fun _ => ?_, fun h => by first | (simp at h; done) | (simp at h; omega) | (simp_all; done)⟩
    refine Go_loop (σ := Nat) (fun k => [(5, .v (.slice (some ⟨bd, od, none⟩) zs.length c)), (6, .v (.slice At told.length ct)), (21, .v (.int .i64 y)), (22, .v (.int .i64 ((told.take k).count d : Nat))), (23, .v (.int .i64 k))]) (fun _ => own (RX.encI .i64) 1 2 (some ⟨bd, od, none⟩) c dl :: own (RX.encI .i64) 1 2 At ct told :: qR I { S3 with cs := [cA ((j : Nat) + 1 : Int) 0 qa] }) (fun k => k ≤ told.length) (fun k => told.length - k) 0 (Nat.zero_le _) ⟨rfl, rfl, rfl, rfl, rfl, trivial⟩ (fun _ h => h) ?_
    intro k hk9
    dsimp only at hk9 ⊢
    by_cases hlt9 : k < told.length
    · obtain ⟨x, hgx⟩ : ∃ x, told[k]? = some x := ⟨_, List.getElem?_eq_getElem hlt9⟩
      have hst : (told.take (k + 1)).count d = (told.take k).count d + if x = d then 1 else 0 := by
        rw [List.take_add_one, hgx, List.count_append]; congr 1; simp [List.count_cons]
      have hcl : (told.take k).count d ≤ 200 := Nat.le_trans List.count_le_length (by simp; omega)
      refine Go_with _ (fun w hm _ => hm.own_some (i := 1) rfl (ne_nil_of_lt hlt9)) ?_
      rintro ⟨bt2, ot2, rfl⟩
      refine VC_sound tabOk 100 ?_
      refine ⟨fun _ => ?_, fun h => by first | (simp at h; done) | (simp at h; omega) | (simp_all; done)⟩
      show Go _ _ _ _
      refine Go_any mixed [] [(0, false), (1, false), (2, false), (4, false), (5, false), (6, false), (3, false), (7, false), (8, false)] rfl (by kernel_rfl) (by kernel_rfl) [] (fun w => RdW w (some ⟨bt2, ot2, none⟩) (told.flatMap (RX.encI .i64)) ∧ RdW w (some ⟨bd, od, none⟩) (dl.flatMap (RX.encI .i64))) (fun w w' hk h => ⟨h.1.old hk, h.2.old hk⟩) (fun w hm _ => ⟨Holds.of_idx [] hm, ⟨hm.own_rd (i := 1) rfl, hm.own_rd (i := 0) rfl⟩⟩) ?_
      refine VC_sound tabOk 100 ?_
      refine ⟨⟨by omega, by omega⟩, ?_⟩
      refine ⟨⟨by omega, by omega⟩, ?_⟩
      (repeat (first | refine Or.inl ⟨rfl, rfl, ?_⟩ | refine Or.inl ⟨rfl, ?_⟩ | refine Or.inr ?_))
      refine findR_E ?_
      refine Go_first (v := .int .i64 x) rfl rfl rfl rfl (fun w _ hw => rxLoadRow tabOk rfl (RX.encI_is .i64) rfl (fun h => rfl) hw.1 hgx (by simp only [addA]; rfl) rfl) ?_
      refine VC_sound tabOk 100 ?_
      (repeat (first | refine Or.inl ⟨rfl, rfl, ?_⟩ | refine Or.inl ⟨rfl, ?_⟩ | refine Or.inr ?_))
      refine findR_E ?_
      refine Go_first (v := .int .i64 d) rfl rfl rfl rfl (fun w _ hw => rxLoadRow tabOk rfl (RX.encI_is .i64) rfl (fun h => rfl) hw.2 hgd (by simp only [addA]; rfl) rfl) ?_
      refine VC_sound tabOk 100 ?_
      refine ⟨fun he => ?_, fun he => ?_⟩
      · rw [if_pos (of_decide_eq_true he)] at hst
        refine ⟨_, wrap_i64 (n := ((told.take k).count d : Int) + 1) (by omega) (by omega), ?_⟩
        refine ⟨_, wrap_i64 (n := (k : Int) + 1) (by omega) (by omega), ?_⟩
        exact Go_fin (k + 1) (by omega) (by omega) ⟨rfl, rfl, rfl, by rw [hst]; rfl, rfl, trivial⟩ (fun _ h => h)
      · rw [if_neg (of_decide_eq_false he)] at hst
        refine ⟨_, wrap_i64 (n := (k : Int) + 1) (by omega) (by omega), ?_⟩
        exact Go_fin (k + 1) (by omega) (by omega) ⟨rfl, rfl, rfl, by rw [hst]; rfl, rfl, trivial⟩ (fun _ h => h)
    have hke : told.take k = told := List.take_of_length_le (by omega)
    rw [hke, hcnt]
    refine VC_sound tabOk 100 ?_
    refine ⟨fun h => by first | (simp at h; done) | (simp at h; omega) | (simp_all; done), fun _ => ?_⟩
    refine ⟨fun h => by first | (simp at h; done) | (simp at h; omega) | (simp_all; done), fun _ => ?_⟩
    refine ⟨_, wrap_i64 (n := (y : Int) + 1) (by omega) (by omega), ?_⟩
    exact Go_fin (y + 1) (by omega) (by omega) ⟨rfl, rfl, rfl, trivial⟩ (fun _ h => h)
  refine VC_sound tabOk 100 ?_
  refine ⟨fun h => by first | (simp at h; done) | (simp at h; omega) | (simp_all; done), fun _ => ?_⟩
  exact congrArg Value.bool (decide_eq_true (by rw [htl9]))
end Go.Proofs.YthpcahgdobnljaaGreat
