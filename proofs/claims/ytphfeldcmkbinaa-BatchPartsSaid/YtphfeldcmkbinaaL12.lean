/- The laws of layer 12: events, the example, BatchNone. -/
import Derived.Test.YtphfeldcmkbinaaBatch
import Derived.Test.YtphfeldcmkbinaaRxActs
import Derived.KernelRfl
set_option autoImplicit false
set_option linter.unusedVariables false
set_option linter.unusedSimpArgs false
namespace Go.Proofs.Ytphfeldcmkbinaa
open Go.RX Go Go.RowKit Go.ChangeShapes Go.WideShapes Go.ChangeAt

structure BActM where
  id : Int
  tx : Int
  o : Int
def encA : BActM → List Value := fun x => [.int .i64 x.id, .int .u8 x.tx, .int .u8 x.o]
theorem encA_is : IsEnc encA 3 := ⟨fun _ => rfl, fun x v hv => by simp [encA] at hv; rcases hv with rfl | rfl | rfl <;> rfl, by decide⟩
abbrev mkA (x : BActM) : Value := .agg #[.int .i64 x.id, .int .u8 x.tx, .int .u8 x.o]
def okA (w : World) (x : BActM) : Prop := (Lit.int .i64 x.id).wf = true ∧ (Lit.int .u8 x.tx).wf = true ∧ (Lit.int .u8 x.o).wf = true
theorem rd_acts {H : Type} {enc : TypeId × Value → H} {w : World} {base : Nat} {sp : Nat → Bool} {held : Bool} {r : Reach} {b0 : Nat} {v : Value} {d : DataW H} {ps : List MemPlace} (hval : Value.okWide Try.prog w r b0 22 v) (hd : DataW.Trod enc Try.prog w base sp held 22 v d ps) :
    ∃ (A : Option Addr) (c : Nat) (xs : List BActM), v = .slice A xs.length c ∧ RdW w A (xs.flatMap encA) ∧ (∀ x ∈ xs, okA w x) ∧ xs.length ≤ c ∧ c ≤ maxLen :=
  rd_slice encA_is Try.underlying22 (by kernel_rfl) (fun cs y fuel h => by
    obtain ⟨hl, hf⟩ := rd_struct tabOk (T := 62) rfl h
    rw [show Try.prog.cellsOf 62 = 3 from by kernel_rfl] at hl
    match cs, hl with
    | [v0, v1, v2], _ =>
      obtain ⟨y0, m0, h0⟩ := hf 0 0 2 rfl
      rw [show Try.prog.cellsOf 2 = 1 from by kernel_rfl] at h0
      obtain ⟨z0, e0, _, q0⟩ := DataW.trod_int Try.underlying2 h0
      simp at e0
      subst e0
      obtain ⟨y1, m1, h1⟩ := hf 1 1 5 rfl
      rw [show Try.prog.cellsOf 5 = 1 from by kernel_rfl] at h1
      obtain ⟨z1, e1, _, q1⟩ := DataW.trod_int Try.underlying5 h1
      simp at e1
      subst e1
      obtain ⟨y2, m2, h2⟩ := hf 2 2 5 rfl
      rw [show Try.prog.cellsOf 5 = 1 from by kernel_rfl] at h2
      obtain ⟨z2, e2, _, q2⟩ := DataW.trod_int Try.underlying5 h2
      simp at e2
      subst e2
      exact ⟨⟨z0, z1, z2⟩, rfl, q0, q1, q2⟩) hval hd

theorem tmod_nat {n : Int} (m : Int) (hm : 0 < m) (h0 : 0 ≤ n) : ∃ K : Nat, n.tmod m = K ∧ (K : Int) < m := by
  have h1 := Int.tmod_nonneg m h0
  have h2 := Int.tmod_lt_of_pos n hm
  exact ⟨(n.tmod m).toNat, by omega, by omega⟩
def ownB (k : Int) : ByteArray := if k = 0 then ⟨#[97]⟩ else if k = 1 then ⟨#[98]⟩ else emptyS
def evB (a : BActM) (i : Int) : EventM := ⟨a.id.tmod 40, a.tx.tmod 24, ownB (a.o.tmod 6), 0, i, 0, 0, emptyS⟩
def evsTo (l : List BActM) : Nat → List EventM
  | 0 => []
  | i + 1 => evsTo l i ++ (match l[i]? with | some a => [evB a i] | none => [])
theorem evsTo_len (l : List BActM) : ∀ i, i ≤ l.length → (evsTo l i).length = i
  | 0, _ => rfl
  | i + 1, h => by
    have := evsTo_len l i (by omega)
    simp only [evsTo, List.getElem?_eq_getElem (show i < l.length from h), List.length_append, this]; rfl
abbrev evsB (l : List BActM) : List EventM := evsTo l l.length

set_option maxHeartbeats 4000000 in
theorem l12_events (A : Option Addr) (c : Nat) (l : List BActM) (w0 : World) (hr : RdW w0 A (l.flatMap encA)) (hok : ∀ z ∈ l, okA w0 z) (hl : l.length ≤ 10000) :
    Calls Try.prog 12 #[.slice A l.length c] w0 fun e w' => ∃ v Rs', e = .returned v ∧ rowEQ (evsB l) v Rs' ∧ Mod [heapOf w0] Rs' w' ∧ Oth w0 w' := by
  refine enterN (tab := tab) Try.func12 rfl Try.ntmps12 rfl (args := [_]) rfl (Mod.start w0) ?_
  refine VC_sound tabOk 100 ?_
  refine Go_loop (σ := Nat × Option Addr × Nat) (fun s => [(0, .v (.slice A l.length c)), (3, .v (.slice s.2.1 (evsTo l s.1).length s.2.2)), (4, .v (.int .i64 s.1))]) (fun s => [own encE 8 42 s.2.1 s.2.2 (evsTo l s.1)]) (fun s => s.1 ≤ l.length) (fun s => l.length - s.1) (0, none, 0) (Nat.zero_le _) ⟨rfl, rfl, rfl, trivial⟩ (fun _ h => h.own_nil none) ?_
  rintro ⟨i, A', c'⟩ hi
  dsimp only at hi ⊢
  have hel := evsTo_len l i hi
  by_cases hlt : i < l.length
  · obtain ⟨b, of, rfl⟩ := RdW.some encA_is hr (ne_nil_of_lt hlt)
    obtain ⟨a, hga⟩ : ∃ e, l[i]? = some e := ⟨_, List.getElem?_eq_getElem hlt⟩
    have ho := hok a (List.mem_of_getElem? hga)
    obtain ⟨T, hT, hT24⟩ := tmod_nat 24 (by decide) (bounds_u8 ho.2.1).1
    obtain ⟨O, hO, hO6⟩ := tmod_nat 6 (by decide) (bounds_u8 ho.2.2).1
    have hstep : ∀ s : ByteArray, s = ownB (a.o.tmod 6) → evsTo l (i + 1) = evsTo l i ++ [⟨a.id.tmod 40, T, s, 0, i, 0, 0, emptyS⟩] := fun s hs => by
      simp only [evsTo, hga, evB, hs, hT]
    refine VC_sound tabOk 100 ?_
    refine ⟨fun _ => ?_, fun h => by first | (simp at h; done) | (simp at h; omega) | (simp_all; done)⟩
    show Go _ _ _ _
    refine Go_any mixed [16] [(0, false), (1, false), (2, false), (3, false), (6, false), (7, false), (8, false), (9, false), (13, false), (4, false), (5, false), (10, false), (11, false), (12, false), (14, false), (15, true), (16, true)] rfl (by kernel_rfl) (by kernel_rfl) [] (fun w => RdW w (some ⟨b, of, none⟩) (l.flatMap encA)) (fun w w' hk h => h.old hk) (fun w hm _ => ⟨trivial, hr.mod hm⟩) ?_
    refine VC_sound tabOk 100 ?_
    refine ⟨⟨by omega, by omega⟩, ?_⟩
    refine ⟨⟨by omega, by omega⟩, ?_⟩
    refine Go_first (v := .int .i64 a.id) rfl rfl rfl rfl (fun w _ hw => rxLoadPart tabOk rfl encA_is hw hga (off := 0) rfl (by simp only [addA]; rfl)) ?_
    refine VC_sound tabOk 100 ?_
    refine ⟨by decide, _, rfl, ?_⟩
    refine Go_first (v := .int .u8 a.tx) rfl rfl rfl rfl (fun w _ hw => rxLoadPart tabOk rfl encA_is hw hga (off := 1) rfl (by simp only [addA]; rfl)) ?_
    refine VC_sound tabOk 100 ?_
    refine ⟨by decide, _, hT.symm, ?_⟩
    refine ⟨_, wrap_i64 (n := (T : Int)) (by omega) (by omega), ?_⟩
    intro b5 _
    (repeat (first | refine Or.inl ⟨rfl, rfl, ?_⟩ | refine Or.inl ⟨rfl, ?_⟩ | refine Or.inr ?_))
    refine ⟨⟨by omega, by omega⟩, ?_⟩
    (repeat (first | refine Or.inl ⟨rfl, rfl, ?_⟩ | refine Or.inl ⟨rfl, ?_⟩ | refine Or.inr ?_))
    refine Go_ops rfl (OpTo_loadPart tabOk encA_is (n := i) (j := 2) (.int .u8 a.o) rfl rfl rfl (fun w hm _ => hr.mod hm) hga rfl (by simp only [addA]; rfl) ?_)
    refine VC_sound tabOk 100 ?_
    refine ⟨by decide, _, hO.symm, ?_⟩
    refine ⟨fun h0 => ?_, fun h0 => ?_⟩
    · have h0' : O = 0 := by simp at h0; omega
      have hs := hstep ⟨#[97]⟩ (by rw [hO, h0']; rfl)
      (repeat (first | refine Or.inl ⟨rfl, rfl, ?_⟩ | refine Or.inl ⟨rfl, ?_⟩ | refine Or.inr ?_))
      intro b41 _
      show Go _ _ _ _
      refine Go_ops rfl (OpTo_append tabOk encE_is (ys := [⟨a.id.tmod 40, T, ⟨#[97]⟩, 0, i, 0, 0, emptyS⟩]) (i := 2) rfl rfl rfl rfl rfl rfl rfl rfl rfl rfl rfl (fun w hm _ => hm.blk_rd (i := 0) rfl) (by simp; omega) (by simp; omega) (fun A2 c2 => ?_))
      refine VC_sound tabOk 100 ?_
      refine ⟨_, wrap_i64 (n := (i : Int) + 1) (by omega) (by omega), ?_⟩
      refine Go_fin (i + 1, A2, c2) (by dsimp only; omega) (by dsimp only; omega) ⟨rfl, ?_, rfl, trivial⟩ (fun _ h => by dsimp only; rw [hs]; exact h.sel [2] rfl)
      dsimp only; rw [hs, List.length_append]; rfl
    · have h0' : O ≠ 0 := by simp at h0; omega
      refine ⟨fun h1 => ?_, fun h1 => ?_⟩
      · have h1' : O = 1 := by simp at h1; omega
        have hs := hstep ⟨#[98]⟩ (by rw [hO, h1']; rfl)
        (repeat (first | refine Or.inl ⟨rfl, rfl, ?_⟩ | refine Or.inl ⟨rfl, ?_⟩ | refine Or.inr ?_))
        intro b41 _
        show Go _ _ _ _
        refine Go_ops rfl (OpTo_append tabOk encE_is (ys := [⟨a.id.tmod 40, T, ⟨#[98]⟩, 0, i, 0, 0, emptyS⟩]) (i := 2) rfl rfl rfl rfl rfl rfl rfl rfl rfl rfl rfl (fun w hm _ => hm.blk_rd (i := 0) rfl) (by simp; omega) (by simp; omega) (fun A2 c2 => ?_))
        refine VC_sound tabOk 100 ?_
        refine ⟨_, wrap_i64 (n := (i : Int) + 1) (by omega) (by omega), ?_⟩
        refine Go_fin (i + 1, A2, c2) (by dsimp only; omega) (by dsimp only; omega) ⟨rfl, ?_, rfl, trivial⟩ (fun _ h => by dsimp only; rw [hs]; exact h.sel [2] rfl)
        dsimp only; rw [hs, List.length_append]; rfl
      · have h1' : O ≠ 1 := by simp at h1; omega
        have hs := hstep emptyS (by rw [hO, ownB, if_neg (by omega), if_neg (by omega)])
        (repeat (first | refine Or.inl ⟨rfl, rfl, ?_⟩ | refine Or.inl ⟨rfl, ?_⟩ | refine Or.inr ?_))
        intro b41 _
        show Go _ _ _ _
        refine Go_ops rfl (OpTo_append tabOk encE_is (ys := [⟨a.id.tmod 40, T, emptyS, 0, i, 0, 0, emptyS⟩]) (i := 2) rfl rfl rfl rfl rfl rfl rfl rfl rfl rfl rfl (fun w hm _ => hm.blk_rd (i := 0) rfl) (by simp; omega) (by simp; omega) (fun A2 c2 => ?_))
        refine VC_sound tabOk 100 ?_
        refine ⟨_, wrap_i64 (n := (i : Int) + 1) (by omega) (by omega), ?_⟩
        refine Go_fin (i + 1, A2, c2) (by dsimp only; omega) (by dsimp only; omega) ⟨rfl, ?_, rfl, trivial⟩ (fun _ h => by dsimp only; rw [hs]; exact h.sel [2] rfl)
        dsimp only; rw [hs, List.length_append]; rfl
  refine VC_sound tabOk 100 ?_
  refine ⟨fun h => by first | (simp at h; done) | (simp at h; omega) | (simp_all; done), fun _ => ?_⟩
  have he : i = l.length := by omega
  subst he
  exact ⟨_, ⟨A', c', rfl, rfl⟩, fun _ _ h => h⟩

def ev51 : EventM := ⟨5, 1, emptyS, 0, 0, 0, 0, emptyS⟩
theorem Srt.len {xs ys : List EventM} (h : Srt xs ys) : ys.length = xs.length := h.2.2
set_option maxHeartbeats 4000000 in
theorem l12_seen (w0 : World) : Calls Try.prog 9 #[] w0 fun e w' => e = .returned (.bool true) ∧ BelowD w0.heap.size w0 w' := by
  refine enterP (tab := tab) Try.func9 rfl Try.ntmps9 rfl (args := []) rfl ?_
  refine VC_sound tabOk 100 ?_
  show Go _ _ _ _
  refine Go_ops rfl (OpTo_ncall rfl rfl rfl rfl rfl (by kernel_rfl) (fun w hm _ => txn_new w) ?_)
  rintro _ _ ⟨m, b1, b2, rfl, rfl⟩
  refine VC_sound tabOk 100 ?_
  show Go _ _ _ _
  refine Go_ops rfl (OpTo_mcall (txB m b1 b2 ⟨1, [], []⟩) [] (List.Perm.of_eq (by simp)) rfl rfl rfl rfl rfl (by kernel_rfl) (fun w hb hm hio hsp k => txn_begin_ok m b1 b2 ⟨1, [], []⟩ ⟨by decide, by decide⟩ (by decide) (by simp) w _ k) ?_)
  rintro _ _ ⟨rfl, rfl⟩
  refine VC_sound tabOk 100 ?_
  show Go _ _ _ _
  refine Go_ops rfl (OpTo_mcall (txB m b1 b2 ⟨2, [1], []⟩) [] (List.Perm.of_eq rfl) rfl rfl rfl rfl rfl (by kernel_rfl) (fun w hb hm hio hsp k => txn_commit_ok m b1 b2 ⟨2, [1], []⟩ 1 (by simp) w _ k) ?_)
  rintro _ _ ⟨rfl, rfl⟩
  refine VC_sound tabOk 100 ?_
  intro b11 _
  intro b3 _
  intro b4 _
  (repeat (first | refine Or.inl ⟨rfl, rfl, ?_⟩ | refine Or.inl ⟨rfl, ?_⟩ | refine Or.inr ?_))
  refine Go_res [.blk b4 31 [.int .i64 2, .slice none 0 0], .blk b3 31 [.int .i64 1, .slice none 0 0], .blk b11 42 (encE ev51), .blk m 76 [.int .i64 2, .map (some b1), .map (some b2)], mpR KI Value.bool b1 (tm []), mpR KI Value.bool b2 (tm [1])] (fun _ h => h) ?_
  have hst : ∀ {w : World} {hfs : List PH}, Mod hfs [.blk b4 31 [.int .i64 2, .slice none 0 0], .blk b3 31 [.int .i64 1, .slice none 0 0], .blk b11 42 (encE ev51), .blk m 76 [.int .i64 2, .map (some b1), .map (some b2)], mpR KI Value.bool b1 (tm []), mpR KI Value.bool b2 (tm [1])] w → StOk w (.pointer (some ⟨m, 0, none⟩)) (stE ⟨2, [], [1]⟩) := fun hm =>
    StOk.some (s := ⟨2, [], [1]⟩) (hm.blk_at (i := 3) rfl) (MpAt.of_mod (i := 4) hm rfl) (MpAt.of_mod (i := 5) hm rfl)
  have hst1 : stE ⟨2, [], [1]⟩ 1 = 2 := by simp [stE]
  refine VC_sound tabOk 100 ?_
  (repeat (first | refine Or.inl ⟨rfl, rfl, ?_⟩ | refine Or.inl ⟨rfl, ?_⟩ | refine Or.inr ?_))
  show Go _ _ _ _
  refine Go_ops rfl (OpTo_ncall rfl rfl rfl rfl rfl (by kernel_rfl) (fun w hm _ => batch_of (some ⟨b11, 0, none⟩) 1 [ev51] (.pointer (some ⟨m, 0, none⟩)) (stE ⟨2, [], [1]⟩) ⟨2, none, 0, []⟩ ⟨2, none, 0, []⟩ emptyS w (hm.blk_rd (i := 2) rfl) (by decide) (hst hm) ⟨.inl rfl, by decide⟩ ⟨.inl rfl, by decide⟩) ?_)
  rintro _ _ ⟨ys, hs, A1, c1, rfl, rfl⟩
  have hl := hs.len
  rw [show [ev51].filter (bofP (stE ⟨2, [], [1]⟩) ⟨2, none, 0, []⟩ ⟨2, none, 0, []⟩ emptyS) = [] from by simp [bofP]] at hl
  have hl' : ys.length = 0 := hl
  refine VC_sound tabOk 100 ?_
  refine ⟨fun _ => ?_, fun h => by rw [hl'] at h; simp at h⟩
  (repeat (first | refine Or.inl ⟨rfl, rfl, ?_⟩ | refine Or.inl ⟨rfl, ?_⟩ | refine Or.inr ?_))
  show Go _ _ _ _
  refine Go_ops rfl (OpTo_ncall rfl rfl rfl rfl rfl (by kernel_rfl) (fun w hm _ => batch_of (some ⟨b11, 0, none⟩) 1 [ev51] (.pointer (some ⟨m, 0, none⟩)) (stE ⟨2, [], [1]⟩) ⟨1, none, 0, []⟩ ⟨2, none, 0, []⟩ emptyS w (hm.blk_rd (i := 3) rfl) (by decide) (hst (hm.sel [1, 2, 3, 4, 5, 6] rfl)) ⟨.inl rfl, by decide⟩ ⟨.inl rfl, by decide⟩) ?_)
  rintro _ _ ⟨zs, hz, A2, c2, rfl, rfl⟩
  have hl2 := hz.len
  rw [show [ev51].filter (bofP (stE ⟨2, [], [1]⟩) ⟨1, none, 0, []⟩ ⟨2, none, 0, []⟩ emptyS) = [ev51] from by simp [bofP, SnM.sees, snSees, dueB, bsEq, ev51, hst1]] at hl2
  have hl2' : zs.length = 1 := hl2
  refine VC_sound tabOk 100 ?_
  exact congrArg Value.bool (by rw [hl2']; rfl)

set_option maxHeartbeats 4000000 in
theorem l12_BatchNone (A : Option Addr) (c : Nat) (l : List BActM) (a : Int) (w0 : World) (hr : RdW w0 A (l.flatMap encA)) (hok : ∀ z ∈ l, okA w0 z) (ha : 0 ≤ a ∧ a ≤ 255) :
    Calls Try.prog 6 #[.slice A l.length c, .int .u8 a] w0 fun e w' => e = .returned (.bool true) ∧ BelowD w0.heap.size w0 w' := by
  refine enterP (tab := tab) Try.func6 rfl Try.ntmps6 rfl (args := [_, _]) rfl ?_
  refine VC_sound tabOk 100 ?_
  refine Go_ops rfl (OpTo_pcall (v := .bool true) rfl rfl rfl rfl rfl (by kernel_rfl) (fun w hm _ => l12_seen w) ?_)
  refine VC_sound tabOk 100 ?_
  refine ⟨fun h => by first | (simp at h; done) | (simp at h; omega) | (simp_all; done), fun _ => ?_⟩
  refine ⟨fun hc => ?_, fun hc => ?_⟩
  · refine Go_ops rfl (OpTo_pcall (v := .bool true) rfl rfl rfl rfl rfl (by kernel_rfl) (fun w hm _ => l12_seen w) ?_)
    refine VC_sound tabOk 100 ?_
    rfl
  have hl60 : l.length ≤ 60 := by simp at hc; omega
  have hel : (evsB l).length = l.length := evsTo_len l l.length (Nat.le_refl _)
  show Go _ _ _ _
  refine Go_ops rfl (OpTo_ncall rfl rfl rfl rfl rfl (by kernel_rfl) (fun w hm _ => l12_events A c l w (hr.mod hm) hok (by omega)) ?_)
  rintro _ _ ⟨A1, c1, rfl, rfl⟩
  refine VC_sound tabOk 100 ?_
  refine ⟨_, wrap_i64 (n := a) (by omega) (by omega), ?_⟩
  refine ⟨_, wrap_i64 (n := 1 + a) (by omega) (by omega), ?_⟩
  intro b6 _
  (repeat (first | refine Or.inl ⟨rfl, rfl, ?_⟩ | refine Or.inl ⟨rfl, ?_⟩ | refine Or.inr ?_))
  show Go _ _ _ _
  refine Go_ops rfl (OpTo_ncall rfl rfl rfl rfl rfl (by kernel_rfl) (fun w hm _ => batch_of A1 c1 (evsB l) (.pointer none) (fun _ => 0) ⟨1, none, 0, []⟩ ⟨1 + a, none, 0, []⟩ ⟨#[97]⟩ w (hm.own_rd (i := 1) rfl) (by omega) (StOk.none w) ⟨.inl rfl, by simp⟩ ⟨.inl rfl, by simp⟩) ?_)
  rintro _ _ ⟨ys, hs, A2, c2, rfl, rfl⟩
  have hl := hs.len
  rw [show (evsB l).filter (bofP (fun _ => 0) ⟨1, none, 0, []⟩ ⟨1 + a, none, 0, []⟩ ⟨#[97]⟩) = [] from List.filter_eq_nil_iff.2 fun e _ => by simp [bofP]] at hl
  have hl' : ys.length = 0 := hl
  refine VC_sound tabOk 100 ?_
  refine ⟨fun _ => ?_, fun h => by rw [hl'] at h; simp at h⟩
  (repeat (first | refine Or.inl ⟨rfl, rfl, ?_⟩ | refine Or.inl ⟨rfl, ?_⟩ | refine Or.inr ?_))
  intro b30 _
  have hfree : freeB (fun _ => 0) [⟨1 + a, none, 0, []⟩] (evsB l) = true := by
    simp [freeB, needsB]
  refine Go_ops rfl (OpTo_pcall (v := .bool true) rfl rfl rfl rfl rfl (by kernel_rfl) (fun w hm _ => (hfree ▸ batch_free A1 c1 (evsB l) none (fun _ => 0) (some ⟨b30, 0, none⟩) 1 [⟨1 + a, none, 0, []⟩] w (hm.own_rd (i := 3) rfl) (by omega) (StOk.none w) (hm.blk_rd (i := 0) rfl) (by simp) (fun x hx => by simp at hx; subst hx; exact ⟨.inl rfl, by simp⟩))) ?_)
  refine VC_sound tabOk 100 ?_
  rfl
end Go.Proofs.Ytphfeldcmkbinaa
