/- The laws RetryTakes and RetryOrder: what each run comes to. -/
import Derived.Test.YtcombnlddbimoaaL14
import Derived.Test.YtcombnlddbimoaaRxActs
import Derived.KernelRfl
set_option autoImplicit false
set_option linter.unusedVariables false
set_option linter.unusedSimpArgs false
namespace Go.Proofs.Ytcombnlddbimoaa
open Go.RX Go Go.RowKit Go.ChangeShapes Go.WideShapes Go.ChangeAt

structure RtActM where
  d_ : Int
  id : Int
  o : Int
  at_ : Int
  tr : Int
def encA : RtActM → List Value := fun x => [.int .u8 x.d_, .int .u8 x.id, .int .u8 x.o, .int .i64 x.at_, .int .i64 x.tr]
theorem encA_is : IsEnc encA 5 := ⟨fun _ => rfl, fun x v hv => by simp [encA] at hv; rcases hv with rfl | rfl | rfl | rfl | rfl <;> rfl, by decide⟩
abbrev mkA (x : RtActM) : Value := .agg #[.int .u8 x.d_, .int .u8 x.id, .int .u8 x.o, .int .i64 x.at_, .int .i64 x.tr]
def okA (w : World) (x : RtActM) : Prop := (Lit.int .u8 x.d_).wf = true ∧ (Lit.int .u8 x.id).wf = true ∧ (Lit.int .u8 x.o).wf = true ∧ (Lit.int .i64 x.at_).wf = true ∧ (Lit.int .i64 x.tr).wf = true
theorem rd_acts {H : Type} {enc : TypeId × Value → H} {w : World} {base : Nat} {sp : Nat → Bool} {held : Bool} {r : Reach} {b0 : Nat} {v : Value} {d : DataW H} {ps : List MemPlace} (hval : Value.okWide Try.prog w r b0 22 v) (hd : DataW.Trod enc Try.prog w base sp held 22 v d ps) :
    ∃ (A : Option Addr) (c : Nat) (xs : List RtActM), v = .slice A xs.length c ∧ RdW w A (xs.flatMap encA) ∧ (∀ x ∈ xs, okA w x) ∧ xs.length ≤ c ∧ c ≤ maxLen :=
  rd_slice encA_is Try.underlying22 (by kernel_rfl) (fun cs y fuel h => by
    obtain ⟨hl, hf⟩ := rd_struct tabOk (T := 29) rfl h
    rw [show Try.prog.cellsOf 29 = 5 from by kernel_rfl] at hl
    match cs, hl with
    | [v0, v1, v2, v3, v4], _ =>
      obtain ⟨y0, m0, h0⟩ := hf 0 0 5 rfl
      rw [show Try.prog.cellsOf 5 = 1 from by kernel_rfl] at h0
      obtain ⟨z0, e0, _, q0⟩ := DataW.trod_int Try.underlying5 h0
      simp at e0
      subst e0
      obtain ⟨y1, m1, h1⟩ := hf 1 1 5 rfl
      rw [show Try.prog.cellsOf 5 = 1 from by kernel_rfl] at h1
      obtain ⟨z1, e1, _, q1⟩ := DataW.trod_int Try.underlying5 h1
      simp at e1
      subst e1
      obtain ⟨y2, m2, h2⟩ := hf 2 2 5 rfl
      rw [show Try.prog.cellsOf 5 = 1 from by kernel_rfl] at h2
      obtain ⟨z2, e2, _, q2⟩ := DataW.trod_int Try.underlying5 h2
      simp at e2
      subst e2
      obtain ⟨y3, m3, h3⟩ := hf 3 3 2 rfl
      rw [show Try.prog.cellsOf 2 = 1 from by kernel_rfl] at h3
      obtain ⟨z3, e3, _, q3⟩ := DataW.trod_int Try.underlying2 h3
      simp at e3
      subst e3
      obtain ⟨y4, m4, h4⟩ := hf 4 4 3 rfl
      rw [show Try.prog.cellsOf 3 = 1 from by kernel_rfl] at h4
      obtain ⟨z4, e4, _, q4⟩ := DataW.trod_int Try.underlying3 h4
      simp at e4
      subst e4
      exact ⟨⟨z0, z1, z2, z3, z4⟩, rfl, q0, q1, q2, q3, q4⟩) hval hd

theorem tmod_nat14 {n : Int} (m : Int) (hm : 0 < m) (h0 : 0 ≤ n) : ∃ K : Nat, n.tmod m = K ∧ (K : Int) < m := by
  have h1 := Int.tmod_nonneg m h0
  have h2 := Int.tmod_lt_of_pos n hm
  exact ⟨(n.tmod m).toNat, by omega, by omega⟩
def ownT (n : Int) : ByteArray := if n.tmod 7 = 6 then ⟨#[]⟩ else bytesOf [97 + n.tmod 3]
theorem l14_owner (n : Int) (hn : 0 ≤ n ∧ n ≤ 255) (w0 : World) : Calls Try.prog 12 #[.int .u8 n] w0 fun e w' => e = .returned (.string (ownT n)) ∧ BelowD w0.heap.size w0 w' := by
  obtain ⟨K, hK, hK7⟩ := tmod_nat14 7 (by decide) hn.1
  obtain ⟨J, hJ, hJ3⟩ := tmod_nat14 3 (by decide) hn.1
  refine enterP (tab := tab) Try.func12 rfl Try.ntmps12 rfl (args := [_]) rfl ?_
  refine VC_sound tabOk 100 ?_
  refine ⟨by decide, _, hK.symm, ?_⟩
  refine ⟨fun h => ?_, fun h => ?_⟩
  · exact congrArg Value.string (by rw [ownT, if_pos (by rw [hK]; exact of_decide_eq_true h)])
  · refine ⟨by decide, _, hJ.symm, ?_⟩
    refine ⟨_, wrap_u8 (n := 97 + (J : Int)) (by omega) (by omega), ?_⟩
    intro b9 _
    refine Go_ops rfl (OpTo_bytesStr tabOk (ns := [97 + (J : Int)]) rfl rfl rfl rfl rfl rfl (fun w hm _ => hm.blk_rd (i := 0) rfl) ?_)
    refine VC_sound tabOk 100 ?_
    exact congrArg Value.string (by rw [ownT, if_neg (by rw [hK]; exact of_decide_eq_false h), hJ])

/-! ### plain -/
theorem riseT_at {xs : List ItemM} (h : RiseT xs) : xs.Pairwise fun a b => a.at_ ≤ b.at_ := h.imp fun {a b} hab => by
  rw [keyT_lt] at hab
  by_cases h : b.at_ = a.at_
  · omega
  · rw [if_neg h] at hab
    have := of_decide_eq_false hab; omega
theorem due_left (k : Int) : ∀ {xs : List ItemM}, (xs.Pairwise fun a b => a.at_ ≤ b.at_) → ∀ x ∈ xs.drop (dueL k xs).length, k < x.at_
  | [], _, x, hx => by simp at hx
  | y :: r, h, x, hx => by
    obtain ⟨h1, h2⟩ := List.pairwise_cons.1 h
    by_cases hy : y.at_ ≤ k
    · rw [dueL, List.filter_cons_of_pos (by simpa using hy)] at hx
      simp only [List.map_cons, List.length_cons, List.drop_succ_cons] at hx
      exact due_left k h2 x hx
    · have h0 : dueL k (y :: r) = [] := by
        rw [dueL, List.filter_eq_nil_iff.2]
        · rfl
        · intro z hz
          rcases List.mem_cons.1 hz with rfl | hz
          · simpa using hy
          · have := h1 z hz; simp; omega
      rw [h0] at hx
      simp only [List.length_nil, List.drop_zero] at hx
      rcases List.mem_cons.1 hx with rfl | hx
      · omega
      · have := h1 x hx; omega
theorem due_drop (k : Int) {xs : List ItemM} (h : xs.Pairwise fun a b => a.at_ ≤ b.at_) : dueL k (xs.drop (dueL k xs).length) = [] := by
  have hd := due_left k h
  generalize xs.drop (dueL k xs).length = ys at hd
  rw [dueL, List.filter_eq_nil_iff.2]
  · rfl
  · intro z hz; have := hd z hz; simp; omega
theorem riseT_drop {xs : List ItemM} (h : RiseT xs) (n : Nat) : RiseT (xs.drop n) := List.Pairwise.sublist (List.drop_sublist _ _) h

/-- What waits behind some acts: none twice, in order, not more than so many. -/
structure GoodT (i : Nat) (xs : List ItemM) : Prop where
  ok : OkT xs
  rise : RiseT xs
  len : xs.length ≤ i
theorem GoodT.nil : GoodT 0 [] := ⟨List.nodup_nil, List.Pairwise.nil, Nat.le_refl _⟩
theorem GoodT.add {i : Nat} {xs ys : List ItemM} {e : EventM} {o : ByteArray} {at_ : Int} (h : GoodT i xs) (hA : AddT xs e o at_ ys) : GoodT (i + 1) ys := by
  obtain ⟨k1, k2, k3, k4⟩ := hA.ok h.ok h.rise
  refine ⟨k1, k2, ?_⟩
  have := h.len
  by_cases h0 : addE xs e o = 0
  · have := k3 h0; omega
  · rw [k4 h0]; omega

set_option maxHeartbeats 8000000 in
theorem l14_RetryTakes (A0 : Option Addr) (c0 : Nat) (l : List RtActM) (now : Int) (w0 : World) (hr : RdW w0 A0 (l.flatMap encA)) (hok : ∀ z ∈ l, okA w0 z) :
    Calls Try.prog 5 #[.slice A0 l.length c0, .int .i64 now] w0 fun e w' => e = .returned (.bool true) ∧ BelowD w0.heap.size w0 w' := by
  refine enterP (tab := tab) Try.func5 rfl Try.ntmps5 rfl (args := [_, _]) rfl ?_
  refine VC_sound tabOk 100 ?_
  refine Go_ops rfl (OpTo_pcall (v := .bool true) rfl rfl rfl rfl rfl (by kernel_rfl) (fun w hm _ => l14_seven w) ?_)
  refine VC_sound tabOk 100 ?_
  refine ⟨fun h => by first | (simp at h; done) | (simp at h; omega) | (simp_all; done), fun _ => ?_⟩
  refine ⟨fun hc => ?_, fun hc => ?_⟩
  · refine Go_ops rfl (OpTo_pcall (v := .bool true) rfl rfl rfl rfl rfl (by kernel_rfl) (fun w hm _ => l14_seven w) ?_)
    refine VC_sound tabOk 100 ?_
    rfl
  have hl40 : l.length ≤ 40 := by have := of_decide_eq_false hc; omega
  show Go _ _ _ _
  refine Go_ops rfl (OpTo_ncall rfl rfl rfl rfl rfl (by kernel_rfl) (fun w hm _ => retry_new w) ?_)
  rintro _ _ ⟨b, rfl, rfl⟩
  refine VC_sound tabOk 100 ?_
  refine Go_loop (σ := Nat × Option Addr × Nat × List ItemM) (fun s => [(0, .v (.slice A0 l.length c0)), (1, .v (.int .i64 now)), (5, .v (.pointer (some ⟨b, 0, none⟩))), (6, .v (.int .i64 s.1))]) (fun s => rtR b s.2.1 s.2.2.1 s.2.2.2) (fun s => s.1 ≤ l.length ∧ GoodT s.1 s.2.2.2) (fun s => l.length - s.1) (0, none, 0, []) ⟨Nat.zero_le _, GoodT.nil⟩ ⟨rfl, rfl, rfl, rfl, trivial⟩ (fun _ h => h) ?_
  rintro ⟨i, A, c, xs⟩ ⟨hi, hG⟩
  dsimp only at hi hG ⊢
  have hlen := hG.len
  by_cases hlt : i < l.length
  · obtain ⟨ba, oa, rfl⟩ := RdW.some encA_is hr (ne_nil_of_lt hlt)
    obtain ⟨a, hga⟩ : ∃ a, l[i]? = some a := ⟨_, List.getElem?_eq_getElem hlt⟩
    have ho := hok a (List.mem_of_getElem? hga)
    have hid := bounds_u8 ho.2.1
    refine VC_sound tabOk 100 ?_
    refine ⟨fun _ => ?_, fun h => by first | (simp at h; done) | (simp at h; omega) | (simp_all; done)⟩
    show Go _ _ _ _
    refine Go_any mixed [20] [(0, false), (1, false), (2, false), (3, false), (4, false), (8, false), (9, false), (10, false), (11, false), (14, false), (15, false), (16, false), (17, false), (5, false), (6, false), (7, false), (12, false), (18, false), (19, false), (13, true), (20, true)] rfl (by kernel_rfl) (by kernel_rfl) [] (fun w => RdW w (some ⟨ba, oa, none⟩) (l.flatMap encA)) (fun w w' hk h => h.old hk) (fun w hm _ => ⟨trivial, hr.mod hm⟩) ?_
    refine VC_sound tabOk 100 ?_
    refine ⟨⟨by omega, by omega⟩, ?_⟩
    refine ⟨⟨by omega, by omega⟩, ?_⟩
    refine ⟨⟨by omega, by omega⟩, ?_⟩
    refine Go_first (v := .int .u8 a.id) rfl rfl rfl rfl (fun w _ hw => rxLoadPart tabOk rfl encA_is hw hga (off := 1) rfl (by simp only [addA]; rfl)) ?_
    refine VC_sound tabOk 100 ?_
    refine ⟨_, wrap_i64 (n := a.id) (by omega) (by omega), ?_⟩
    refine Go_first (v := .int .u8 a.o) rfl rfl rfl rfl (fun w _ hw => rxLoadPart tabOk rfl encA_is hw hga (off := 2) rfl (by simp only [addA]; rfl)) ?_
    refine VC_sound tabOk 100 ?_
    refine Go_first (v := .int .i64 a.at_) rfl rfl rfl rfl (fun w _ hw => rxLoadPart tabOk rfl encA_is hw hga (off := 3) rfl (by simp only [addA]; rfl)) ?_
    refine VC_sound tabOk 100 ?_
    refine ⟨by decide, _, rfl, ?_⟩
    refine Go_aloneL rfl rfl (OpTo_pcall (v := .string (ownT a.o)) rfl rfl rfl rfl rfl (by kernel_rfl) (fun w hm _ => l14_owner a.o (bounds_u8 ho.2.2.1) w) ?_)
    refine And.intro (fun w hm _ => ⟨trivial, hr.mod hm⟩) ?_
    refine VC_sound tabOk 100 ?_
    refine Go_aloneM rfl rfl rfl (OpTo_mcall (rtR b A c xs) [] (List.Perm.of_eq (by simp)) rfl rfl rfl rfl rfl (by kernel_rfl) (fun w hb hm hio hsp k => retry_add b A c xs (evI a.id) (ownT a.o) (a.at_.tmod 20) (by omega) (Int.le_refl 0) w _ k) ?_)
    rintro _ _ ⟨A2, c2, ys, rfl, hA, rfl⟩
    refine VC_sound tabOk 100 ?_
    refine ⟨_, wrap_i64 (n := (i : Int) + 1) (by omega) (by omega), ?_⟩
    exact Go_fin (i + 1, A2, c2, ys) ⟨by dsimp only; omega, hG.add hA⟩ (by dsimp only; omega) ⟨rfl, rfl, rfl, rfl, trivial⟩ (fun _ h => h.sel [0, 1] rfl)
  refine VC_sound tabOk 100 ?_
  refine ⟨fun h => by first | (simp at h; done) | (simp at h; omega) | (simp_all; done), fun _ => ?_⟩
  have hrise := riseT_at hG.rise
  show Go _ _ _ _
  refine Go_ops rfl (OpTo_ncall rfl rfl rfl rfl rfl (by kernel_rfl) (fun w hm _ => retry_all b A c xs w (hm.blk_at (i := 0) rfl) (hm.own_rd (i := 1) rfl) (by omega)) ?_)
  rintro _ _ ⟨A2, c2, rfl, rfl⟩
  refine VC_sound tabOk 100 ?_
  refine ⟨by decide, now.tmod 22, rfl, ?_⟩
  generalize now.tmod 22 = k
  have hdl := dueL_len k xs
  show Go _ _ _ _
  refine Go_ops rfl (OpTo_ncall rfl rfl rfl rfl rfl (by kernel_rfl) (fun w hm _ => retry_due b A c xs k w (hm.blk_at (i := 1) rfl) (hm.own_rd (i := 2) rfl) (by omega)) ?_)
  rintro _ _ ⟨A3, c3, rfl, rfl⟩
  refine VC_sound tabOk 100 ?_
  refine Go_sel [0, 2, 3] rfl ?_
  show Go _ _ _ _
  refine Go_ops rfl (OpTo_mcall (rtR b A c xs) [own encE 8 33 A3 c3 (dueL k xs)] (List.perm_append_comm (l₁ := [_]) (l₂ := rtR b A c xs)) rfl rfl rfl rfl rfl (by kernel_rfl) (fun w hb hm hio hsp k' => retry_take b A c xs k (by omega) w _ k') ?_)
  rintro _ _ ⟨A4, c4, A5, c5, rfl, rfl⟩
  refine VC_sound tabOk 100 ?_
  have hleft := due_left k hrise
  have hrl := riseT_drop hG.rise (dueL k xs).length
  have hll : (xs.drop (dueL k xs).length).length = xs.length - (dueL k xs).length := by simp
  have hdd := due_drop k hrise
  generalize xs.drop (dueL k xs).length = ls at hleft hrl hll hdd ⊢
  show Go _ _ _ _
  refine Go_ops rfl (OpTo_ncall rfl rfl rfl rfl rfl (by kernel_rfl) (fun w hm _ => retry_all b A5 c5 ls w (hm.blk_at (i := 1) rfl) (hm.own_rd (i := 2) rfl) (by omega)) ?_)
  rintro _ _ ⟨A6, c6, rfl, rfl⟩
  refine VC_sound tabOk 100 ?_
  refine Go_loop (σ := Nat) (fun i => [(5, .v (.pointer (some ⟨b, 0, none⟩))), (7, .v (.int .i64 xs.length)), (8, .v (.int .i64 k)), (9, .v (.slice A3 (dueL k xs).length c3)), (10, .v (.slice A4 (dueL k xs).length c4)), (11, .v (.slice A6 ls.length c6)), (12, .v (.int .i64 i))]) (fun _ => [own encT 9 38 A6 c6 ls, own encE 8 33 A4 c4 (dueL k xs), .blk b 54 [.slice A5 ls.length c5], own encT 9 38 A5 c5 ls, own encE 8 33 A3 c3 (dueL k xs)]) (fun i => i ≤ ls.length) (fun i => ls.length - i) 0 (Nat.zero_le _) ⟨rfl, rfl, rfl, rfl, rfl, rfl, rfl, trivial⟩ (fun _ h => h) ?_
  intro i hi
  dsimp only at hi ⊢
  by_cases hlt2 : i < ls.length
  · obtain ⟨x, hgx⟩ : ∃ a, ls[i]? = some a := ⟨_, List.getElem?_eq_getElem hlt2⟩
    have hx := hleft x (List.mem_of_getElem? hgx)
    refine Go_with _ (fun w hm _ => hm.own_some (i := 0) rfl (ne_nil_of_lt hlt2)) ?_
    rintro ⟨b6, o6, rfl⟩
    refine VC_sound tabOk 100 ?_
    refine ⟨fun _ => ?_, fun h => by first | (simp at h; done) | (simp at h; omega) | (simp_all; done)⟩
    show Go _ _ _ _
    refine Go_any mixed [] [(0, false), (1, false), (2, false), (3, false), (5, false), (4, false), (6, false), (7, false), (8, false), (9, false), (10, false), (11, false), (12, false), (13, false), (14, false), (15, false), (17, false), (18, false), (19, false), (20, false), (16, false), (21, false), (22, false), (23, false), (24, false)] rfl (by kernel_rfl) (by kernel_rfl) [] (fun w => RdW w (some ⟨b6, o6, none⟩) (ls.flatMap encT)) (fun w w' hk h => h.old hk) (fun w hm _ => ⟨trivial, by exact Mod.own_rd (k := 9) (T := 38) (c := c6) (i := 0) hm rfl⟩) ?_
    refine VC_sound tabOk 100 ?_
    refine ⟨⟨by omega, by omega⟩, ?_⟩
    refine Go_first (v := .int .i64 x.at_) rfl rfl rfl rfl (fun w _ hw => rxLoadPart tabOk rfl encT_is hw hgx (off := 0) rfl (by simp only [addA]; rfl)) ?_
    refine VC_sound tabOk 100 ?_
    refine ⟨fun h => by first | (simp at h; done) | (simp at h; omega) | (simp_all; done), fun _ => ?_⟩
    refine ⟨fun hi0 => ?_, fun hi0 => ?_⟩
    · have hi0' : 0 < i := by have := of_decide_eq_true hi0; omega
      obtain ⟨y, hgy⟩ : ∃ a, ls[i - 1]? = some a := ⟨_, List.getElem?_eq_getElem (by omega)⟩
      have hidx : ((i : Int) - 1).toNat = i - 1 := by omega
      have hyx : y.at_ ≤ x.at_ := by
        obtain ⟨e1, rfl⟩ := List.getElem?_eq_some_iff.1 hgy
        obtain ⟨e2, rfl⟩ := List.getElem?_eq_some_iff.1 hgx
        exact List.pairwise_iff_getElem.1 (riseT_at hrl) (i - 1) i e1 e2 (by omega)
      refine ⟨_, wrap_i64 (n := (i : Int) - 1) (by omega) (by omega), ?_⟩
      refine ⟨⟨by omega, by omega⟩, ?_⟩
      refine ⟨⟨by omega, by omega⟩, ?_⟩
      refine Go_first (v := .int .i64 y.at_) rfl rfl rfl rfl (fun w _ hw => rxLoadPart tabOk rfl encT_is hw hgy (off := 0) rfl (by simp only [addA, hidx])) ?_
      refine VC_sound tabOk 100 ?_
      refine Go_first (v := .int .i64 x.at_) rfl rfl rfl rfl (fun w _ hw => rxLoadPart tabOk rfl encT_is hw hgx (off := 0) rfl (by simp only [addA]; rfl)) ?_
      refine VC_sound tabOk 100 ?_
      refine ⟨fun h => by first | (simp at h; done) | (simp at h; omega) | (simp_all; done), fun _ => ?_⟩
      refine ⟨_, wrap_i64 (n := (i : Int) + 1) (by omega) (by omega), ?_⟩
      exact Go_fin (i + 1) (by omega) (by omega) ⟨rfl, rfl, rfl, rfl, rfl, rfl, rfl, trivial⟩ (fun _ h => h)
    · refine ⟨_, wrap_i64 (n := (i : Int) + 1) (by omega) (by omega), ?_⟩
      exact Go_fin (i + 1) (by omega) (by omega) ⟨rfl, rfl, rfl, rfl, rfl, rfl, rfl, trivial⟩ (fun _ h => h)
  refine VC_sound tabOk 100 ?_
  refine ⟨fun h => by first | (simp at h; done) | (simp at h; omega) | (simp_all; done), fun _ => ?_⟩
  refine Go_ops rfl (OpTo_pcall (v := .bool true) rfl rfl rfl rfl rfl (by kernel_rfl) (fun w hm _ => r09_same A3 A4 c3 c4 (dueL k xs) w (hm.own_rd (i := 4) rfl) (hm.own_rd (i := 1) rfl) (by omega)) ?_)
  refine VC_sound tabOk 100 ?_
  refine ⟨fun _ => ?_, fun h => by simp at h⟩
  refine ⟨_, wrap_i64 (n := ((dueL k xs).length : Int) + ls.length) (by omega) (by omega), ?_⟩
  refine ⟨fun _ => ?_, fun h => by first | (simp at h; done) | (simp at h; omega) | (simp_all; done)⟩
  show Go _ _ _ _
  refine Go_ops rfl (OpTo_ncall rfl rfl rfl rfl rfl (by kernel_rfl) (fun w hm _ => hdd ▸ retry_due b A5 c5 ls k w (hm.blk_at (i := 2) rfl) (hm.own_rd (i := 3) rfl) (by omega)) ?_)
  rintro _ _ ⟨A7, c7, rfl, rfl⟩
  refine VC_sound tabOk 100 ?_
  rfl
end Go.Proofs.Ytcombnlddbimoaa
