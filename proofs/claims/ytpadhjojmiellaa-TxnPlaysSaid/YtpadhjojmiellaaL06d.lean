/- The law TxnPlays: what its run comes to. -/
import Derived.Test.YtpadhjojmiellaaL06c
set_option autoImplicit false
set_option linter.unusedVariables false
set_option linter.unusedSimpArgs false
namespace Go.Proofs.Ytpadhjojmiellaa
open Go.RX Go Go.RowKit Go.ChangeShapes Go.WideShapes Go.ChangeAt


theorem tmod_nat6 (k : Nat) (hk : 0 < k) {n : Int} (h : 0 ≤ n) : ∃ K : Nat, n.tmod k = K ∧ K < k := by
  have h1 := Int.tmod_nonneg (k : Int) h
  have h2 := Int.tmod_lt_of_pos n (b := (k : Int)) (by omega)
  exact ⟨(n.tmod k).toNat, by omega, by omega⟩

theorem posF_rise {k : Int} : ∀ {R : List Int} {n : Int}, (posF k R n).Pairwise (fun a b : Int => a < b)
  | [], _ => List.Pairwise.nil
  | y :: r, n => by
    have ih := posF_rise (k := k) (R := r) (n := n + 1)
    simp only [posF]
    split
    · rw [List.singleton_append, List.pairwise_cons]
      refine ⟨fun z hz => ?_, ih⟩
      have := (posF_mem.1 hz).1; omega
    · exact ih
theorem same_int {xs ys : List Int} (h : xs.Perm ys) : SameBy (fun x => x) xs ys := fun q => by
  have hp := h.filter fun x => decide (x = q)
  have e : ∀ zs : List Int, (zs.filter fun x => decide (x = q)) = List.replicate (zs.filter fun x => decide (x = q)).length q := fun zs =>
    List.eq_replicate_iff.2 ⟨rfl, fun b hb => by simpa using (List.mem_filter.1 hb).2⟩
  rw [e xs, e ys, hp.length_eq]
theorem open_is {ks : List Int} {R : List Int} (hp : ks.Perm (pos 1 R)) (hr : Rise ltI (fun x => x) ks) : ks = pos 1 R :=
  Rise.unique ordI hr (List.Pairwise.imp (fun h => by simp [ltI]; omega) posF_rise) (same_int hp)

set_option maxHeartbeats 16000000 in
theorem l6_TxnPlays (A0 : Option Addr) (c0 : Nat) (l : List TxActM) (w0 : World) (hr : RdW w0 A0 (l.flatMap encA)) (hok : ∀ z ∈ l, okA w0 z) :
    Calls Try.prog 6 #[.slice A0 l.length c0] w0 fun e w' => e = .returned (.bool true) ∧ BelowD w0.heap.size w0 w' := by
  refine enterP (tab := tab) Try.func6 rfl Try.ntmps6 rfl (args := [_]) rfl ?_
  refine VC_sound tabOk 100 ?_
  refine Go_ops rfl (OpTo_pcall (v := .bool true) rfl rfl rfl rfl rfl (by kernel_rfl) (fun w hm _ => l6_two w) ?_)
  refine VC_sound tabOk 100 ?_
  refine ⟨fun h => by first | (simp at h; done) | (simp at h; omega) | (simp_all; done), fun _ => ?_⟩
  refine ⟨fun hc => ?_, fun hc => ?_⟩
  · refine Go_ops rfl (OpTo_pcall (v := .bool true) rfl rfl rfl rfl rfl (by kernel_rfl) (fun w hm _ => l6_two w) ?_)
    refine VC_sound tabOk 100 ?_
    rfl
  have hl80 : l.length ≤ 80 := by have := of_decide_eq_false hc; omega
  show Go _ _ _ _
  refine Go_ops rfl (OpTo_ncall rfl rfl rfl rfl rfl (by kernel_rfl) (fun w hm _ => txn_new w) ?_)
  rintro _ _ ⟨m, b1, b2, rfl, rfl⟩
  refine VC_sound tabOk 100 ?_
  intro br _
  refine Go_loop (σ := Nat × Nat × Nat × TxS × Option Addr × Nat × List Int) (fun s => [(0, .v (.slice A0 l.length c0)), (3, .v (.pointer (some ⟨m, 0, none⟩))), (4, .v (.pointer (some ⟨br, 0, none⟩))), (5, .v (.int .i64 s.1))]) (fun s => bothM m s.2.1 s.2.2.1 s.2.2.2.1 br s.2.2.2.2.1 s.2.2.2.2.2.1 s.2.2.2.2.2.2) (fun s => s.1 ≤ l.length ∧ Alike s.2.2.2.1 s.2.2.2.2.2.2 ∧ s.2.2.2.2.2.2.length ≤ 40 + s.1 ∧ s.2.2.2.1.O.length ≤ 6) (fun s => l.length - s.1) (0, b1, b2, ⟨1, [], []⟩, none, 0, []) ⟨Nat.zero_le _, Alike.start, Nat.zero_le _, Nat.zero_le _⟩ ⟨rfl, rfl, rfl, rfl, trivial⟩ (fun _ h => (h.own_nil (enc := encU) (k := 1) (T := 5) none).sel [2, 3, 4, 1, 0] rfl) ?_
  clear b1 b2
  rintro ⟨i, b1, b2, s, A, c, R⟩ ⟨hi, hal, hlen, hO6⟩
  dsimp only at hi hal hlen hO6 ⊢
  by_cases hlt : i < l.length
  · obtain ⟨ba, oa, rfl⟩ := RdW.some encA_is hr (ne_nil_of_lt hlt)
    obtain ⟨a, hga⟩ : ∃ a, l[i]? = some a := ⟨_, List.getElem?_eq_getElem hlt⟩
    have ho := hok a (List.mem_of_getElem? hga)
    obtain ⟨D8, hD8, hD88⟩ := tmod_nat6 8 (by decide) (bounds_u8 ho.1).1
    refine VC_sound tabOk 100 ?_
    refine ⟨fun _ => ?_, fun h => by first | (simp at h; done) | (simp at h; omega) | (simp_all; done)⟩
    refine ⟨⟨by omega, by omega⟩, ?_⟩
    (repeat (first | refine Or.inl ⟨rfl, rfl, ?_⟩ | refine Or.inl ⟨rfl, ?_⟩ | refine Or.inr ?_))
    refine Go_ops rfl (OpTo_loadRow tabOk encA_is (mkA a) rfl rfl rfl rfl rfl (fun h => by first | rfl | cases h) (fun w hm _ => hr.mod hm) hga (by simp only [addA]; rfl) ?_)
    refine VC_sound tabOk 25 ?_
    intro b6 _
    (repeat (first | refine Or.inl ⟨rfl, rfl, ?_⟩ | refine Or.inl ⟨rfl, ?_⟩ | refine Or.inr ?_))
    refine ⟨fun h20 => ?_, fun h20 => ?_⟩
    · rfl
    have h20' : a.l.length ≤ 20 := by have := of_decide_eq_false h20; omega
    (repeat (first | refine Or.inl ⟨rfl, rfl, ?_⟩ | refine Or.inl ⟨rfl, ?_⟩ | refine Or.inr ?_))
    (repeat (first | refine Or.inl ⟨rfl, rfl, ?_⟩ | refine Or.inl ⟨rfl, ?_⟩ | refine Or.inr ?_))
    show Go _ (KI.code (Code.cond _ _ _) :: _) _ _
    refine Go_cut (σ := Int) (fun t => [(0, .v (.slice (some ⟨ba, oa, none⟩) l.length c0)), (3, .v (.pointer (some ⟨m, 0, none⟩))), (4, .v (.pointer (some ⟨br, 0, none⟩))), (5, .v (.int .i64 i)), (6, .v (.pointer (some ⟨b6, 0, none⟩))), (7, .v (.int .i64 t))]) (fun _ => .blk b6 44 (encA a) :: bothM m b1 b2 s br A c R) (fun _ => True) ?_ ?_
    · refine VC_sound tabOk 100 ?_
      refine ⟨fun h => ?_, fun h => ?_⟩
      · refine Go_any mixed [] [(0, false), (3, false), (4, false), (5, false), (1, true), (2, false), (6, false), (7, false)] rfl (by kernel_rfl) (by kernel_rfl) [.blk b6 44 (encA a)] (fun _ => True) (fun _ _ _ h => h) (fun w hm _ => ⟨Holds.of_idx [0] hm, trivial⟩) ?_
        refine VC_sound tabOk 100 ?_
        (repeat (first | refine Or.inl ⟨rfl, rfl, ?_⟩ | refine Or.inl ⟨rfl, ?_⟩ | refine Or.inr ?_))
        refine ⟨_, rfl, ?_⟩
        refine Go_aloneL rfl rfl (OpTo_pcall (v := .int .i64 ((R.length : Int) + 1)) rfl rfl rfl rfl rfl (by kernel_rfl) (fun w hm _ => r06_next br A c R w (hm.blk_at (i := 4) rfl) (by omega)) ?_)
        refine And.intro (fun w hm _ => ⟨Holds.of_idx [0] hm, trivial⟩) ?_
        refine VC_sound tabOk 100 ?_
        refine ⟨_, rfl, ?_⟩
        refine ⟨_, rfl, ?_⟩
        exact Go_put _ trivial ⟨rfl, rfl, rfl, rfl, rfl, rfl, trivial⟩ (fun _ h => h)
      · exact Go_put _ trivial ⟨rfl, rfl, rfl, rfl, rfl, rfl, trivial⟩ (fun _ h => h)
    intro t _
    refine VC_sound tabOk 10 ?_
    (repeat (first | refine Or.inl ⟨rfl, rfl, ?_⟩ | refine Or.inl ⟨rfl, ?_⟩ | refine Or.inr ?_))
    refine ⟨by decide, _, hD8.symm, ?_⟩
    show Go _ (KI.code (Code.block _ _) :: _) _ _
    refine Go_cut (σ := Nat × Nat × TxS × Option Addr × Nat × List Int) (fun s => [(0, .v (.slice (some ⟨ba, oa, none⟩) l.length c0)), (3, .v (.pointer (some ⟨m, 0, none⟩))), (4, .v (.pointer (some ⟨br, 0, none⟩))), (5, .v (.int .i64 i)), (7, .v (.int .i64 t)), (8, .v (.bool true))]) (fun s => bothM m s.1 s.2.1 s.2.2.1 br s.2.2.2.1 s.2.2.2.2.1 s.2.2.2.2.2) (fun s => Alike s.2.2.1 s.2.2.2.2.2 ∧ s.2.2.2.2.2.length ≤ 40 + (i + 1) ∧ s.2.2.1.O.length ≤ 6) ?_ ?_
    · refine VC_sound tabOk 6 ?_
      show Go _ (KI.code (Code.cond _ _ _) :: _) _ _
      refine Go_cut (σ := Bool) (fun q => [(0, .v (.slice (some ⟨ba, oa, none⟩) l.length c0)), (3, .v (.pointer (some ⟨m, 0, none⟩))), (4, .v (.pointer (some ⟨br, 0, none⟩))), (5, .v (.int .i64 i)), (6, .v (.pointer (some ⟨b6, 0, none⟩))), (7, .v (.int .i64 t)), (8, .v (.bool true)), (55, .v (.int .u8 D8)), (79, .v (.bool q))]) (fun _ => .blk b6 44 (encA a) :: bothM m b1 b2 s br A c R) (fun _ => True) ?_ ?_
      · refine VC_sound tabOk 100 ?_
        refine ⟨fun h => ?_, fun h => ?_⟩
        · exact Go_put (true) trivial ⟨rfl, rfl, rfl, rfl, rfl, rfl, rfl, rfl, rfl, trivial⟩ (fun _ h => h)
        refine ⟨fun h => ?_, fun h => ?_⟩
        · exact Go_put (true) trivial ⟨rfl, rfl, rfl, rfl, rfl, rfl, rfl, rfl, rfl, trivial⟩ (fun _ h => h)
        exact Go_put (decide ((D8 : Int) = 2)) trivial ⟨rfl, rfl, rfl, rfl, rfl, rfl, rfl, rfl, rfl, trivial⟩ (fun _ h => h)
      intro q _
      refine VC_sound tabOk 6 ?_
      refine ⟨fun h => ?_, fun h => ?_⟩
      · -- one begins
        refine VC_sound tabOk 100 ?_
        refine Go_sel [1, 2, 3, 4, 5] rfl ?_
        by_cases h6 : (pos 1 R).length < 6
        · refine Go_ops rfl (OpTo_mcall (txB m b1 b2 s) (refB br A c R) (List.Perm.of_eq rfl) rfl rfl rfl rfl rfl (by kernel_rfl) (fun w hb hm hio hsp k => txn_begin_ok m b1 b2 s ⟨by rw [hal.O]; exact h6, by rw [hal.next]; omega⟩ (by rw [hal.next]; omega) hal.notO w _ k) ?_)
          rintro _ _ ⟨rfl, rfl⟩
          refine VC_sound tabOk 100 ?_
          refine Go_sel [3, 4, 0, 1, 2] rfl ?_
          show Go _ _ _ _
          refine Go_ops rfl (OpTo_mcall (refB br A c R) (txB m b1 b2 (begS s)) (List.Perm.of_eq rfl) rfl rfl rfl rfl rfl (by kernel_rfl) (fun w hb hm hio hsp k => r06_begin_ok br A c R ⟨h6, by omega⟩ w _ k) ?_)
          rintro _ _ ⟨A1, c1, rfl, rfl⟩
          refine VC_sound tabOk 100 ?_
          refine ⟨fun _ => ?_, fun h => absurd hal.next (of_decide_eq_false h)⟩
          exact Go_put (b1, b2, begS s, A1, c1, R ++ [1]) ⟨hal.begin, by simp; omega, by simp only [begS, List.length_append, List.length_cons, List.length_nil]; rw [hal.O]; omega⟩ ⟨rfl, rfl, rfl, rfl, rfl, rfl, trivial⟩ (fun _ h => h.sel [2, 3, 4, 0, 1] rfl)
        · refine Go_ops rfl (OpTo_mcall (txB m b1 b2 s) (refB br A c R) (List.Perm.of_eq rfl) rfl rfl rfl rfl rfl (by kernel_rfl) (fun w hb hm hio hsp k => txn_begin_full m b1 b2 s (.inl (by rw [hal.O]; omega)) w _ k) ?_)
          rintro _ _ ⟨rfl, rfl⟩
          refine VC_sound tabOk 100 ?_
          refine Go_sel [3, 4, 0, 1, 2] rfl ?_
          show Go _ _ _ _
          refine Go_ops rfl (OpTo_mcall (refB br A c R) (txB m b1 b2 s) (List.Perm.of_eq rfl) rfl rfl rfl rfl rfl (by kernel_rfl) (fun w hb hm hio hsp k => r06_begin_no br A c R (by omega) (by omega) w _ k) ?_)
          rintro _ _ ⟨rfl, rfl⟩
          refine VC_sound tabOk 100 ?_
          refine ⟨fun _ => ?_, fun h => by first | (simp at h; done) | (simp at h; omega) | (simp_all; done)⟩
          exact Go_put (b1, b2, s, A, c, R) ⟨hal, by dsimp only; omega, hO6⟩ ⟨rfl, rfl, rfl, rfl, rfl, rfl, trivial⟩ (fun _ h => h.sel [2, 3, 4, 0, 1] rfl)
      show Go _ (KI.code (Code.cond _ _ _) :: _) _ _
      refine Go_cut (σ := Bool) (fun q => [(0, .v (.slice (some ⟨ba, oa, none⟩) l.length c0)), (3, .v (.pointer (some ⟨m, 0, none⟩))), (4, .v (.pointer (some ⟨br, 0, none⟩))), (5, .v (.int .i64 i)), (6, .v (.pointer (some ⟨b6, 0, none⟩))), (7, .v (.int .i64 t)), (8, .v (.bool true)), (55, .v (.int .u8 D8)), (101, .v (.bool q))]) (fun _ => .blk b6 44 (encA a) :: bothM m b1 b2 s br A c R) (fun _ => True) ?_ ?_
      · refine VC_sound tabOk 100 ?_
        refine ⟨fun h => ?_, fun h => ?_⟩
        · exact Go_put (true) trivial ⟨rfl, rfl, rfl, rfl, rfl, rfl, rfl, rfl, rfl, trivial⟩ (fun _ h => h)
        exact Go_put (decide ((D8 : Int) = 4)) trivial ⟨rfl, rfl, rfl, rfl, rfl, rfl, rfl, rfl, rfl, trivial⟩ (fun _ h => h)
      intro q _
      refine VC_sound tabOk 6 ?_
      refine ⟨fun h => ?_, fun h => ?_⟩
      · -- one is done
        refine VC_sound tabOk 100 ?_
        refine Go_sel [1, 2, 3, 4, 5] rfl ?_
        by_cases hx : rState R t = 1
        · have hp := (rState_one t).1 hx
          have hO : t ∈ s.O := by rw [hal.O]; exact hp
          show Go _ _ _ _
          refine Go_ops rfl (OpTo_mcall (txB m b1 b2 s) (refB br A c R) (List.Perm.of_eq rfl) rfl rfl rfl rfl rfl (by kernel_rfl) (fun w hb hm hio hsp k => txn_commit_ok m b1 b2 s t hO w _ k) ?_)
          rintro _ _ ⟨rfl, rfl⟩
          refine VC_sound tabOk 100 ?_
          refine Go_sel [3, 4, 0, 1, 2] rfl ?_
          show Go _ _ _ _
          refine Go_ops rfl (OpTo_mcall (refB br A c R) (txB m b1 b2 ⟨s.next, del t s.O, ins t s.D⟩) (List.Perm.of_eq rfl) rfl rfl rfl rfl rfl (by kernel_rfl) (fun w hb hm hio hsp k => r06_end br A c R t 2 (by omega) w _ k) ?_)
          rintro _ _ (⟨_, rfl, rfl⟩ | ⟨hn, _⟩)
          rotate_left
          · exact absurd hx hn
          refine VC_sound tabOk 100 ?_
          exact Go_put (b1, b2, ⟨s.next, del t s.O, ins t s.D⟩, A, c, endR R t 2) ⟨hal.commit hp, by dsimp only; rw [List.length_set]; omega, Nat.le_trans (List.length_filter_le _ _) hO6⟩ ⟨rfl, rfl, rfl, rfl, rfl, rfl, trivial⟩ (fun _ h => h.sel [2, 3, 4, 0, 1] rfl)
        · have hO : ¬ t ∈ s.O := by rw [hal.O]; exact fun h => hx ((rState_one t).2 h)
          show Go _ _ _ _
          refine Go_ops rfl (OpTo_mcall (txB m b1 b2 s) (refB br A c R) (List.Perm.of_eq rfl) rfl rfl rfl rfl rfl (by kernel_rfl) (fun w hb hm hio hsp k => txn_commit_no m b1 b2 s t hO w _ k) ?_)
          rintro _ _ ⟨rfl, rfl⟩
          refine VC_sound tabOk 100 ?_
          refine Go_sel [3, 4, 0, 1, 2] rfl ?_
          show Go _ _ _ _
          refine Go_ops rfl (OpTo_mcall (refB br A c R) (txB m b1 b2 s) (List.Perm.of_eq rfl) rfl rfl rfl rfl rfl (by kernel_rfl) (fun w hb hm hio hsp k => r06_end br A c R t 2 (by omega) w _ k) ?_)
          rintro _ _ (⟨hn, _⟩ | ⟨_, rfl, rfl⟩)
          · exact absurd hn hx
          refine VC_sound tabOk 100 ?_
          exact Go_put (b1, b2, s, A, c, R) ⟨hal, by dsimp only; omega, hO6⟩ ⟨rfl, rfl, rfl, rfl, rfl, rfl, trivial⟩ (fun _ h => h.sel [2, 3, 4, 0, 1] rfl)
      show Go _ (KI.code (Code.cond _ _ _) :: _) _ _
      refine Go_cut (σ := Bool) (fun q => [(0, .v (.slice (some ⟨ba, oa, none⟩) l.length c0)), (3, .v (.pointer (some ⟨m, 0, none⟩))), (4, .v (.pointer (some ⟨br, 0, none⟩))), (5, .v (.int .i64 i)), (6, .v (.pointer (some ⟨b6, 0, none⟩))), (7, .v (.int .i64 t)), (8, .v (.bool true)), (55, .v (.int .u8 D8)), (111, .v (.bool q))]) (fun _ => .blk b6 44 (encA a) :: bothM m b1 b2 s br A c R) (fun _ => True) ?_ ?_
      · refine VC_sound tabOk 100 ?_
        refine ⟨fun h => ?_, fun h => ?_⟩
        · exact Go_put (true) trivial ⟨rfl, rfl, rfl, rfl, rfl, rfl, rfl, rfl, rfl, trivial⟩ (fun _ h => h)
        exact Go_put (decide ((D8 : Int) = 6)) trivial ⟨rfl, rfl, rfl, rfl, rfl, rfl, rfl, rfl, rfl, trivial⟩ (fun _ h => h)
      intro q _
      refine VC_sound tabOk 100 ?_
      refine ⟨fun h => ?_, fun h => ?_⟩
      · -- one is taken back
        refine VC_sound tabOk 100 ?_
        refine Go_sel [1, 2, 3, 4, 5] rfl ?_
        by_cases hx : rState R t = 1
        · have hp := (rState_one t).1 hx
          have hO : t ∈ s.O := by rw [hal.O]; exact hp
          show Go _ _ _ _
          refine Go_ops rfl (OpTo_mcall (txB m b1 b2 s) (refB br A c R) (List.Perm.of_eq rfl) rfl rfl rfl rfl rfl (by kernel_rfl) (fun w hb hm hio hsp k => txn_abort_ok m b1 b2 s t hO w _ k) ?_)
          rintro _ _ ⟨rfl, rfl⟩
          refine VC_sound tabOk 100 ?_
          refine Go_sel [3, 4, 0, 1, 2] rfl ?_
          show Go _ _ _ _
          refine Go_ops rfl (OpTo_mcall (refB br A c R) (txB m b1 b2 ⟨s.next, del t s.O, s.D⟩) (List.Perm.of_eq rfl) rfl rfl rfl rfl rfl (by kernel_rfl) (fun w hb hm hio hsp k => r06_end br A c R t 3 (by omega) w _ k) ?_)
          rintro _ _ (⟨_, rfl, rfl⟩ | ⟨hn, _⟩)
          rotate_left
          · exact absurd hx hn
          refine VC_sound tabOk 100 ?_
          exact Go_put (b1, b2, ⟨s.next, del t s.O, s.D⟩, A, c, endR R t 3) ⟨hal.abort hp, by dsimp only; rw [List.length_set]; omega, Nat.le_trans (List.length_filter_le _ _) hO6⟩ ⟨rfl, rfl, rfl, rfl, rfl, rfl, trivial⟩ (fun _ h => h.sel [2, 3, 4, 0, 1] rfl)
        · have hO : ¬ t ∈ s.O := by rw [hal.O]; exact fun h => hx ((rState_one t).2 h)
          show Go _ _ _ _
          refine Go_ops rfl (OpTo_mcall (txB m b1 b2 s) (refB br A c R) (List.Perm.of_eq rfl) rfl rfl rfl rfl rfl (by kernel_rfl) (fun w hb hm hio hsp k => txn_abort_no m b1 b2 s t hO w _ k) ?_)
          rintro _ _ ⟨rfl, rfl⟩
          refine VC_sound tabOk 100 ?_
          refine Go_sel [3, 4, 0, 1, 2] rfl ?_
          show Go _ _ _ _
          refine Go_ops rfl (OpTo_mcall (refB br A c R) (txB m b1 b2 s) (List.Perm.of_eq rfl) rfl rfl rfl rfl rfl (by kernel_rfl) (fun w hb hm hio hsp k => r06_end br A c R t 3 (by omega) w _ k) ?_)
          rintro _ _ (⟨hn, _⟩ | ⟨_, rfl, rfl⟩)
          · exact absurd hn hx
          refine VC_sound tabOk 100 ?_
          exact Go_put (b1, b2, s, A, c, R) ⟨hal, by dsimp only; omega, hO6⟩ ⟨rfl, rfl, rfl, rfl, rfl, rfl, trivial⟩ (fun _ h => h.sel [2, 3, 4, 0, 1] rfl)
      (repeat (first | refine Or.inl ⟨rfl, rfl, ?_⟩ | refine Or.inl ⟨rfl, ?_⟩ | refine Or.inr ?_))
      refine ⟨by decide, _, rfl, ?_⟩
      have h40 := Int.tmod_lt_of_pos a.x (b := 40) (by decide)
      generalize a.x.tmod 40 = n at h40
      (repeat (first | refine Or.inl ⟨rfl, rfl, ?_⟩ | refine Or.inl ⟨rfl, ?_⟩ | refine Or.inr ?_))
      refine ⟨fun h1 => ?_, fun h1 => ?_⟩
      · (repeat (first | refine Or.inl ⟨rfl, rfl, ?_⟩ | refine Or.inl ⟨rfl, ?_⟩ | refine Or.inr ?_))
        refine ⟨fun h2 => ?_, fun h2 => ?_⟩
        · -- loaded
          show Go _ _ _ _
          refine Go_any mixed [] [(0, false), (1, false), (2, false), (5, false), (6, false), (7, false), (3, false), (8, false), (4, true), (9, true), (10, false), (11, false)] rfl (by kernel_rfl) (by kernel_rfl) [.blk b6 44 (encA a)] (fun _ => True) (fun _ _ _ h => h) (fun w hm _ => ⟨Holds.of_idx [0] hm, trivial⟩) ?_
          refine VC_sound tabOk 100 ?_
          (repeat (first | refine Or.inl ⟨rfl, rfl, ?_⟩ | refine Or.inl ⟨rfl, ?_⟩ | refine Or.inr ?_))
          (repeat (first | refine Or.inl ⟨rfl, rfl, ?_⟩ | refine Or.inl ⟨rfl, ?_⟩ | refine Or.inr ?_))
          refine Go_sel [1, 2, 3, 4, 5, 0] rfl ?_
          show Go _ _ _ _
          refine Go_aloneL rfl rfl (OpTo_mcall (txB m b1 b2 s) (refB br A c R ++ [.blk b6 44 (encA a)]) (List.Perm.of_eq rfl) rfl rfl rfl rfl rfl (by kernel_rfl) (fun w hb hm hio hsp k => txn_load m b1 b2 s n a.lA a.lC a.l w _ k (fun Rs w h => ho.2.2.1.mod (hsp Rs w h)) (by omega)) ?_)
          rintro _ _ (⟨hv, rfl, b3, b4, rfl⟩ | ⟨hv, rfl, rfl⟩)
          · have hal1 := Alike.load hv
            have hvs := validL_spec hv
            have hRl : (loadR n a.l).length = (n - 1).toNat := by have := hal1.next; dsimp only at this; omega
            refine And.intro (fun w hm _ => ⟨Holds.of_idx [5] hm, trivial⟩) ?_
            refine VC_sound tabOk 100 ?_
            refine Go_sel [3, 4, 0, 1, 2, 5] rfl ?_
            show Go _ _ _ _
            refine Go_aloneL rfl rfl (OpTo_mcall (refB br A c R) (txB m b3 b4 ⟨n, [], insL a.l⟩ ++ [.blk b6 44 (encA a)]) (List.Perm.of_eq rfl) rfl rfl rfl rfl rfl (by kernel_rfl) (fun w hb hm hio hsp k => r06_load br A c R n a.lA a.lC a.l w _ k (fun Rs w h => ho.2.2.1.mod (hsp Rs w h)) (by omega)) ?_)
            rintro _ _ (⟨_, rfl, A3, c3, rfl⟩ | ⟨hv2, _⟩)
            rotate_left
            · rw [hv] at hv2; cases hv2
            refine And.intro (fun w hm _ => ⟨Holds.of_idx [5] hm, trivial⟩) ?_
            refine VC_sound tabOk 100 ?_
            exact Go_put (b3, b4, ⟨n, [], insL a.l⟩, A3, c3, loadR n a.l) ⟨hal1, by dsimp only; omega, Nat.zero_le _⟩ ⟨rfl, rfl, rfl, rfl, rfl, rfl, trivial⟩ (fun _ h => h.sel [2, 3, 4, 0, 1] rfl)
          · refine And.intro (fun w hm _ => ⟨Holds.of_idx [5] hm, trivial⟩) ?_
            refine VC_sound tabOk 100 ?_
            refine Go_sel [3, 4, 0, 1, 2, 5] rfl ?_
            show Go _ _ _ _
            refine Go_aloneL rfl rfl (OpTo_mcall (refB br A c R) (txB m b1 b2 s ++ [.blk b6 44 (encA a)]) (List.Perm.of_eq rfl) rfl rfl rfl rfl rfl (by kernel_rfl) (fun w hb hm hio hsp k => r06_load br A c R n a.lA a.lC a.l w _ k (fun Rs w h => ho.2.2.1.mod (hsp Rs w h)) (by omega)) ?_)
            rintro _ _ (⟨hv2, _⟩ | ⟨_, rfl, rfl⟩)
            · rw [hv] at hv2; cases hv2
            refine And.intro (fun w hm _ => ⟨Holds.of_idx [5] hm, trivial⟩) ?_
            refine VC_sound tabOk 100 ?_
            exact Go_put (b1, b2, s, A, c, R) ⟨hal, by dsimp only; omega, hO6⟩ ⟨rfl, rfl, rfl, rfl, rfl, rfl, trivial⟩ (fun _ h => h.sel [2, 3, 4, 0, 1] rfl)
        · exact Go_put (b1, b2, s, A, c, R) ⟨hal, by dsimp only; omega, hO6⟩ ⟨rfl, rfl, rfl, rfl, rfl, rfl, trivial⟩ (fun _ h => h.sel [1, 2, 3, 4, 5] rfl)
      · exact Go_put (b1, b2, s, A, c, R) ⟨hal, by dsimp only; omega, hO6⟩ ⟨rfl, rfl, rfl, rfl, rfl, rfl, trivial⟩ (fun _ h => h.sel [1, 2, 3, 4, 5] rfl)
    rintro ⟨b3, b4, s2, A2, c2, R2⟩ ⟨hal2, hlen2, hO62⟩
    dsimp only at hal2 hlen2 hO62 ⊢
    clear hal hlen
    refine VC_sound tabOk 100 ?_
    show Go _ _ _ _
    refine Go_ops rfl (OpTo_mcall (txB m b3 b4 s2) (refB br A2 c2 R2) (List.Perm.of_eq rfl) rfl rfl rfl rfl rfl (by kernel_rfl) (fun w hb hm hio hsp k => txn_now m b3 b4 s2 (by omega) w _ k) ?_)
    rintro _ _ ⟨A5, c5, ks, rfl, hp, hri, rfl⟩
    have hks : ks = pos 1 R2 := open_is (hal2.O ▸ hp) hri
    refine VC_sound tabOk 100 ?_
    intro b14 _
    (repeat (first | refine Or.inl ⟨rfl, rfl, ?_⟩ | refine Or.inl ⟨rfl, ?_⟩ | refine Or.inr ?_))
    show Go _ _ _ _
    refine Go_any mixed [] [(0, false), (1, false), (2, false), (3, false), (5, false), (4, false), (6, true), (7, false), (8, false), (9, false), (10, false), (12, false), (11, true), (13, true), (14, false), (15, false), (16, false), (17, false), (19, false), (18, false), (20, true), (21, true), (22, false), (23, false), (24, false), (25, false), (26, false), (28, false), (29, false), (27, true), (30, true), (31, false), (32, false)] rfl (by kernel_rfl) (by kernel_rfl) [.blk b14 30 [.int .i64 s2.next, .slice A5 ks.length c5]] (fun _ => True) (fun _ _ _ h => h) (fun w hm _ => ⟨Holds.of_idx [0] hm, trivial⟩) ?_
    refine VC_sound tabOk 100 ?_
    refine ⟨fun h => by first | (simp at h; done) | (simp at h; omega) | (simp_all; done), fun _ => ?_⟩
    (repeat (first | refine Or.inl ⟨rfl, rfl, ?_⟩ | refine Or.inl ⟨rfl, ?_⟩ | refine Or.inr ?_))
    refine Go_aloneL rfl rfl (OpTo_pcall (v := .int .i64 ((R2.length : Int) + 1)) rfl rfl rfl rfl rfl (by kernel_rfl) (fun w hm _ => r06_next br A2 c2 R2 w (hm.blk_at (i := 5) rfl) (by omega)) ?_)
    refine And.intro (fun w hm _ => ⟨Holds.of_idx [0] hm, trivial⟩) ?_
    refine VC_sound tabOk 100 ?_
    refine ⟨fun h => absurd hal2.next (by simpa using h), fun _ => ?_⟩
    refine Go_aloneL rfl rfl (OpTo_pcall (v := .int .i64 s2.next) rfl rfl rfl rfl rfl (by kernel_rfl) (fun w hm _ => txn_next_p m b3 b4 s2 w (hm.blk_at (i := 2) rfl)) ?_)
    refine And.intro (fun w hm _ => ⟨Holds.of_idx [0] hm, trivial⟩) ?_
    refine VC_sound tabOk 100 ?_
    refine Go_aloneL rfl rfl (OpTo_pcall (v := .int .i64 ((R2.length : Int) + 1)) rfl rfl rfl rfl rfl (by kernel_rfl) (fun w hm _ => r06_next br A2 c2 R2 w (hm.blk_at (i := 5) rfl) (by omega)) ?_)
    refine And.intro (fun w hm _ => ⟨Holds.of_idx [0] hm, trivial⟩) ?_
    refine VC_sound tabOk 100 ?_
    refine ⟨fun h => absurd hal2.next (by simpa using h), fun _ => ?_⟩
    (repeat (first | refine Or.inl ⟨rfl, rfl, ?_⟩ | refine Or.inl ⟨rfl, ?_⟩ | refine Or.inr ?_))
    refine Go_aloneL rfl rfl (OpTo_ncall rfl rfl rfl rfl rfl (by kernel_rfl) (fun w hm _ => r06_open br A2 c2 R2 w (hm.blk_at (i := 5) rfl) (hm.own_rd (i := 6) rfl) (by omega)) ?_)
    rintro _ _ ⟨A6, c6, rfl, rfl⟩
    refine And.intro (fun w hm _ => ⟨Holds.of_idx [1] hm, trivial⟩) ?_
    refine VC_sound tabOk 100 ?_
    refine Go_aloneL rfl rfl (OpTo_pcall (v := .bool (decide (ks = pos 1 R2))) rfl rfl rfl rfl rfl (by kernel_rfl) (fun w hm _ => r01_ints A5 A6 c5 c6 ks (pos 1 R2) w (hm.own_rd (i := 2) rfl) (hm.own_rd (i := 0) rfl) (by have := pos_len 1 R2; rw [hks]; omega)) ?_)
    refine And.intro (fun w hm _ => ⟨Holds.of_idx [1] hm, trivial⟩) ?_
    refine VC_sound tabOk 100 ?_
    refine ⟨fun h => absurd hks (by simpa using h), fun _ => ?_⟩
    refine Go_aloneL rfl rfl (OpTo_pcall (v := .int .u8 (stE s2 t)) rfl rfl rfl rfl rfl (by kernel_rfl) (fun w hm _ => txn_state_p m b3 b4 s2 t w (hm.blk_at (i := 3) rfl) (MpAt.of_mod (i := 4) hm rfl) (MpAt.of_mod (i := 5) hm rfl)) ?_)
    refine And.intro (fun w hm _ => ⟨Holds.of_idx [1] hm, trivial⟩) ?_
    refine VC_sound tabOk 100 ?_
    refine Go_aloneL rfl rfl (OpTo_pcall (v := .int .u8 (rState R2 t)) rfl rfl rfl rfl rfl (by kernel_rfl) (fun w hm _ => r06_state br A2 c2 R2 t w (hm.blk_at (i := 6) rfl) (hm.own_rd (i := 7) rfl) (by omega)) ?_)
    refine And.intro (fun w hm _ => ⟨Holds.of_idx [1] hm, trivial⟩) ?_
    refine VC_sound tabOk 100 ?_
    refine ⟨fun h => absurd (hal2.state t) (by simpa using h), fun _ => ?_⟩
    refine Go_loop (σ := Nat) (fun j => [(0, .v (.slice (some ⟨ba, oa, none⟩) l.length c0)), (3, .v (.pointer (some ⟨m, 0, none⟩))), (4, .v (.pointer (some ⟨br, 0, none⟩))), (5, .v (.int .i64 i)), (15, .v (.int .i64 ((j : Int) - 1)))]) (fun _ => bothM m b3 b4 s2 br A2 c2 R2) (fun j => j ≤ 61) (fun j => 61 - j) 0 (Nat.zero_le _) ⟨rfl, rfl, rfl, rfl, rfl, trivial⟩ (fun _ h => h.sel [3, 4, 5, 6, 7] rfl) ?_
    intro j hj
    dsimp only at hj ⊢
    refine VC_sound tabOk 100 ?_
    refine Go_ops rfl (OpTo_pcall (v := .int .i64 ((R2.length : Int) + 1)) rfl rfl rfl rfl rfl (by kernel_rfl) (fun w hm _ => r06_next br A2 c2 R2 w (hm.blk_at (i := 3) rfl) (by omega)) ?_)
    refine VC_sound tabOk 100 ?_
    refine ⟨_, wrap_i64 (n := (R2.length : Int) + 1 + 1) (by omega) (by omega), ?_⟩
    refine ⟨fun h1 => ?_, fun h1 => ?_⟩
    · refine ⟨fun h2 => ?_, fun h2 => ?_⟩
      · have h60 : j < 61 := by have := of_decide_eq_true h2; omega
        refine Go_ops rfl (OpTo_pcall (v := .int .u8 (stE s2 ((j : Int) - 1))) rfl rfl rfl rfl rfl (by kernel_rfl) (fun w hm _ => txn_state_p m b3 b4 s2 _ w (hm.blk_at (i := 0) rfl) (MpAt.of_mod (i := 1) hm rfl) (MpAt.of_mod (i := 2) hm rfl)) ?_)
        refine VC_sound tabOk 100 ?_
        refine Go_ops rfl (OpTo_pcall (v := .int .u8 (rState R2 ((j : Int) - 1))) rfl rfl rfl rfl rfl (by kernel_rfl) (fun w hm _ => r06_state br A2 c2 R2 _ w (hm.blk_at (i := 3) rfl) (hm.own_rd (i := 4) rfl) (by omega)) ?_)
        refine VC_sound tabOk 100 ?_
        refine ⟨fun h => absurd (hal2.state ((j : Int) - 1)) (by simpa using h), fun _ => ?_⟩
        refine ⟨_, wrap_i64 (n := (j : Int) - 1 + 1) (by omega) (by omega), ?_⟩
        exact Go_fin (j + 1) (by omega) (by omega) ⟨rfl, rfl, rfl, rfl, congrArg (Value.int .i64) (by omega), trivial⟩ (fun _ h => h)
      · refine ⟨_, wrap_i64 (n := (i : Int) + 1) (by omega) (by omega), ?_⟩
        exact Go_fin (i + 1, b3, b4, s2, A2, c2, R2) ⟨by dsimp only; omega, hal2, by dsimp only; omega, hO62⟩ (by dsimp only; omega) ⟨rfl, rfl, rfl, rfl, trivial⟩ (fun _ h => h)
    · refine ⟨_, wrap_i64 (n := (i : Int) + 1) (by omega) (by omega), ?_⟩
      exact Go_fin (i + 1, b3, b4, s2, A2, c2, R2) ⟨by dsimp only; omega, hal2, by dsimp only; omega, hO62⟩ (by dsimp only; omega) ⟨rfl, rfl, rfl, rfl, trivial⟩ (fun _ h => h)
  refine VC_sound tabOk 100 ?_
  refine ⟨fun h => by first | (simp at h; done) | (simp at h; omega) | (simp_all; done), fun _ => ?_⟩
  rfl
end Go.Proofs.Ytpadhjojmiellaa
