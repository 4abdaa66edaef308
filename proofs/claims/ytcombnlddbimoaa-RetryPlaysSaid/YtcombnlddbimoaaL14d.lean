/- The law RetryPlays: what its run comes to. -/
import Derived.Test.YtcombnlddbimoaaR14
set_option autoImplicit false
set_option linter.unusedVariables false
set_option linter.unusedSimpArgs false
namespace Go.Proofs.Ytcombnlddbimoaa
open Go.RX Go Go.RowKit Go.ChangeShapes Go.WideShapes Go.ChangeAt


/-- Both, alike. -/
abbrev bothT (b bm : Nat) (A : Option Addr) (c : Nat) (A' : Option Addr) (c' : Nat) (xs : List ItemM) : List Res := rtR b A c xs ++ rfR bm A' c' xs
def evQ (id tries table : Int) : EventM := ⟨id, 0, ⟨#[113]⟩, tries, table, 0, 0, ⟨#[]⟩⟩
theorem GoodT.drop {i : Nat} {xs : List ItemM} (h : GoodT i xs) (n : Nat) : GoodT i (xs.drop n) :=
  ⟨h.ok.sublist ((List.drop_sublist n xs).map _), riseT_drop h.rise n, by simp; have := h.len; omega⟩
theorem GoodT.left {i : Nat} {xs : List ItemM} (h : GoodT i xs) (o : ByteArray) : GoodT i (leftL o xs) :=
  ⟨h.ok.sublist ((List.filter_sublist (l := xs)).map _), List.Pairwise.sublist (List.filter_sublist (l := xs)) h.rise, Nat.le_trans (List.length_filter_le _ _) h.len⟩
theorem GoodT.mono {i j : Nat} {xs : List ItemM} (h : GoodT i xs) (hij : i ≤ j) : GoodT j xs := ⟨h.ok, h.rise, Nat.le_trans h.len hij⟩

set_option maxHeartbeats 16000000 in
theorem l14_RetryPlays (A0 : Option Addr) (c0 : Nat) (l : List RtActM) (w0 : World) (hr : RdW w0 A0 (l.flatMap encA)) (hok : ∀ z ∈ l, okA w0 z) :
    Calls Try.prog 7 #[.slice A0 l.length c0] w0 fun e w' => e = .returned (.bool true) ∧ BelowD w0.heap.size w0 w' := by
  refine enterP (tab := tab) Try.func7 rfl Try.ntmps7 rfl (args := [_]) rfl ?_
  refine VC_sound tabOk 100 ?_
  refine Go_ops rfl (OpTo_pcall (v := .bool true) rfl rfl rfl rfl rfl (by kernel_rfl) (fun w hm _ => l14_seven w) ?_)
  refine VC_sound tabOk 100 ?_
  refine ⟨fun h => by first | (simp at h; done) | (simp at h; omega) | (simp_all; done), fun _ => ?_⟩
  refine ⟨fun hc => ?_, fun hc => ?_⟩
  · refine Go_ops rfl (OpTo_pcall (v := .bool true) rfl rfl rfl rfl rfl (by kernel_rfl) (fun w hm _ => l14_seven w) ?_)
    refine VC_sound tabOk 100 ?_
    rfl
  have hl80 : l.length ≤ 80 := by have := of_decide_eq_false hc; omega
  show Go _ _ _ _
  refine Go_ops rfl (OpTo_ncall rfl rfl rfl rfl rfl (by kernel_rfl) (fun w hm _ => retry_new w) ?_)
  rintro _ _ ⟨b, rfl, rfl⟩
  refine VC_sound tabOk 100 ?_
  intro bm _
  refine Go_loop (σ := Nat × Option Addr × Nat × Option Addr × Nat × List ItemM) (fun s => [(0, .v (.slice A0 l.length c0)), (3, .v (.pointer (some ⟨b, 0, none⟩))), (4, .v (.pointer (some ⟨bm, 0, none⟩))), (5, .v (.int .i64 s.1))]) (fun s => bothT b bm s.2.1 s.2.2.1 s.2.2.2.1 s.2.2.2.2.1 s.2.2.2.2.2) (fun s => s.1 ≤ l.length ∧ GoodT s.1 s.2.2.2.2.2) (fun s => l.length - s.1) (0, none, 0, none, 0, []) ⟨Nat.zero_le _, GoodT.nil⟩ ⟨rfl, rfl, rfl, rfl, trivial⟩ (fun _ h => (h.own_nil (enc := encT) (k := 9) (T := 64) none).sel [2, 3, 1, 0] rfl) ?_
  rintro ⟨i, A, c, A', c', xs⟩ ⟨hi, hG⟩
  dsimp only at hi hG ⊢
  have hlen := hG.len
  by_cases hlt : i < l.length
  · obtain ⟨ba, oa, rfl⟩ := RdW.some encA_is hr (ne_nil_of_lt hlt)
    obtain ⟨a, hga⟩ : ∃ a, l[i]? = some a := ⟨_, List.getElem?_eq_getElem hlt⟩
    have ho := hok a (List.mem_of_getElem? hga)
    have hid := bounds_u8 ho.2.1
    obtain ⟨D3, hD3, hD33⟩ := tmod_nat14 3 (by decide) (bounds_u8 ho.1).1
    obtain ⟨D8, hD8, hD88⟩ := tmod_nat14 8 (by decide) (bounds_u8 ho.1).1
    obtain ⟨K, hK, hK12⟩ := tmod_nat14 12 (by decide) hid.1
    obtain ⟨N, hN, hN0, hN1⟩ : ∃ N : Int, N = IntKind.i64.wrap (BitVec.ofInt IntKind.i64.bits a.tr &&& BitVec.ofInt IntKind.i64.bits 2147483647).toNat ∧ 0 ≤ N ∧ N ≤ 2147483647 := ⟨_, rfl, and_le a.tr⟩
    refine VC_sound tabOk 100 ?_
    refine ⟨fun _ => ?_, fun h => by first | (simp at h; done) | (simp at h; omega) | (simp_all; done)⟩
    refine ⟨⟨by omega, by omega⟩, ?_⟩
    (repeat (first | refine Or.inl ⟨rfl, rfl, ?_⟩ | refine Or.inl ⟨rfl, ?_⟩ | refine Or.inr ?_))
    refine Go_ops rfl (OpTo_loadRow tabOk encA_is (mkA a) rfl rfl rfl rfl rfl (fun h => by first | rfl | cases h) (fun w hm _ => hr.mod hm) hga (by simp only [addA]; rfl) ?_)
    refine VC_sound tabOk 16 ?_
    intro b6 _
    (repeat (first | refine Or.inl ⟨rfl, rfl, ?_⟩ | refine Or.inl ⟨rfl, ?_⟩ | refine Or.inr ?_))
    refine ⟨by decide, _, hD3.symm, ?_⟩
    show Go _ (KI.code (Code.cond _ _ _) :: _) _ _
    refine Go_cut (σ := Int) (fun t => [(0, .v (.slice (some ⟨ba, oa, none⟩) l.length c0)), (3, .v (.pointer (some ⟨b, 0, none⟩))), (4, .v (.pointer (some ⟨bm, 0, none⟩))), (5, .v (.int .i64 i)), (6, .v (.pointer (some ⟨b6, 0, none⟩))), (7, .v (.int .i64 t))]) (fun _ => .blk b6 29 (encA a) :: bothT b bm A c A' c' xs) (fun _ => True) ?_ ?_
    · refine VC_sound tabOk 100 ?_
      refine ⟨fun h => ?_, fun h => ?_⟩
      · (repeat (first | refine Or.inl ⟨rfl, rfl, ?_⟩ | refine Or.inl ⟨rfl, ?_⟩ | refine Or.inr ?_))
        refine ⟨by decide, _, rfl, ?_⟩
        exact Go_put _ trivial ⟨rfl, rfl, rfl, rfl, rfl, rfl, trivial⟩ (fun _ h => h)
      · exact Go_put _ trivial ⟨rfl, rfl, rfl, rfl, rfl, rfl, trivial⟩ (fun _ h => h)
    intro t _
    refine VC_sound tabOk 26 ?_
    (repeat (first | refine Or.inl ⟨rfl, rfl, ?_⟩ | refine Or.inl ⟨rfl, ?_⟩ | refine Or.inr ?_))
    refine ⟨by decide, _, hK.symm, ?_⟩
    refine ⟨_, wrap_i64 (n := (K : Int)) (by omega) (by omega), ?_⟩
    (repeat (first | refine Or.inl ⟨rfl, rfl, ?_⟩ | refine Or.inl ⟨rfl, ?_⟩ | refine Or.inr ?_))
    refine ⟨N, hN, ?_⟩
    (repeat (first | refine Or.inl ⟨rfl, rfl, ?_⟩ | refine Or.inl ⟨rfl, ?_⟩ | refine Or.inr ?_))
    refine ⟨_, wrap_i64 (n := a.id) (by omega) (by omega), ?_⟩
    intro b8 _
    (repeat (first | refine Or.inl ⟨rfl, rfl, ?_⟩ | refine Or.inl ⟨rfl, ?_⟩ | refine Or.inr ?_))
    refine ⟨by decide, _, hD8.symm, ?_⟩
    show Go _ (KI.code (Code.block _ _) :: _) _ _
    refine Go_cut (σ := Option Addr × Nat × Option Addr × Nat × List ItemM) (fun s => [(0, .v (.slice (some ⟨ba, oa, none⟩) l.length c0)), (3, .v (.pointer (some ⟨b, 0, none⟩))), (4, .v (.pointer (some ⟨bm, 0, none⟩))), (5, .v (.int .i64 i)), (9, .v (.bool true))]) (fun s => bothT b bm s.1 s.2.1 s.2.2.1 s.2.2.2.1 s.2.2.2.2) (fun s => GoodT (i + 1) s.2.2.2.2) ?_ ?_
    · refine VC_sound tabOk 6 ?_
      show Go _ (KI.code (Code.cond _ _ _) :: _) _ _
      refine Go_cut (σ := Bool) (fun q => [(0, .v (.slice (some ⟨ba, oa, none⟩) l.length c0)), (3, .v (.pointer (some ⟨b, 0, none⟩))), (4, .v (.pointer (some ⟨bm, 0, none⟩))), (5, .v (.int .i64 i)), (6, .v (.pointer (some ⟨b6, 0, none⟩))), (7, .v (.int .i64 t)), (8, .v (.pointer (some ⟨b8, 0, none⟩))), (9, .v (.bool true)), (53, .v (.int .u8 D8)), (65, .v (.bool q))]) (fun _ => .blk b8 33 (encE (evQ K N a.id)) :: .blk b6 29 (encA a) :: bothT b bm A c A' c' xs) (fun _ => True) ?_ ?_
      · refine VC_sound tabOk 100 ?_
        refine ⟨fun h => ?_, fun h => ?_⟩
        · exact Go_put true trivial ⟨rfl, rfl, rfl, rfl, rfl, rfl, rfl, rfl, rfl, rfl, trivial⟩ (fun _ h => h)
        refine ⟨fun h => ?_, fun h => ?_⟩
        · exact Go_put true trivial ⟨rfl, rfl, rfl, rfl, rfl, rfl, rfl, rfl, rfl, rfl, trivial⟩ (fun _ h => h)
        refine ⟨fun h => ?_, fun h => ?_⟩
        · exact Go_put true trivial ⟨rfl, rfl, rfl, rfl, rfl, rfl, rfl, rfl, rfl, rfl, trivial⟩ (fun _ h => h)
        refine ⟨fun h => ?_, fun h => ?_⟩
        · exact Go_put true trivial ⟨rfl, rfl, rfl, rfl, rfl, rfl, rfl, rfl, rfl, rfl, trivial⟩ (fun _ h => h)
        exact Go_put (decide ((D8 : Int) = 4)) trivial ⟨rfl, rfl, rfl, rfl, rfl, rfl, rfl, rfl, rfl, rfl, trivial⟩ (fun _ h => h)
      intro q _
      refine VC_sound tabOk 100 ?_
      refine ⟨fun h => ?_, fun h => ?_⟩
      · -- one comes again
        show Go _ _ _ _
        refine Go_any mixed [] [(0, false), (2, false), (5, false), (7, false), (9, false), (12, false), (1, false), (3, false), (8, false), (10, false), (4, true), (6, true), (11, true), (13, true), (14, false), (15, false)] rfl (by kernel_rfl) (by kernel_rfl) [.blk b8 33 (encE (evQ K N a.id)), .blk b6 29 (encA a)] (fun _ => True) (fun _ _ _ h => h) (fun w hm _ => ⟨Holds.of_idx [0, 1] hm, trivial⟩) ?_
        refine VC_sound tabOk 100 ?_
        (repeat (first | refine Or.inl ⟨rfl, rfl, ?_⟩ | refine Or.inl ⟨rfl, ?_⟩ | refine Or.inr ?_))
        refine Go_aloneL rfl rfl (OpTo_pcall (v := .string (ownT a.o)) rfl rfl rfl rfl rfl (by kernel_rfl) (fun w hm _ => l14_owner a.o (bounds_u8 ho.2.2.1) w) ?_)
        refine And.intro (fun w hm _ => ⟨Holds.of_idx [0, 1] hm, trivial⟩) ?_
        refine VC_sound tabOk 100 ?_
        show Go _ _ _ _
        refine Go_sel [2, 3, 0, 1, 4, 5] rfl ?_
        show Go _ _ _ _
        refine Go_aloneL rfl rfl (OpTo_mcall (rtR b A c xs) ([.blk b8 33 (encE (evQ K N a.id)), .blk b6 29 (encA a)] ++ rfR bm A' c' xs) (List.Perm.of_eq rfl) rfl rfl rfl rfl rfl (by kernel_rfl) (fun w hb hm hio hsp k => retry_add b A c xs (evQ K N a.id) (ownT a.o) t (by omega) hN0 w _ k) ?_)
        rintro _ _ ⟨A2, c2, ys, rfl, hA2, rfl⟩
        refine And.intro (fun w hm _ => ⟨Holds.of_idx [2, 3] hm, trivial⟩) ?_
        refine VC_sound tabOk 100 ?_
        refine Go_aloneL rfl rfl (OpTo_pcall (v := .string (ownT a.o)) rfl rfl rfl rfl rfl (by kernel_rfl) (fun w hm _ => l14_owner a.o (bounds_u8 ho.2.2.1) w) ?_)
        refine And.intro (fun w hm _ => ⟨Holds.of_idx [2, 3] hm, trivial⟩) ?_
        refine VC_sound tabOk 100 ?_
        show Go _ _ _ _
        refine Go_sel [4, 5, 0, 1, 2, 3] rfl ?_
        show Go _ _ _ _
        refine Go_aloneL rfl rfl (OpTo_mcall (rfR bm A' c' xs) (rtR b A2 c2 ys ++ [.blk b8 33 (encE (evQ K N a.id)), .blk b6 29 (encA a)]) (List.Perm.of_eq rfl) rfl rfl rfl rfl rfl (by kernel_rfl) (fun w hb hm hio hsp k => r14_add bm A' c' xs (evQ K N a.id) (ownT a.o) t (by omega) ⟨hN0, hN1⟩ hG.rise w _ k) ?_)
        rintro _ _ ⟨A3, c3, zs, rfl, hA3, rfl⟩
        obtain rfl := AddT.unique hG.ok hA3 hA2
        refine And.intro (fun w hm _ => ⟨Holds.of_idx [4, 5] hm, trivial⟩) ?_
        refine VC_sound tabOk 100 ?_
        exact Go_put (A2, c2, A3, c3, zs) (hG.add hA2) ⟨rfl, rfl, rfl, rfl, by simp [SV.val], trivial⟩ (fun _ h => h.sel [2, 3, 0, 1] rfl)
      refine ⟨fun h5 => ?_, fun h5 => ?_⟩
      · -- what is due
        show Go _ _ _ _
        refine Go_ops rfl (OpTo_ncall rfl rfl rfl rfl rfl (by kernel_rfl) (fun w hm _ => retry_due b A c xs t w (hm.blk_at (i := 2) rfl) (hm.own_rd (i := 3) rfl) (by omega)) ?_)
        rintro _ _ ⟨A1, c1, rfl, rfl⟩
        refine VC_sound tabOk 100 ?_
        show Go _ _ _ _
        refine Go_ops rfl (OpTo_ncall rfl rfl rfl rfl rfl (by kernel_rfl) (fun w hm _ => r14_due bm A' c' xs t hG.rise w (hm.blk_at (i := 5) rfl) (hm.own_rd (i := 6) rfl) (by omega)) ?_)
        rintro _ _ ⟨A2, c2, rfl, rfl⟩
        refine VC_sound tabOk 100 ?_
        refine Go_ops rfl (OpTo_pcall (v := .bool true) rfl rfl rfl rfl rfl (by kernel_rfl) (fun w hm _ => r09_same A1 A2 c1 c2 (dueL t xs) w (hm.own_rd (i := 1) rfl) (hm.own_rd (i := 0) rfl) (by have := dueL_len t xs; omega)) ?_)
        refine VC_sound tabOk 100 ?_
        exact Go_put (A, c, A', c', xs) (hG.mono (by omega)) ⟨rfl, rfl, rfl, rfl, rfl, trivial⟩ (fun _ h => h.sel [4, 5, 6, 7] rfl)
      refine ⟨fun h6 => ?_, fun h6 => ?_⟩
      · -- what is taken
        refine Go_sel [2, 3, 4, 5] rfl ?_
        show Go _ _ _ _
        refine Go_ops rfl (OpTo_mcall (rtR b A c xs) (rfR bm A' c' xs) (List.Perm.of_eq rfl) rfl rfl rfl rfl rfl (by kernel_rfl) (fun w hb hm hio hsp k => retry_take b A c xs t (by omega) w _ k) ?_)
        rintro _ _ ⟨A1, c1, A2, c2, rfl, rfl⟩
        refine VC_sound tabOk 100 ?_
        refine Go_sel [3, 4, 0, 1, 2] rfl ?_
        show Go _ _ _ _
        refine Go_ops rfl (OpTo_mcall (rfR bm A' c' xs) (own encE 8 33 A1 c1 (dueL t xs) :: rtR b A2 c2 (xs.drop (dueL t xs).length)) (List.Perm.of_eq rfl) rfl rfl rfl rfl rfl (by kernel_rfl) (fun w hb hm hio hsp k => r14_take bm A' c' xs t (by omega) hG.rise w _ k) ?_)
        rintro _ _ ⟨A3, c3, A4, c4, rfl, rfl⟩
        refine VC_sound tabOk 100 ?_
        refine Go_ops rfl (OpTo_pcall (v := .bool true) rfl rfl rfl rfl rfl (by kernel_rfl) (fun w hm _ => r09_same A1 A3 c1 c3 (dueL t xs) w (hm.own_rd (i := 3) rfl) (hm.own_rd (i := 0) rfl) (by have := dueL_len t xs; omega)) ?_)
        refine VC_sound tabOk 100 ?_
        exact Go_put (A2, c2, A4, c4, xs.drop (dueL t xs).length) ((hG.drop _).mono (by omega)) ⟨rfl, rfl, rfl, rfl, rfl, trivial⟩ (fun _ h => h.sel [4, 5, 1, 2] rfl)
      · -- an owner's are gone
        show Go _ _ _ _
        refine Go_any mixed [] [(0, false), (1, false), (5, false), (6, false), (2, false), (7, false), (3, true), (4, true), (8, true), (9, true), (10, false), (11, false)] rfl (by kernel_rfl) (by kernel_rfl) [.blk b8 33 (encE (evQ K N a.id)), .blk b6 29 (encA a)] (fun _ => True) (fun _ _ _ h => h) (fun w hm _ => ⟨Holds.of_idx [0, 1] hm, trivial⟩) ?_
        refine VC_sound tabOk 100 ?_
        (repeat (first | refine Or.inl ⟨rfl, rfl, ?_⟩ | refine Or.inl ⟨rfl, ?_⟩ | refine Or.inr ?_))
        refine Go_aloneL rfl rfl (OpTo_pcall (v := .string (ownT a.o)) rfl rfl rfl rfl rfl (by kernel_rfl) (fun w hm _ => l14_owner a.o (bounds_u8 ho.2.2.1) w) ?_)
        refine And.intro (fun w hm _ => ⟨Holds.of_idx [0, 1] hm, trivial⟩) ?_
        refine VC_sound tabOk 100 ?_
        show Go _ _ _ _
        refine Go_sel [2, 3, 0, 1, 4, 5] rfl ?_
        show Go _ _ _ _
        refine Go_aloneL rfl rfl (OpTo_mcall (rtR b A c xs) ([.blk b8 33 (encE (evQ K N a.id)), .blk b6 29 (encA a)] ++ rfR bm A' c' xs) (List.Perm.of_eq rfl) rfl rfl rfl rfl rfl (by kernel_rfl) (fun w hb hm hio hsp k => retry_drop b A c xs (ownT a.o) (by omega) w _ k) ?_)
        rintro _ _ ⟨rfl, rfl⟩
        refine And.intro (fun w hm _ => ⟨Holds.of_idx [2, 3] hm, trivial⟩) ?_
        refine VC_sound tabOk 100 ?_
        refine Go_aloneL rfl rfl (OpTo_pcall (v := .string (ownT a.o)) rfl rfl rfl rfl rfl (by kernel_rfl) (fun w hm _ => l14_owner a.o (bounds_u8 ho.2.2.1) w) ?_)
        refine And.intro (fun w hm _ => ⟨Holds.of_idx [2, 3] hm, trivial⟩) ?_
        refine VC_sound tabOk 100 ?_
        show Go _ _ _ _
        refine Go_sel [4, 5, 0, 1, 2, 3] rfl ?_
        show Go _ _ _ _
        refine Go_aloneL rfl rfl (OpTo_mcall (rfR bm A' c' xs) (rtR b A c (leftL (ownT a.o) xs) ++ [.blk b8 33 (encE (evQ K N a.id)), .blk b6 29 (encA a)]) (List.Perm.of_eq rfl) rfl rfl rfl rfl rfl (by kernel_rfl) (fun w hb hm hio hsp k => r14_drop bm A' c' xs (ownT a.o) (by omega) w _ k) ?_)
        rintro _ _ ⟨rfl, A3, c3, rfl⟩
        refine And.intro (fun w hm _ => ⟨Holds.of_idx [4, 5] hm, trivial⟩) ?_
        refine VC_sound tabOk 100 ?_
        exact Go_put (A, c, A3, c3, leftL (ownT a.o) xs) ((hG.left _).mono (by omega)) ⟨rfl, rfl, rfl, rfl, by simp [SV.val], trivial⟩ (fun _ h => h.sel [2, 3, 0, 1] rfl)
    rintro ⟨A2, c2, A3, c3, ys⟩ hG2
    dsimp only at hG2 ⊢
    have hlen2 := hG2.len
    refine VC_sound tabOk 100 ?_
    refine ⟨fun h => by first | (simp at h; done) | (simp at h; omega) | (simp_all; done), fun _ => ?_⟩
    refine Go_ops rfl (OpTo_pcall (v := .bool true) rfl rfl rfl rfl rfl (by kernel_rfl) (fun w hm _ => l14_like b A2 c2 bm A3 c3 ys (by omega) w (hm.blk_at (i := 0) rfl) (hm.own_rd (i := 1) rfl) (hm.blk_at (i := 2) rfl) (hm.own_rd (i := 3) rfl)) ?_)
    refine VC_sound tabOk 100 ?_
    refine ⟨fun h => by first | (simp at h; done) | (simp at h; omega) | (simp_all; done), fun _ => ?_⟩
    refine ⟨_, wrap_i64 (n := (i : Int) + 1) (by omega) (by omega), ?_⟩
    exact Go_fin (i + 1, A2, c2, A3, c3, ys) ⟨by dsimp only; omega, hG2⟩ (by dsimp only; omega) ⟨rfl, rfl, rfl, rfl, trivial⟩ (fun _ h => h)
  refine VC_sound tabOk 100 ?_
  refine ⟨fun h => by first | (simp at h; done) | (simp at h; omega) | (simp_all; done), fun _ => ?_⟩
  rfl
end Go.Proofs.Ytcombnlddbimoaa
