/- The law RetryOrder: what its run comes to. -/
import Derived.Test.YtcombnlddbimoaaL14b
import Derived.Test.YtcombnlddbimoaaRxActs
import Derived.KernelRfl
set_option autoImplicit false
set_option linter.unusedVariables false
set_option linter.unusedSimpArgs false
namespace Go.Proofs.Ytcombnlddbimoaa
open Go.RX Go Go.RowKit Go.ChangeShapes Go.WideShapes Go.ChangeAt


theorem ord_strict {xs : List ItemM} (ho : OkT xs) (hr : RiseT xs) {i : Nat} {a b : ItemM} (hi : 0 < i) (ha : xs[i - 1]? = some a) (hb : xs[i]? = some b) :
    a.at_ < b.at_ ∨ (a.at_ = b.at_ ∧ (a.ev.id < b.ev.id ∨ (a.ev.id = b.ev.id ∧ ltS a.ev.owner b.ev.owner = true))) := by
  obtain ⟨e1, rfl⟩ := List.getElem?_eq_some_iff.1 ha
  obtain ⟨e2, rfl⟩ := List.getElem?_eq_some_iff.1 hb
  have h1 := List.pairwise_iff_getElem.1 hr (i - 1) i e1 e2 (by omega)
  have h2 := List.pairwise_iff_getElem.1 (List.pairwise_map.1 (okT_keys ho)) (i - 1) i e1 e2 (by omega)
  rw [keyT_lt] at h1
  by_cases c1 : xs[i].at_ = xs[i - 1].at_
  · rw [if_pos c1] at h1
    by_cases c2 : xs[i].ev.id = xs[i - 1].ev.id
    · rw [if_pos c2] at h1
      refine .inr ⟨c1.symm, .inr ⟨c2.symm, ?_⟩⟩
      cases hh : ltS xs[i - 1].ev.owner xs[i].ev.owner with
      | true => rfl
      | false => exact absurd (by simp only [keyT, Prod.mk.injEq]; exact ⟨c1.symm, c2.symm, ordS.tri _ _ hh h1⟩) h2
    · rw [if_neg c2] at h1
      have := of_decide_eq_false h1
      exact .inr ⟨c1.symm, .inl (by omega)⟩
  · rw [if_neg c1] at h1
    have := of_decide_eq_false h1
    exact .inl (by omega)
theorem tmod4_le (n : Int) : n.tmod 4 ≤ 3 := by
  have := Int.tmod_lt_of_pos n (b := 4) (by decide); omega

set_option maxHeartbeats 8000000 in
theorem l14_RetryOrder (A0 : Option Addr) (c0 : Nat) (l : List RtActM) (w0 : World) (hr : RdW w0 A0 (l.flatMap encA)) (hok : ∀ z ∈ l, okA w0 z) :
    Calls Try.prog 3 #[.slice A0 l.length c0] w0 fun e w' => e = .returned (.bool true) ∧ BelowD w0.heap.size w0 w' := by
  refine enterP (tab := tab) Try.func3 rfl Try.ntmps3 rfl (args := [_]) rfl ?_
  refine VC_sound tabOk 100 ?_
  refine Go_ops rfl (OpTo_pcall (v := .bool true) rfl rfl rfl rfl rfl (by kernel_rfl) (fun w hm _ => l14_seven w) ?_)
  refine VC_sound tabOk 100 ?_
  refine ⟨fun h => by first | (simp at h; done) | (simp at h; omega) | (simp_all; done), fun _ => ?_⟩
  refine ⟨fun hc => ?_, fun hc => ?_⟩
  · refine Go_ops rfl (OpTo_pcall (v := .bool true) rfl rfl rfl rfl rfl (by kernel_rfl) (fun w hm _ => l14_seven w) ?_)
    refine VC_sound tabOk 100 ?_
    rfl
  have hl40 : l.length ≤ 40 := by have := of_decide_eq_false hc; omega
  show Go _ _ _ _
  refine Go_ops rfl (OpTo_ncall rfl rfl rfl rfl rfl (by kernel_rfl) (fun w hm _ => retry_new w) ?_)
  rintro _ _ ⟨b, rfl, rfl⟩
  refine VC_sound tabOk 100 ?_
  refine Go_loop (σ := Nat × Option Addr × Nat × List ItemM) (fun s => [(0, .v (.slice A0 l.length c0)), (3, .v (.pointer (some ⟨b, 0, none⟩))), (4, .v (.int .i64 s.1))]) (fun s => rtR b s.2.1 s.2.2.1 s.2.2.2) (fun s => s.1 ≤ l.length ∧ GoodT s.1 s.2.2.2 ∧ ∀ x ∈ s.2.2.2, x.at_ ≤ 3) (fun s => l.length - s.1) (0, none, 0, []) ⟨Nat.zero_le _, GoodT.nil, by simp⟩ ⟨rfl, rfl, rfl, trivial⟩ (fun _ h => h) ?_
  rintro ⟨i, A, c, xs⟩ ⟨hi, hG, h3⟩
  dsimp only at hi hG h3 ⊢
  have hlen := hG.len
  by_cases hlt : i < l.length
  · obtain ⟨ba, oa, rfl⟩ := RdW.some encA_is hr (ne_nil_of_lt hlt)
    obtain ⟨a, hga⟩ : ∃ a, l[i]? = some a := ⟨_, List.getElem?_eq_getElem hlt⟩
    have ho := hok a (List.mem_of_getElem? hga)
    have hid := bounds_u8 ho.2.1
    obtain ⟨K, hK, hK9⟩ := tmod_nat14 9 (by decide) hid.1
    refine VC_sound tabOk 100 ?_
    refine ⟨fun _ => ?_, fun h => by first | (simp at h; done) | (simp at h; omega) | (simp_all; done)⟩
    show Go _ _ _ _
    refine Go_any mixed [21] [(0, false), (1, false), (2, false), (3, false), (4, false), (9, false), (10, false), (11, false), (12, false), (15, false), (16, false), (17, false), (18, false), (5, false), (6, false), (7, false), (8, false), (13, false), (19, false), (20, false), (14, true), (21, true)] rfl (by kernel_rfl) (by kernel_rfl) [] (fun w => RdW w (some ⟨ba, oa, none⟩) (l.flatMap encA)) (fun w w' hk h => h.old hk) (fun w hm _ => ⟨trivial, hr.mod hm⟩) ?_
    refine VC_sound tabOk 100 ?_
    refine ⟨⟨by omega, by omega⟩, ?_⟩
    refine ⟨⟨by omega, by omega⟩, ?_⟩
    refine ⟨⟨by omega, by omega⟩, ?_⟩
    refine Go_first (v := .int .u8 a.id) rfl rfl rfl rfl (fun w _ hw => rxLoadPart tabOk rfl encA_is hw hga (off := 1) rfl (by simp only [addA]; rfl)) ?_
    refine VC_sound tabOk 100 ?_
    refine ⟨by decide, _, hK.symm, ?_⟩
    refine ⟨_, wrap_i64 (n := (K : Int)) (by omega) (by omega), ?_⟩
    refine Go_first (v := .int .u8 a.o) rfl rfl rfl rfl (fun w _ hw => rxLoadPart tabOk rfl encA_is hw hga (off := 2) rfl (by simp only [addA]; rfl)) ?_
    refine VC_sound tabOk 100 ?_
    refine Go_first (v := .int .i64 a.at_) rfl rfl rfl rfl (fun w _ hw => rxLoadPart tabOk rfl encA_is hw hga (off := 3) rfl (by simp only [addA]; rfl)) ?_
    refine VC_sound tabOk 100 ?_
    refine ⟨by decide, _, rfl, ?_⟩
    refine Go_aloneL rfl rfl (OpTo_pcall (v := .string (ownT a.o)) rfl rfl rfl rfl rfl (by kernel_rfl) (fun w hm _ => l14_owner a.o (bounds_u8 ho.2.2.1) w) ?_)
    refine And.intro (fun w hm _ => ⟨trivial, hr.mod hm⟩) ?_
    refine VC_sound tabOk 100 ?_
    refine Go_aloneM rfl rfl rfl (OpTo_mcall (rtR b A c xs) [] (List.Perm.of_eq (by simp)) rfl rfl rfl rfl rfl (by kernel_rfl) (fun w hb hm hio hsp k => retry_add b A c xs (evI K) (ownT a.o) (a.at_.tmod 4) (by omega) (Int.le_refl 0) w _ k) ?_)
    rintro _ _ ⟨A2, c2, ys, rfl, hA, rfl⟩
    refine VC_sound tabOk 100 ?_
    refine ⟨_, wrap_i64 (n := (i : Int) + 1) (by omega) (by omega), ?_⟩
    refine Go_fin (i + 1, A2, c2, ys) ⟨by dsimp only; omega, hG.add hA, fun x hx => ?_⟩ (by dsimp only; omega) ⟨rfl, rfl, rfl, trivial⟩ (fun _ h => h.sel [0, 1] rfl)
    rcases hA with ⟨_, p1, _⟩ | ⟨_, rfl⟩
    · rcases List.mem_append.1 (p1.mem_iff.2 hx) with hx | hx
      · exact h3 x hx
      · simp at hx; subst hx; exact tmod4_le _
    · exact h3 x hx
  refine VC_sound tabOk 100 ?_
  refine ⟨fun h => by first | (simp at h; done) | (simp at h; omega) | (simp_all; done), fun _ => ?_⟩
  show Go _ _ _ _
  refine Go_ops rfl (OpTo_ncall rfl rfl rfl rfl rfl (by kernel_rfl) (fun w hm _ => retry_all b A c xs w (hm.blk_at (i := 0) rfl) (hm.own_rd (i := 1) rfl) (by omega)) ?_)
  rintro _ _ ⟨A1, c1, rfl, rfl⟩
  refine VC_sound tabOk 100 ?_
  refine Go_loop (σ := Nat) (fun i => [(3, .v (.pointer (some ⟨b, 0, none⟩))), (5, .v (.slice A1 xs.length c1)), (6, .v (.int .i64 i))]) (fun _ => own encT 9 38 A1 c1 xs :: rtR b A c xs) (fun i => 1 ≤ i ∧ i ≤ xs.length + 1) (fun i => xs.length + 1 - i) 1 ⟨Nat.le_refl _, by omega⟩ ⟨rfl, rfl, rfl, trivial⟩ (fun _ h => h) ?_
  rintro i ⟨hi1, hi⟩
  dsimp only at hi1 hi ⊢
  by_cases hlt : i < xs.length
  · obtain ⟨a, hga⟩ : ∃ a, xs[i - 1]? = some a := ⟨_, List.getElem?_eq_getElem (by omega)⟩
    obtain ⟨b', hgb⟩ : ∃ a, xs[i]? = some a := ⟨_, List.getElem?_eq_getElem hlt⟩
    have hst := ord_strict hG.ok hG.rise (by omega) hga hgb
    refine Go_with _ (fun w hm _ => hm.own_some (i := 0) rfl (ne_nil_of_lt hlt)) ?_
    rintro ⟨bx, ox, rfl⟩
    have x1 : ((i : Int) - 1).toNat = i - 1 := by omega
    refine VC_sound tabOk 100 ?_
    refine ⟨fun _ => ?_, fun h => by first | (simp at h; done) | (simp at h; omega) | (simp_all; done)⟩
    show Go _ _ _ _
    refine Go_any mixed [12] [(0, false), (1, false), (2, false), (3, false), (5, false), (6, false), (7, false), (4, false), (8, false), (99, false), (99, false), (99, false), (99, false)] rfl (by kernel_rfl) (by kernel_rfl) [] (fun w => RdW w (some ⟨bx, ox, none⟩) (xs.flatMap encT)) (fun w w' hk h => h.old hk) (fun w hm _ => ⟨trivial, by exact Mod.own_rd (k := 9) (T := 38) (c := c1) (i := 0) hm rfl⟩) ?_
    refine VC_sound tabOk 100 ?_
    refine ⟨_, wrap_i64 (n := (i : Int) - 1) (by omega) (by omega), ?_⟩
    refine ⟨⟨by omega, by omega⟩, ?_⟩
    refine ⟨⟨by omega, by omega⟩, ?_⟩
    refine Go_first (v := mkT a) rfl rfl rfl rfl (fun w _ hw => rxLoadRow tabOk rfl encT_is rfl (fun h => by first | rfl | cases h) hw hga (by simp only [addA, x1]) rfl) ?_
    refine VC_sound tabOk 100 ?_
    refine Go_first (v := mkT b') rfl rfl rfl rfl (fun w _ hw => rxLoadRow tabOk rfl encT_is rfl (fun h => by first | rfl | cases h) hw hgb (by simp only [addA]; rfl) rfl) ?_
    refine VC_sound tabOk 100 ?_
    refine Go_join (E := ?jE) (k := ?jk) (σ := Nat × Nat) (fun s => [(3, .v (.pointer (some ⟨b, 0, none⟩))), (5, .v (.slice (some ⟨bx, ox, none⟩) xs.length c1)), (6, .v (.int .i64 i)), (7, .v (.pointer (some ⟨s.1, 0, none⟩))), (8, .v (.pointer (some ⟨s.2, 0, none⟩)))])
      (fun s => .blk s.1 38 (encT a) :: .blk s.2 38 (encT b') :: own encT 9 38 (some ⟨bx, ox, none⟩) c1 xs :: rtR b A c xs) (fun _ => True) ?jm ?jr
    case jm =>
      intro J
      refine Go_forkV 9 10 [(10, true), (11, true), (12, true)] [(9, true), (11, true), (12, true)] (by kernel_rfl) rfl rfl (by kernel_rfl) (by kernel_rfl) rfl rfl rfl rfl (fun R w hm _ => ⟨trivial, by exact Mod.own_rd (k := 9) (T := 38) (c := c1) (i := 1) hm rfl⟩) tabOk ?_ ?_
      · intro b7 _
        refine ⟨⟨_, rfl⟩, ?_⟩
        refine VC_sound tabOk 100 ?_
        intro b8 _
        show Go _ _ _ _
        refine Go_aloneL rfl rfl (OpTo_do tabOk ?_)
        (repeat (first | refine Or.inl ⟨rfl, rfl, ?_⟩ | refine Or.inl ⟨rfl, ?_⟩ | refine Or.inr ?_))
        refine And.intro (fun w hm _ => ⟨trivial, by exact Mod.own_rd (k := 9) (T := 38) (c := c1) (i := 2) hm rfl⟩) ?_
        refine VC_sound tabOk 2 ?_
        (repeat (first | refine Or.inl ⟨rfl, rfl, ?_⟩ | refine Or.inl ⟨rfl, ?_⟩ | refine Or.inr ?_))
        refine J (b7, b8) trivial _ _ ?_ ?_
        · exact ⟨rfl, rfl, rfl, rfl, rfl, trivial⟩
        · exact fun _ h => h.sel [1, 0, 2, 3, 4] rfl
      · intro b8 _
        refine ⟨⟨_, rfl⟩, ?_⟩
        refine VC_sound tabOk 100 ?_
        intro b7 _
        show Go _ _ _ _
        refine Go_aloneL rfl rfl (OpTo_do tabOk ?_)
        (repeat (first | refine Or.inl ⟨rfl, rfl, ?_⟩ | refine Or.inl ⟨rfl, ?_⟩ | refine Or.inr ?_))
        refine And.intro (fun w hm _ => ⟨trivial, by exact Mod.own_rd (k := 9) (T := 38) (c := c1) (i := 2) hm rfl⟩) ?_
        refine VC_sound tabOk 2 ?_
        (repeat (first | refine Or.inl ⟨rfl, rfl, ?_⟩ | refine Or.inl ⟨rfl, ?_⟩ | refine Or.inr ?_))
        refine J (b7, b8) trivial _ _ ?_ ?_
        · exact ⟨rfl, rfl, rfl, rfl, rfl, trivial⟩
        · exact fun _ h => h.sel [0, 1, 2, 3, 4] rfl
    case jr =>
      rintro ⟨b7, b8⟩ _
      dsimp only
      refine VC_sound tabOk 100 ?_
      (repeat (first | refine Or.inl ⟨rfl, rfl, ?_⟩ | refine Or.inl ⟨rfl, ?_⟩ | refine Or.inr ?_))
      rcases hst with h1 | ⟨h1, h2⟩
      · refine ⟨fun h => by first | (simp at h; done) | (simp at h; omega) | (simp_all; done), fun _ => ?_⟩
        (repeat (first | refine Or.inl ⟨rfl, rfl, ?_⟩ | refine Or.inl ⟨rfl, ?_⟩ | refine Or.inr ?_))
        refine ⟨fun h => by first | (simp at h; done) | (simp at h; omega) | (simp_all; done), fun _ => ?_⟩
        refine ⟨_, wrap_i64 (n := (i : Int) + 1) (by omega) (by omega), ?_⟩
        exact Go_fin (i + 1) (by omega) (by omega) ⟨rfl, rfl, rfl, trivial⟩ (fun _ h => h.sel [2, 3, 4] rfl)
      · refine ⟨fun h => by first | (simp at h; done) | (simp at h; omega) | (simp_all; done), fun _ => ?_⟩
        (repeat (first | refine Or.inl ⟨rfl, rfl, ?_⟩ | refine Or.inl ⟨rfl, ?_⟩ | refine Or.inr ?_))
        refine ⟨fun _ => ?_, fun h => by first | (simp at h; done) | (simp at h; omega) | (simp_all; done)⟩
        (repeat (first | refine Or.inl ⟨rfl, rfl, ?_⟩ | refine Or.inl ⟨rfl, ?_⟩ | refine Or.inr ?_))
        rcases h2 with h2 | ⟨h2, h3'⟩
        · refine ⟨fun h => by first | (simp at h; done) | (simp at h; omega) | (simp_all; done), fun _ => ?_⟩
          (repeat (first | refine Or.inl ⟨rfl, rfl, ?_⟩ | refine Or.inl ⟨rfl, ?_⟩ | refine Or.inr ?_))
          refine ⟨fun h => by first | (simp at h; done) | (simp at h; omega) | (simp_all; done), fun _ => ?_⟩
          refine ⟨_, wrap_i64 (n := (i : Int) + 1) (by omega) (by omega), ?_⟩
          exact Go_fin (i + 1) (by omega) (by omega) ⟨rfl, rfl, rfl, trivial⟩ (fun _ h => h.sel [2, 3, 4] rfl)
        · refine ⟨fun h => by first | (simp at h; done) | (simp at h; omega) | (simp_all; done), fun _ => ?_⟩
          (repeat (first | refine Or.inl ⟨rfl, rfl, ?_⟩ | refine Or.inl ⟨rfl, ?_⟩ | refine Or.inr ?_))
          refine ⟨fun _ => ?_, fun h => by first | (simp at h; done) | (simp at h; omega) | (simp_all; done)⟩
          (repeat (first | refine Or.inl ⟨rfl, rfl, ?_⟩ | refine Or.inl ⟨rfl, ?_⟩ | refine Or.inr ?_))
          refine ⟨fun h => by rw [show Op.bytesLess a.ev.owner.toList b'.ev.owner.toList = true from h3'] at h; simp at h, fun _ => ?_⟩
          refine ⟨_, wrap_i64 (n := (i : Int) + 1) (by omega) (by omega), ?_⟩
          exact Go_fin (i + 1) (by omega) (by omega) ⟨rfl, rfl, rfl, trivial⟩ (fun _ h => h.sel [2, 3, 4] rfl)
  refine VC_sound tabOk 100 ?_
  refine ⟨fun h => by first | (simp at h; done) | (simp at h; omega) | (simp_all; done), fun _ => ?_⟩
  refine Go_loop (σ := Nat × List ItemM) (fun s => [(3, .v (.pointer (some ⟨b, 0, none⟩))), (5, .v (.slice A1 xs.length c1)), (9, .v (.int .i64 s.1))]) (fun s => own encT 9 38 A1 c1 s.2 :: rtR b A c xs) (fun s => s.1 ≤ xs.length ∧ s.2.length = xs.length) (fun s => xs.length - s.1) (0, xs) ⟨Nat.zero_le _, rfl⟩ ⟨rfl, rfl, rfl, trivial⟩ (fun _ h => h) ?_
  rintro ⟨i, ys⟩ ⟨hi, hyl⟩
  dsimp only at hi hyl ⊢
  by_cases hlt : i < xs.length
  · obtain ⟨a, hga⟩ : ∃ a, ys[i]? = some a := ⟨_, List.getElem?_eq_getElem (by omega)⟩
    refine Go_with _ (fun w hm _ => hm.own_some (i := 0) rfl (ne_nil_of_lt (by omega : 0 < ys.length))) ?_
    rintro ⟨bx, ox, rfl⟩
    refine VC_sound tabOk 100 ?_
    refine ⟨fun _ => ?_, fun h => by first | (simp at h; done) | (simp at h; omega) | (simp_all; done)⟩
    refine ⟨⟨by omega, by omega⟩, ?_⟩
    (repeat (first | refine Or.inl ⟨rfl, rfl, ?_⟩ | refine Or.inl ⟨rfl, ?_⟩ | refine Or.inr ?_))
    refine Go_ops rfl (OpTo_storePart tabOk encT_is (n := i) (j := 0) (u := a) (u' := ⟨99, a.ev⟩) 0 rfl rfl rfl rfl rfl rfl hga rfl rfl rfl (by simp only [addA]; rfl) ?_)
    refine VC_sound tabOk 100 ?_
    refine ⟨_, wrap_i64 (n := (i : Int) + 1) (by omega) (by omega), ?_⟩
    exact Go_fin (i + 1, ys.set i ⟨99, a.ev⟩) ⟨by dsimp only; omega, by simpa using hyl⟩ (by dsimp only; omega) ⟨rfl, rfl, rfl, trivial⟩ (fun _ h => h)
  refine VC_sound tabOk 100 ?_
  refine ⟨fun h => by first | (simp at h; done) | (simp at h; omega) | (simp_all; done), fun _ => ?_⟩
  have dall : (dueL 3 xs).length = xs.length := by
    rw [dueL, List.filter_eq_self.2, List.length_map]
    intro x hx; simpa using h3 x hx
  show Go _ _ _ _
  refine Go_ops rfl (OpTo_ncall rfl rfl rfl rfl rfl (by kernel_rfl) (fun w hm _ => retry_due b A c xs 3 w (hm.blk_at (i := 1) rfl) (hm.own_rd (i := 2) rfl) (by omega)) ?_)
  rintro _ _ ⟨A7, c7, rfl, rfl⟩
  rw [dall]
  refine VC_sound tabOk 100 ?_
  exact congrArg Value.bool (by simp)
end Go.Proofs.Ytcombnlddbimoaa
