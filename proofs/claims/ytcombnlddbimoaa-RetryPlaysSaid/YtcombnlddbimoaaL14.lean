/- The laws of layer 14: the example, RetryNil, RetryTries, RetryFull. -/
import Derived.Test.YtcombnlddbimoaaRetry
set_option autoImplicit false
set_option linter.unusedVariables false
set_option linter.unusedSimpArgs false
namespace Go.Proofs.Ytcombnlddbimoaa
open Go.RX Go Go.RowKit


abbrev tA : ByteArray := ⟨#[97]⟩
abbrev evI (n : Int) : EventM := ⟨n, 0, ⟨#[]⟩, 0, 0, 0, 0, ⟨#[]⟩⟩
abbrev evIT (n t : Int) : EventM := ⟨n, 0, ⟨#[]⟩, t, 0, 0, 0, ⟨#[]⟩⟩
theorem tA_ne : ¬ (tA.toList == ByteArray.toList ⟨#[]⟩) = true := fun h => by simp at h
theorem addE_first (e : EventM) : addE [] e tA = 0 := by
  rw [addE, if_neg tA_ne, if_neg (by simp), if_neg (by simp)]
theorem AddT.first {e : EventM} {at_ : Int} {ys : List ItemM} (h : AddT [] e tA at_ ys) : ys = [newIt e tA at_] := by
  rcases h with ⟨_, h1, _⟩ | ⟨h0, _⟩
  · exact (List.singleton_perm.1 h1).symm
  · exact absurd (addE_first e) h0

set_option maxHeartbeats 2000000 in
theorem l14_seven (w0 : World) : Calls Try.prog 9 #[] w0 fun e w' => e = .returned (.bool true) ∧ BelowD w0.heap.size w0 w' := by
  refine enterP (tab := tab) Try.func9 rfl Try.ntmps9 rfl (args := []) rfl ?_
  refine VC_sound tabOk 100 ?_
  show Go _ _ _ _
  refine Go_ops rfl (OpTo_ncall rfl rfl rfl rfl rfl (by kernel_rfl) (fun w hm _ => retry_new w) ?_)
  rintro _ _ ⟨b, rfl, rfl⟩
  refine VC_sound tabOk 100 ?_
  show Go _ _ _ _
  refine Go_ops rfl (OpTo_mcall (rtR b none 0 []) [] (List.Perm.of_eq (by simp)) rfl rfl rfl rfl rfl (by kernel_rfl) (fun w hb hm hio hsp k => retry_add b none 0 [] (evI 7) tA 5 (by simp) (by decide) w _ k) ?_)
  rintro _ _ ⟨A, c, ys, rfl, hA, rfl⟩
  have hy := hA.first
  subst hy
  rw [addE_first]
  have d5 : dueL 5 [newIt (evI 7) tA 5] = [(newIt (evI 7) tA 5).ev] := by rfl
  have d4 : dueL 4 [newIt (evI 7) tA 5] = [] := by rfl
  refine VC_sound tabOk 100 ?_
  show Go _ _ _ _
  refine Go_ops rfl (OpTo_ncall rfl rfl rfl rfl rfl (by kernel_rfl) (fun w hm _ => d5 ▸ retry_due b A c [newIt (evI 7) tA 5] 5 w (hm.blk_at (i := 0) rfl) (hm.own_rd (i := 1) rfl) (by simp)) ?_)
  rintro _ _ ⟨A2, c2, rfl, rfl⟩
  refine Go_with _ (fun w hm _ => hm.own_some (i := 0) rfl (by simp)) ?_
  rintro ⟨b2, o2, rfl⟩
  refine VC_sound tabOk 100 ?_
  refine ⟨fun _ => ?_, fun h => by simp at h⟩
  show Go _ _ _ _
  refine Go_ops rfl (OpTo_ncall rfl rfl rfl rfl rfl (by kernel_rfl) (fun w hm _ => d4 ▸ retry_due b A c [newIt (evI 7) tA 5] 4 w (hm.blk_at (i := 1) rfl) (hm.own_rd (i := 2) rfl) (by simp)) ?_)
  rintro _ _ ⟨A3, c3, rfl, rfl⟩
  refine VC_sound tabOk 100 ?_
  refine ⟨fun _ => ?_, fun h => by simp at h⟩
  refine ⟨fun _ => ?_, fun h => by simp at h⟩
  refine ⟨⟨by decide, by decide⟩, ?_⟩
  (repeat (first | refine Or.inl ⟨rfl, rfl, ?_⟩ | refine Or.inl ⟨rfl, ?_⟩ | refine Or.inr ?_))
  refine Go_ops rfl (OpTo_loadPart tabOk encE_is (n := 0) (j := 0) (.int .i64 7) rfl rfl rfl (fun w hm _ => hm.own_rd (i := 1) rfl) rfl rfl (by simp only [addA]; rfl) ?_)
  refine VC_sound tabOk 100 ?_
  refine ⟨fun _ => ?_, fun h => by simp at h⟩
  refine ⟨⟨by decide, by decide⟩, ?_⟩
  (repeat (first | refine Or.inl ⟨rfl, rfl, ?_⟩ | refine Or.inl ⟨rfl, ?_⟩ | refine Or.inr ?_))
  refine Go_ops rfl (OpTo_loadPart tabOk encE_is (n := 0) (j := 2) (.string tA) rfl rfl rfl (fun w hm _ => hm.own_rd (i := 1) rfl) rfl rfl (by simp only [addA]; rfl) ?_)
  refine VC_sound tabOk 100 ?_
  refine ⟨fun _ => ?_, fun h => by simp at h⟩
  refine ⟨⟨by decide, by decide⟩, ?_⟩
  (repeat (first | refine Or.inl ⟨rfl, rfl, ?_⟩ | refine Or.inl ⟨rfl, ?_⟩ | refine Or.inr ?_))
  refine Go_ops rfl (OpTo_loadPart tabOk encE_is (n := 0) (j := 3) (.int .i64 1) rfl rfl rfl (fun w hm _ => hm.own_rd (i := 1) rfl) rfl rfl (by simp only [addA]; rfl) ?_)
  refine VC_sound tabOk 100 ?_
  rfl

set_option maxHeartbeats 2000000 in
theorem l14_RetryNil (now : Int) (w0 : World) : Calls Try.prog 8 #[.int .i64 now] w0 fun e w' => e = .returned (.bool true) ∧ BelowD w0.heap.size w0 w' := by
  refine enterP (tab := tab) Try.func8 rfl Try.ntmps8 rfl (args := [_]) rfl ?_
  refine VC_sound tabOk 100 ?_
  refine Go_ops rfl (OpTo_pcall (v := .bool true) rfl rfl rfl rfl rfl (by kernel_rfl) (fun w hm _ => l14_seven w) ?_)
  refine VC_sound tabOk 100 ?_
  refine ⟨fun _ => ?_, fun h => by simp at h⟩
  refine Go_ops rfl (OpTo_pcall (v := .int .i64 4) rfl rfl rfl rfl rfl (by kernel_rfl) (fun w hm _ => retry_add_nil (evI 1) tA now w) ?_)
  refine VC_sound tabOk 100 ?_
  refine ⟨fun _ => ?_, fun h => by simp at h⟩
  refine Go_ops rfl (OpTo_pcall (v := .slice none 0 0) rfl rfl rfl rfl rfl (by kernel_rfl) (fun w hm _ => retry_all_nil w) ?_)
  refine VC_sound tabOk 100 ?_
  refine Go_ops rfl (OpTo_pcall (v := .slice none 0 0) rfl rfl rfl rfl rfl (by kernel_rfl) (fun w hm _ => retry_due_nil now w) ?_)
  refine VC_sound tabOk 100 ?_
  refine ⟨_, wrap_i64 (n := (0 : Int) + 0) (by omega) (by omega), ?_⟩
  refine Go_ops rfl (OpTo_pcall (v := .slice none 0 0) rfl rfl rfl rfl rfl (by kernel_rfl) (fun w hm _ => retry_take_nil now w) ?_)
  refine VC_sound tabOk 100 ?_
  refine ⟨_, wrap_i64 (n := (0 : Int)) (by omega) (by omega), ?_⟩
  refine Go_ops rfl (OpTo_pcall (v := .int .i64 0) rfl rfl rfl rfl rfl (by kernel_rfl) (fun w hm _ => retry_drop_nil tA w) ?_)
  refine VC_sound tabOk 100 ?_
  refine ⟨_, wrap_i64 (n := (0 : Int)) (by omega) (by omega), ?_⟩
  rfl

theorem and_le (a : Int) : 0 ≤ IntKind.i64.wrap (BitVec.ofInt IntKind.i64.bits a &&& BitVec.ofInt IntKind.i64.bits 2147483647).toNat ∧ IntKind.i64.wrap (BitVec.ofInt IntKind.i64.bits a &&& BitVec.ofInt IntKind.i64.bits 2147483647).toNat ≤ 2147483647 := by
  have h : (BitVec.ofInt IntKind.i64.bits a &&& BitVec.ofInt IntKind.i64.bits 2147483647).toNat ≤ 2147483647 := by
    rw [BitVec.toNat_and]
    exact Nat.le_trans Nat.and_le_right (Nat.le_of_eq rfl)
  rw [← wrap_i64 (by omega) (by omega)]
  omega

theorem triesUp_lt {t : Int} (h : t < 2147483647) : triesUp t = t + 1 := by rw [triesUp, if_neg (by omega)]
theorem triesUp_max : triesUp 2147483647 = 2147483647 := rfl

set_option maxHeartbeats 4000000 in
theorem l14_RetryTries (t : Int) (w0 : World) : Calls Try.prog 6 #[.int .i64 t] w0 fun e w' => e = .returned (.bool true) ∧ BelowD w0.heap.size w0 w' := by
  obtain ⟨N, hN, hN0, hN1⟩ : ∃ N : Int, N = IntKind.i64.wrap (BitVec.ofInt IntKind.i64.bits t &&& BitVec.ofInt IntKind.i64.bits 2147483647).toNat ∧ 0 ≤ N ∧ N ≤ 2147483647 := ⟨_, rfl, and_le t⟩
  refine enterP (tab := tab) Try.func6 rfl Try.ntmps6 rfl (args := [_]) rfl ?_
  refine Go_join (E := ?jE) (k := ?jk) (σ := Int) (fun n => [(3, .v (.int .i64 n))]) (fun _ => []) (fun n => 0 ≤ n ∧ n ≤ 2147483647) ?jm ?jr
  case jm =>
    intro J
    refine VC_sound tabOk 100 ?_
    refine ⟨N, hN, ?_⟩
    refine ⟨fun h => ?_, fun h => ?_⟩
    · refine J 2147483647 ⟨by decide, by decide⟩ _ _ ?_ ?_
      · exact ⟨rfl, trivial⟩
      · exact fun _ h => h
    · refine J N ⟨hN0, hN1⟩ _ _ ?_ ?_
      · exact ⟨rfl, trivial⟩
      · exact fun _ h => h
  case jr =>
    rintro n ⟨hn0, hn1⟩
    show Go _ _ _ _
    refine Go_ops rfl (OpTo_ncall rfl rfl rfl rfl rfl (by kernel_rfl) (fun w hm _ => retry_new w) ?_)
    rintro _ _ ⟨b, rfl, rfl⟩
    refine VC_sound tabOk 100 ?_
    show Go _ _ _ _
    refine Go_ops rfl (OpTo_mcall (rtR b none 0 []) [] (List.Perm.of_eq (by simp)) rfl rfl rfl rfl rfl (by kernel_rfl) (fun w hb hm hio hsp k => retry_add b none 0 [] (evIT 1 n) tA 0 (by simp) hn0 w _ k) ?_)
    rintro _ _ ⟨A, c, ys, rfl, hA, rfl⟩
    have hy := hA.first
    subst hy
    have d0 : dueL 0 [newIt (evIT 1 n) tA 0] = [(newIt (evIT 1 n) tA 0).ev] := by rfl
    refine VC_sound tabOk 100 ?_
    show Go _ _ _ _
    refine Go_ops rfl (OpTo_mcall (rtR b A c [newIt (evIT 1 n) tA 0]) [] (List.Perm.of_eq (by simp)) rfl rfl rfl rfl rfl (by kernel_rfl) (fun w hb hm hio hsp k => d0 ▸ retry_take b A c [newIt (evIT 1 n) tA 0] 0 (by simp) w _ k) ?_)
    rintro _ _ ⟨A1, c1, A', c', rfl, rfl⟩
    refine Go_with _ (fun w hm _ => hm.own_some (i := 0) rfl (by simp)) ?_
    rintro ⟨b2, o2, rfl⟩
    refine VC_sound tabOk 100 ?_
    refine ⟨_, wrap_i64 (n := n + 1) (by omega) (by omega), ?_⟩
    by_cases hn : n = 2147483647
    · subst hn
      refine ⟨fun _ => ?_, fun h => by simp at h⟩
      refine Go_ops rfl (OpTo_pcall (v := .bool true) rfl rfl rfl rfl rfl (by kernel_rfl) (fun w hm _ => l14_seven w) ?_)
      refine VC_sound tabOk 100 ?_
      refine ⟨fun _ => ?_, fun h => by simp at h⟩
      refine ⟨fun _ => ?_, fun h => by simp at h⟩
      refine ⟨⟨by decide, by simp⟩, ?_⟩
      (repeat (first | refine Or.inl ⟨rfl, rfl, ?_⟩ | refine Or.inl ⟨rfl, ?_⟩ | refine Or.inr ?_))
      refine Go_ops rfl (OpTo_loadPart tabOk encE_is (n := 0) (j := 3) (.int .i64 2147483647) rfl rfl rfl (fun w hm _ => hm.own_rd (i := 0) rfl) rfl rfl (by simp only [addA]; rfl) ?_)
      refine VC_sound tabOk 100 ?_
      rfl
    · refine ⟨fun h => by first | (simp at h; done) | (simp at h; omega) | (simp_all; done), fun _ => ?_⟩
      refine Go_ops rfl (OpTo_pcall (v := .bool true) rfl rfl rfl rfl rfl (by kernel_rfl) (fun w hm _ => l14_seven w) ?_)
      refine VC_sound tabOk 100 ?_
      refine ⟨fun _ => ?_, fun h => by simp at h⟩
      refine ⟨fun _ => ?_, fun h => by simp at h⟩
      refine ⟨⟨by decide, by simp⟩, ?_⟩
      (repeat (first | refine Or.inl ⟨rfl, rfl, ?_⟩ | refine Or.inl ⟨rfl, ?_⟩ | refine Or.inr ?_))
      refine Go_ops rfl (OpTo_loadPart tabOk encE_is (n := 0) (j := 3) (.int .i64 (triesUp n)) rfl rfl rfl (fun w hm _ => hm.own_rd (i := 0) rfl) rfl rfl (by simp only [addA]; rfl) ?_)
      refine VC_sound tabOk 100 ?_
      exact congrArg Value.bool (by rw [triesUp_lt (by omega)]; simp)

/-! ### RetryFull -/
structure FullI (n : Int) (i : Nat) (xs : List ItemM) : Prop where
  ok : OkT xs
  rise : RiseT xs
  len : xs.length = i
  all : ∀ x ∈ xs, x.at_ = n ∧ x.ev.owner = tA ∧ 0 ≤ x.ev.id ∧ x.ev.id < i
theorem FullI.no {n : Int} {i : Nat} {xs : List ItemM} (h : FullI n i xs) (k : Int) (hk : (i : Int) ≤ k) : xs.any (hasP (evI k) tA) = false := by
  rw [List.any_eq_false]
  intro x hx hh
  have := (h.all x hx).2.2.2
  simp only [hasP, Bool.and_eq_true, decide_eq_true_eq] at hh
  have := hh.1
  omega
theorem FullI.add {n : Int} {i : Nat} {xs ys : List ItemM} (h : FullI n i xs) (hi : i < 16) (hA : AddT xs (evI i) tA n ys) : addE xs (evI i) tA = 0 ∧ FullI n (i + 1) ys ∧ addE ys (evI i) tA = 5 := by
  have h0 : addE xs (evI i) tA = 0 := by rw [addE, if_neg tA_ne, if_neg (by rw [h.no i (Int.le_refl _)]; simp), if_neg (by rw [h.len]; omega)]
  obtain ⟨k1, k2, k3, _⟩ := hA.ok h.ok h.rise
  rcases hA with ⟨_, p1, _⟩ | ⟨hne, _⟩
  rotate_left
  · exact absurd h0 hne
  refine ⟨h0, ⟨k1, k2, by rw [k3 h0, h.len], fun x hx => ?_⟩, ?_⟩
  · have := p1.mem_iff.2 hx
    rcases List.mem_append.1 this with hx | hx
    · obtain ⟨a1, a2, a3, a4⟩ := h.all x hx
      exact ⟨a1, a2, a3, by omega⟩
    · simp at hx; subst hx
      exact ⟨rfl, rfl, by simp only [newIt]; omega, by simp only [newIt]; omega⟩
  · rw [addE, if_neg tA_ne, if_pos]
    rw [List.any_eq_true]
    exact ⟨newIt (evI i) tA n, p1.mem_iff.1 (by simp), by simp [hasP, newIt]⟩
theorem AddT.no {xs ys : List ItemM} {e : EventM} {o : ByteArray} {at_ : Int} (h : AddT xs e o at_ ys) (hne : addE xs e o ≠ 0) : ys = xs := by
  rcases h with ⟨h0, _⟩ | ⟨_, rfl⟩
  · exact absurd h0 hne
  · rfl

set_option maxHeartbeats 8000000 in
theorem l14_RetryFull (n : Int) (w0 : World) (hn : 0 ≤ n ∧ n ≤ 255) : Calls Try.prog 4 #[.int .u8 n] w0 fun e w' => e = .returned (.bool true) ∧ BelowD w0.heap.size w0 w' := by
  refine enterP (tab := tab) Try.func4 rfl Try.ntmps4 rfl (args := [_]) rfl ?_
  refine VC_sound tabOk 100 ?_
  refine Go_ops rfl (OpTo_pcall (v := .bool true) rfl rfl rfl rfl rfl (by kernel_rfl) (fun w hm _ => l14_seven w) ?_)
  refine VC_sound tabOk 100 ?_
  refine ⟨fun h => by first | (simp at h; done) | (simp at h; omega) | (simp_all; done), fun _ => ?_⟩
  show Go _ _ _ _
  refine Go_ops rfl (OpTo_ncall rfl rfl rfl rfl rfl (by kernel_rfl) (fun w hm _ => retry_new w) ?_)
  rintro _ _ ⟨b, rfl, rfl⟩
  refine VC_sound tabOk 100 ?_
  refine Go_loop (σ := Nat × Option Addr × Nat × List ItemM) (fun s => [(0, .v (.int .u8 n)), (3, .v (.pointer (some ⟨b, 0, none⟩))), (4, .v (.int .i64 s.1))]) (fun s => rtR b s.2.1 s.2.2.1 s.2.2.2) (fun s => s.1 ≤ 16 ∧ FullI n s.1 s.2.2.2) (fun s => 16 - s.1) (0, none, 0, []) ⟨by omega, List.nodup_nil, List.Pairwise.nil, rfl, by simp⟩ ⟨rfl, rfl, rfl, trivial⟩ (fun _ h => h) ?_
  rintro ⟨i, A, c, xs⟩ ⟨hi, hF⟩
  dsimp only at hi hF ⊢
  have hlen := hF.len
  by_cases hlt : i < 16
  · refine VC_sound tabOk 100 ?_
    refine ⟨fun _ => ?_, fun h => by first | (simp at h; done) | (simp at h; omega) | (simp_all; done)⟩
    refine ⟨_, wrap_i64 (n := n) (by omega) (by omega), ?_⟩
    show Go _ _ _ _
    refine Go_ops rfl (OpTo_mcall (rtR b A c xs) [] (List.Perm.of_eq (by simp)) rfl rfl rfl rfl rfl (by kernel_rfl) (fun w hb hm hio hsp k => retry_add b A c xs (evI i) tA n (by omega) (Int.le_refl 0) w _ k) ?_)
    rintro _ _ ⟨A2, c2, ys, rfl, hA, rfl⟩
    obtain ⟨h0, hF2, h5⟩ := hF.add hlt hA
    have hlen2 := hF2.len
    rw [h0]
    refine VC_sound tabOk 100 ?_
    refine ⟨fun h => by first | (simp at h; done) | (simp at h; omega) | (simp_all; done), fun _ => ?_⟩
    show Go _ _ _ _
    refine Go_ops rfl (OpTo_mcall (rtR b A2 c2 ys) [] (List.Perm.of_eq (by simp)) rfl rfl rfl rfl rfl (by kernel_rfl) (fun w hb hm hio hsp k => retry_add b A2 c2 ys (evI i) tA 0 (by omega) (Int.le_refl 0) w _ k) ?_)
    rintro _ _ ⟨A3, c3, zs, rfl, hA3, rfl⟩
    have hz := hA3.no (by rw [h5]; decide)
    subst hz
    rw [h5]
    refine VC_sound tabOk 100 ?_
    refine ⟨fun h => by first | (simp at h; done) | (simp at h; omega) | (simp_all; done), fun _ => ?_⟩
    refine ⟨_, wrap_i64 (n := (i : Int) + 1) (by omega) (by omega), ?_⟩
    exact Go_fin (i + 1, A3, c3, zs) ⟨by dsimp only; omega, hF2⟩ (by dsimp only; omega) ⟨rfl, rfl, rfl, trivial⟩ (fun _ h => h)
  have he : i = 16 := by omega
  subst he
  refine VC_sound tabOk 100 ?_
  refine ⟨fun h => by first | (simp at h; done) | (simp at h; omega) | (simp_all; done), fun _ => ?_⟩
  have e8 : addE xs (evI 99) tA = 8 := by rw [addE, if_neg tA_ne, if_neg (by rw [hF.no 99 (by decide)]; simp), if_pos (by omega)]
  have e1 : addE xs (evI 1) ⟨#[]⟩ = 1 := by rw [addE, if_pos (by simp)]
  have dn : dueL (n - 1) xs = [] := by
    rw [dueL, List.filter_eq_nil_iff.2]
    · rfl
    · intro x hx; have := (hF.all x hx).1; simp; omega
  have dall : (dueL n xs).length = 16 := by
    rw [dueL, List.filter_eq_self.2, List.length_map, hlen]
    intro x hx; have := (hF.all x hx).1; simp; omega
  show Go _ _ _ _
  refine Go_ops rfl (OpTo_mcall (rtR b A c xs) [] (List.Perm.of_eq (by simp)) rfl rfl rfl rfl rfl (by kernel_rfl) (fun w hb hm hio hsp k => retry_add b A c xs (evI 99) tA 0 (by omega) (Int.le_refl 0) w _ k) ?_)
  rintro _ _ ⟨A2, c2, ys, rfl, hA2, rfl⟩
  have hy := hA2.no (by rw [e8]; decide)
  subst hy
  rw [e8]
  refine VC_sound tabOk 100 ?_
  refine ⟨fun _ => ?_, fun h => by simp at h⟩
  show Go _ _ _ _
  refine Go_ops rfl (OpTo_mcall (rtR b A2 c2 ys) [] (List.Perm.of_eq (by simp)) rfl rfl rfl rfl rfl (by kernel_rfl) (fun w hb hm hio hsp k => retry_add b A2 c2 ys (evI 1) ⟨#[]⟩ 0 (by omega) (Int.le_refl 0) w _ k) ?_)
  rintro _ _ ⟨A3, c3, zs, rfl, hA3, rfl⟩
  have hz := hA3.no (by rw [e1]; decide)
  subst hz
  rw [e1]
  refine VC_sound tabOk 100 ?_
  refine ⟨fun _ => ?_, fun h => by simp at h⟩
  show Go _ _ _ _
  refine Go_ops rfl (OpTo_ncall rfl rfl rfl rfl rfl (by kernel_rfl) (fun w hm _ => retry_all b A3 c3 zs w (hm.blk_at (i := 0) rfl) (hm.own_rd (i := 1) rfl) (by omega)) ?_)
  rintro _ _ ⟨A4, c4, rfl, rfl⟩
  rw [hlen]
  refine VC_sound tabOk 100 ?_
  refine ⟨fun _ => ?_, fun h => by simp at h⟩
  refine ⟨_, wrap_i64 (n := n) (by omega) (by omega), ?_⟩
  refine ⟨_, wrap_i64 (n := n - 1) (by omega) (by omega), ?_⟩
  refine Go_sel [1, 2] rfl ?_
  show Go _ _ _ _
  refine Go_ops rfl (OpTo_mcall (rtR b A3 c3 zs) [] (List.Perm.of_eq (by simp [selG, nth, hlen])) rfl rfl rfl rfl rfl (by kernel_rfl) (fun w hb hm hio hsp k => dn ▸ retry_take b A3 c3 zs (n - 1) (by omega) w _ k) ?_)
  rintro _ _ ⟨A5, c5, A6, c6, rfl, rfl⟩
  refine VC_sound tabOk 100 ?_
  refine ⟨fun _ => ?_, fun h => by simp at h⟩
  refine ⟨_, wrap_i64 (n := n) (by omega) (by omega), ?_⟩
  refine Go_sel [1, 2] rfl ?_
  show Go _ _ _ _
  refine Go_ops rfl (OpTo_mcall (rtR b A6 c6 zs) [] (List.Perm.of_eq (by simp [selG, nth])) rfl rfl rfl rfl rfl (by kernel_rfl) (fun w hb hm hio hsp k => retry_take b A6 c6 zs n (by omega) w _ k) ?_)
  rintro _ _ ⟨A7, c7, A8, c8, rfl, rfl⟩
  rw [dall]
  refine VC_sound tabOk 100 ?_
  rfl
end Go.Proofs.Ytcombnlddbimoaa
