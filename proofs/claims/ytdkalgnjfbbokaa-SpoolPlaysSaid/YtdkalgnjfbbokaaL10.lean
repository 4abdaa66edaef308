/- The laws of layer 10: what each run comes to. -/
import Derived.Test.YtdkalgnjfbbokaaSpool
set_option autoImplicit false
set_option linter.unusedVariables false
namespace Go.Proofs.Ytdkalgnjfbbokaa
open Go.RX Go Go.RowKit

def evE (id : Int) : EventM := ⟨id, 0, ⟨#[]⟩, 0, 0, 0, 0, ⟨#[]⟩⟩

set_option maxHeartbeats 2000000 in
theorem l10_turns (w0 : World) : Calls Try.prog 9 #[] w0 fun e w' => e = .returned (.bool true) ∧ BelowD w0.heap.size w0 w' := by
  refine enterP (tab := tab) Try.func9 rfl Try.ntmps9 rfl (args := []) rfl ?_
  refine VC_sound tabOk 100 ?_
  show Go _ _ _ _
  refine Go_ops rfl (OpTo_ncall rfl rfl rfl rfl rfl (by kernel_rfl) (fun w hm _ => spool_new w) ?_)
  rintro _ _ ⟨bs, rfl, rfl⟩
  refine VC_sound tabOk 100 ?_
  show Go _ _ _ _
  refine Go_ops rfl (OpTo_mcall (spR bs noTb noTb noTb 0) [] (List.Perm.of_eq (by simp)) rfl rfl rfl rfl rfl (by kernel_rfl) (fun w hb hm hio hsp k => spool_add bs noTb noTb noTb 0 (evE 1) w _ k (by omega) (by decide) (by decide) (by decide)) ?_)
  rintro _ _ ⟨A, c, rfl, rfl⟩
  refine VC_sound tabOk 100 ?_
  show Go _ _ _ _
  refine Go_ops rfl (OpTo_mcall (spR bs ⟨A, c, [] ++ [evE 1]⟩ noTb noTb 0) [] (List.Perm.refl _) rfl rfl rfl rfl rfl (by kernel_rfl) (fun w hb hm hio hsp k => spool_rotate bs _ noTb noTb 0 false w _ k (by omega)) ?_)
  rintro _ _ (⟨g, rfl, rfl⟩ | ⟨g, _⟩ | ⟨g, _⟩)
  rotate_left
  · exact absurd rfl g
  · exact absurd rfl g
  refine VC_sound tabOk 100 ?_
  show Go _ _ _ _
  refine Go_ops rfl (OpTo_mcall (spR bs ⟨A, c, [] ++ [evE 1]⟩ noTb noTb 1) [] (List.Perm.refl _) rfl rfl rfl rfl rfl (by kernel_rfl) (fun w hb hm hio hsp k => spool_rotate bs _ noTb noTb 1 false w _ k (by omega)) ?_)
  rintro _ _ (⟨g, rfl, rfl⟩ | ⟨g, _⟩ | ⟨g, _⟩)
  rotate_left
  · exact absurd rfl g
  · exact absurd rfl g
  refine VC_sound tabOk 100 ?_
  show Go _ _ _ _
  refine Go_ops rfl (OpTo_mcall (spR bs ⟨A, c, [] ++ [evE 1]⟩ noTb noTb 2) [] (List.Perm.refl _) rfl rfl rfl rfl rfl (by kernel_rfl) (fun w hb hm hio hsp k => spool_rotate bs _ noTb noTb 2 false w _ k (by omega)) ?_)
  rintro _ _ (⟨g, _⟩ | ⟨g, _, rfl, rfl⟩ | ⟨g, g2, _⟩)
  · exact absurd g (List.cons_ne_nil _ _)
  rotate_left
  · cases g2
  refine VC_sound tabOk 100 ?_
  refine ⟨fun _ => ?_, fun h => by simp at h⟩
  refine ⟨fun _ => ?_, fun h => by simp at h⟩
  refine ⟨fun _ => ?_, fun h => by simp at h⟩
  refine ⟨fun _ => ?_, fun h => by simp at h⟩
  refine ⟨fun _ => ?_, fun h => by simp at h⟩
  rfl

set_option maxHeartbeats 4000000 in
theorem l10_SpoolEmpties (n : Int) (free : Bool) (w0 : World) (hn : 0 ≤ n ∧ n ≤ 255) : Calls Try.prog 3 #[.int .u8 n, .bool free] w0 fun e w' => e = .returned (.bool true) ∧ BelowD w0.heap.size w0 w' := by
  obtain ⟨K, hK, hK9⟩ : ∃ K : Nat, n.tmod 9 = K ∧ K < 9 := by
    have h1 := Int.tmod_nonneg 9 hn.1
    have h2 := Int.tmod_lt_of_pos n (b := 9) (by decide)
    exact ⟨(n.tmod 9).toNat, by omega, by omega⟩
  refine enterP (tab := tab) Try.func3 rfl Try.ntmps3 rfl (args := [_, _]) rfl ?_
  refine VC_sound tabOk 100 ?_
  refine Go_ops rfl (OpTo_pcall (v := .bool true) rfl rfl rfl rfl rfl (by kernel_rfl) (fun w hm _ => l10_turns w) ?_)
  refine VC_sound tabOk 100 ?_
  refine ⟨fun h => by simp at h, fun _ => ?_⟩
  show Go _ _ _ _
  refine Go_ops rfl (OpTo_ncall rfl rfl rfl rfl rfl (by kernel_rfl) (fun w hm _ => spool_new w) ?_)
  rintro _ _ ⟨bs, rfl, rfl⟩
  refine VC_sound tabOk 100 ?_
  refine ⟨by decide, _, hK.symm, ?_⟩
  refine ⟨_, wrap_i64 (n := (K : Int)) (by omega) (by omega), ?_⟩
  refine ⟨_, wrap_i64 (n := 1 + (K : Int)) (by omega) (by omega), ?_⟩
  refine Go_loop (σ := Option Addr × Nat × List EventM) (fun s => [(1, .v (.bool free)), (5, .v (.pointer (some ⟨bs, 0, none⟩))), (6, .v (.int .i64 (1 + (K : Int)))), (7, .v (.int .i64 s.2.2.length))]) (fun s => spR bs ⟨s.1, s.2.1, s.2.2⟩ noTb noTb 0)
    (fun s => s.2.2.length ≤ K + 1) (fun s => K + 1 - s.2.2.length) (none, 0, []) (by simp) ⟨rfl, rfl, rfl, rfl, trivial⟩ (fun _ h => h) ?_
  rintro ⟨A, c, xs⟩ hl
  dsimp only at hl ⊢
  refine VC_sound tabOk 100 ?_
  refine ⟨fun hb => ?_, fun hb => ?_⟩
  · have hlt : xs.length < K + 1 := by simp at hb; omega
    refine ⟨_, wrap_i64 (n := (xs.length : Int) + 1) (by omega) (by omega), ?_⟩
    show Go _ _ _ _
    refine Go_ops rfl (OpTo_mcall (spR bs ⟨A, c, xs⟩ noTb noTb 0) [] (List.Perm.of_eq (by simp)) rfl rfl rfl rfl rfl (by kernel_rfl) (fun w hb hm hio hsp k => spool_add bs ⟨A, c, xs⟩ noTb noTb 0 (evE ((xs.length : Int) + 1)) w _ k (by omega) (by simp; omega) (by decide) (by decide)) ?_)
    rintro _ _ ⟨A1, c1, rfl, rfl⟩
    refine VC_sound tabOk 100 ?_
    refine ⟨_, wrap_i64 (n := (xs.length : Int) + 1) (by omega) (by omega), ?_⟩
    refine Go_fin (A1, c1, xs ++ [evE ((xs.length : Int) + 1)]) (by simp; omega) (by simp; omega) ⟨rfl, rfl, rfl, ?_, trivial⟩ (fun _ h => h.permRs (List.Perm.of_eq (List.append_nil _)))
    exact congrArg (Value.int .i64) (by simp)
  · have hlen : xs.length = K + 1 := by simp at hb; omega
    have hne : xs ≠ [] := fun h => by rw [h] at hlen; simp at hlen
    refine Go_loop (σ := Nat) (fun i => [(1, .v (.bool free)), (5, .v (.pointer (some ⟨bs, 0, none⟩))), (6, .v (.int .i64 (1 + (K : Int)))), (8, .v (.int .i64 i))]) (fun i => spR bs ⟨A, c, xs⟩ noTb noTb i)
      (fun i => i ≤ 2) (fun i => 2 - i) 0 (by omega) ⟨rfl, rfl, rfl, rfl, trivial⟩ (fun _ h => h) ?_
    intro i hi
    have hi' : i = 0 ∨ i = 1 ∨ i = 2 := by omega
    have hk : ((xs.length + 0 + 0 : Nat) : Int) = 1 + (K : Int) := by omega
    rcases hi' with rfl | rfl | rfl
    · try dsimp only
      refine VC_sound tabOk 100 ?_
      refine ⟨fun _ => ?_, fun h => by simp at h⟩
      show Go _ _ _ _
      refine Go_ops rfl (OpTo_mcall (spR bs ⟨A, c, xs⟩ noTb noTb 0) [] (List.Perm.of_eq (by simp)) rfl rfl rfl rfl rfl (by kernel_rfl) (fun w hb hm hio hsp k => spool_rotate bs ⟨A, c, xs⟩ noTb noTb 0 true w _ k (by omega)) ?_)
      rintro _ _ (⟨g, rfl, rfl⟩ | ⟨g, _⟩ | ⟨g, _⟩)
      rotate_left
      · exact absurd rfl g
      · exact absurd rfl g
      refine VC_sound tabOk 100 ?_
      refine ⟨fun h => by simp at h, fun _ => ?_⟩
      refine ⟨fun h => by simp at h, fun _ => ?_⟩
      refine Go_ops rfl (OpTo_pcall (v := .int .i64 ((xs.length + 0 + 0 : Nat) : Int)) rfl rfl rfl rfl rfl (by kernel_rfl) (fun w hm _ => spool_len bs ⟨A, c, xs⟩ noTb noTb 1 w (hm.blk_at (i := 0) rfl) (by simp; omega) (by decide) (by decide)) ?_)
      refine VC_sound tabOk 100 ?_
      refine ⟨fun h => by rw [hk] at h; simp at h, fun _ => ?_⟩
      refine ⟨_, wrap_i64 (n := ((0 : Nat) : Int) + 1) (by omega) (by omega), ?_⟩
      exact Go_fin 1 (by omega) (by omega) ⟨rfl, rfl, rfl, rfl, trivial⟩ (fun _ h => h.permRs (List.Perm.of_eq (List.append_nil _)))
    · try dsimp only
      refine VC_sound tabOk 100 ?_
      refine ⟨fun _ => ?_, fun h => by simp at h⟩
      show Go _ _ _ _
      refine Go_ops rfl (OpTo_mcall (spR bs ⟨A, c, xs⟩ noTb noTb 1) [] (List.Perm.of_eq (by simp)) rfl rfl rfl rfl rfl (by kernel_rfl) (fun w hb hm hio hsp k => spool_rotate bs ⟨A, c, xs⟩ noTb noTb 1 true w _ k (by omega)) ?_)
      rintro _ _ (⟨g, rfl, rfl⟩ | ⟨g, _⟩ | ⟨g, _⟩)
      rotate_left
      · exact absurd rfl g
      · exact absurd rfl g
      refine VC_sound tabOk 100 ?_
      refine ⟨fun h => by simp at h, fun _ => ?_⟩
      refine ⟨fun h => by simp at h, fun _ => ?_⟩
      refine Go_ops rfl (OpTo_pcall (v := .int .i64 ((xs.length + 0 + 0 : Nat) : Int)) rfl rfl rfl rfl rfl (by kernel_rfl) (fun w hm _ => spool_len bs ⟨A, c, xs⟩ noTb noTb 2 w (hm.blk_at (i := 0) rfl) (by simp; omega) (by decide) (by decide)) ?_)
      refine VC_sound tabOk 100 ?_
      refine ⟨fun h => by rw [hk] at h; simp at h, fun _ => ?_⟩
      refine ⟨_, wrap_i64 (n := ((1 : Nat) : Int) + 1) (by omega) (by omega), ?_⟩
      exact Go_fin 2 (by omega) (by omega) ⟨rfl, rfl, rfl, rfl, trivial⟩ (fun _ h => h.permRs (List.Perm.of_eq (List.append_nil _)))
    · try dsimp only
      refine VC_sound tabOk 100 ?_
      refine ⟨fun h => by simp at h, fun _ => ?_⟩
      show Go _ _ _ _
      refine Go_ops rfl (OpTo_mcall (spR bs ⟨A, c, xs⟩ noTb noTb 2) [] (List.Perm.of_eq (by simp)) rfl rfl rfl rfl rfl (by kernel_rfl) (fun w hb hm hio hsp k => spool_rotate bs ⟨A, c, xs⟩ noTb noTb 2 free w _ k (by omega)) ?_)
      rintro _ _ (⟨g, _⟩ | ⟨_, rfl, rfl, rfl⟩ | ⟨_, rfl, rfl, rfl⟩)
      · exact absurd g hne
      · refine VC_sound tabOk 100 ?_
        refine ⟨fun _ => ?_, fun h => by simp at h⟩
        refine ⟨fun _ => ?_, fun h => by simp at h⟩
        refine ⟨fun _ => ?_, fun h => by simp at h⟩
        refine Go_ops rfl (OpTo_pcall (v := .int .i64 ((xs.length + 0 + 0 : Nat) : Int)) rfl rfl rfl rfl rfl (by kernel_rfl) (fun w hm _ => spool_len bs ⟨A, c, xs⟩ noTb noTb 2 w (hm.blk_at (i := 0) rfl) (by simp; omega) (by decide) (by decide)) ?_)
        refine VC_sound tabOk 100 ?_
        exact congrArg Value.bool (decide_eq_true hk)
      · refine VC_sound tabOk 100 ?_
        refine ⟨fun h => by simp at h, fun _ => ?_⟩
        show Go _ _ _ _
        refine Go_ops rfl (OpTo_mcall (spR bs noTb noTb noTb 2) [] (List.Perm.refl _) rfl rfl rfl rfl rfl (by kernel_rfl) (fun w hb hm hio hsp k => spool_rotate bs noTb noTb noTb 2 true w _ k (by omega)) ?_)
        rintro _ _ (⟨g, rfl, rfl⟩ | ⟨g, _⟩ | ⟨g, _⟩)
        rotate_left
        · exact absurd rfl g
        · exact absurd rfl g
        refine VC_sound tabOk 100 ?_
        refine ⟨fun _ => ?_, fun h => by simp at h⟩
        refine ⟨fun _ => ?_, fun h => by simp at h⟩
        refine ⟨fun _ => ?_, fun h => by simp at h⟩
        refine ⟨fun _ => ?_, fun h => by simp at h⟩
        refine Go_ops rfl (OpTo_pcall (v := .int .i64 ((0 + 0 + 0 : Nat) : Int)) rfl rfl rfl rfl rfl (by kernel_rfl) (fun w hm _ => spool_len bs noTb noTb noTb 0 w (hm.blk_at (i := 0) rfl) (by decide) (by decide) (by decide)) ?_)
        refine VC_sound tabOk 100 ?_
        refine ⟨fun _ => ?_, fun h => by simp at h⟩
        refine Go_ops rfl (OpTo_pcall (v := .int .i64 0) rfl rfl rfl rfl rfl (by kernel_rfl) (fun w hm _ => spool_cur bs noTb noTb noTb 0 w (hm.blk_at (i := 0) rfl)) ?_)
        refine VC_sound tabOk 100 ?_
        rfl
end Go.Proofs.Ytdkalgnjfbbokaa
