/- The laws TxnNil, TxnNow, TxnFull: what each run comes to. -/
import Derived.Test.YtpadhjojmiellaaTxn
set_option autoImplicit false
set_option linter.unusedVariables false
namespace Go.Proofs.Ytpadhjojmiellaa
open Go.RX Go Go.RowKit


abbrev tp (m : Nat) : Value := .pointer (some ⟨m, 0, none⟩)

set_option maxHeartbeats 2000000 in
theorem l6_two (w0 : World) : Calls Try.prog 8 #[] w0 fun e w' => e = .returned (.bool true) ∧ BelowD w0.heap.size w0 w' := by
  refine enterP (tab := tab) Try.func8 rfl Try.ntmps8 rfl (args := []) rfl ?_
  refine VC_sound tabOk 100 ?_
  show Go _ _ _ _
  refine Go_ops rfl (OpTo_ncall rfl rfl rfl rfl rfl (by kernel_rfl) (fun w hm _ => txn_new w) ?_)
  rintro _ _ ⟨m, b1, b2, rfl, rfl⟩
  refine VC_sound tabOk 100 ?_
  show Go _ _ _ _
  refine Go_ops rfl (OpTo_mcall (txB m b1 b2 ⟨1, [], []⟩) [] (List.Perm.of_eq (by simp)) rfl rfl rfl rfl rfl (by kernel_rfl) (fun w hb hm hio hsp k => txn_begin_ok m b1 b2 ⟨1, [], []⟩ ⟨by decide, by decide⟩ (by decide) (by simp) w _ k) ?_)
  rintro _ _ ⟨rfl, rfl⟩
  refine VC_sound tabOk 100 ?_
  show Go _ _ _ _
  refine Go_ops rfl (OpTo_mcall (txB m b1 b2 ⟨2, [1], []⟩) [] (List.Perm.of_eq rfl) rfl rfl rfl rfl rfl (by kernel_rfl) (fun w hb hm hio hsp k => txn_begin_ok m b1 b2 ⟨2, [1], []⟩ ⟨by decide, by decide⟩ (by decide) (by simp) w _ k) ?_)
  rintro _ _ ⟨rfl, rfl⟩
  refine VC_sound tabOk 100 ?_
  show Go _ _ _ _
  refine Go_ops rfl (OpTo_mcall (txB m b1 b2 ⟨3, [1, 2], []⟩) [] (List.Perm.of_eq rfl) rfl rfl rfl rfl rfl (by kernel_rfl) (fun w hb hm hio hsp k => txn_commit_ok m b1 b2 ⟨3, [1, 2], []⟩ 1 (by simp) w _ k) ?_)
  rintro _ _ ⟨rfl, rfl⟩
  refine VC_sound tabOk 100 ?_
  show Go _ _ _ _
  refine Go_ops rfl (OpTo_mcall (txB m b1 b2 ⟨3, [2], [1]⟩) [] (List.Perm.of_eq rfl) rfl rfl rfl rfl rfl (by kernel_rfl) (fun w hb hm hio hsp k => txn_now m b1 b2 ⟨3, [2], [1]⟩ (by decide) w _ k) ?_)
  rintro _ _ ⟨A, c, ks, rfl, hp, hr, rfl⟩
  obtain rfl := List.Perm.eq_singleton hp
  refine Go_with _ (fun w hm _ => hm.own_some (i := 0) rfl (by simp)) ?_
  rintro ⟨a, o, rfl⟩
  refine VC_sound tabOk 100 ?_
  intro b5 _
  (repeat (first | refine Or.inl ⟨rfl, rfl, ?_⟩ | refine Or.inl ⟨rfl, ?_⟩ | refine Or.inr ?_))
  refine ⟨fun _ => ?_, fun h => by first | (simp at h; done) | (simp at h; omega) | (simp_all; done)⟩
  refine ⟨fun _ => ?_, fun h => by first | (simp at h; done) | (simp at h; omega) | (simp_all; done)⟩
  refine ⟨fun _ => ?_, fun h => by first | (simp at h; done) | (simp at h; omega) | (simp_all; done)⟩
  (repeat (first | refine Or.inl ⟨rfl, rfl, ?_⟩ | refine Or.inl ⟨rfl, ?_⟩ | refine Or.inr ?_))
  refine ⟨fun _ => ?_, fun h => by first | (simp at h; done) | (simp at h; omega) | (simp_all; done)⟩
  (repeat (first | refine Or.inl ⟨rfl, rfl, ?_⟩ | refine Or.inl ⟨rfl, ?_⟩ | refine Or.inr ?_))
  refine ⟨fun _ => ?_, fun h => by first | (simp at h; done) | (simp at h; omega) | (simp_all; done)⟩
  (repeat (first | refine Or.inl ⟨rfl, rfl, ?_⟩ | refine Or.inl ⟨rfl, ?_⟩ | refine Or.inr ?_))
  refine ⟨⟨by decide, by decide⟩, ?_⟩
  (repeat (first | refine Or.inl ⟨rfl, rfl, ?_⟩ | refine Or.inl ⟨rfl, ?_⟩ | refine Or.inr ?_))
  refine Go_ops rfl (OpTo_loadRow tabOk (encI_is .i64) (n := 0) (.int .i64 2) rfl rfl rfl rfl rfl (fun h => rfl) (fun w hm _ => hm.own_rd (i := 1) rfl) rfl (by simp [addA]) ?_)
  refine VC_sound tabOk 100 ?_
  rfl

/-! ### of none -/
theorem txn_begin_nil (w0 : World) : Calls Try.prog 10 #[.pointer none] w0 fun e w' => e = .returned (.tuple #[.int .i64 0, .int .i64 4]) ∧ BelowD w0.heap.size w0 w' := by
  refine enterP (tab := tab) Try.func10 rfl Try.ntmps10 rfl (args := [_]) rfl ?_
  refine VC_sound tabOk 100 ?_
  rfl
theorem txn_end_nil (x : Int) (w0 : World) : Calls Try.prog 26 #[.pointer none, .int .i64 x] w0 fun e w' => e = .returned (.int .i64 4) ∧ BelowD w0.heap.size w0 w' := by
  refine enterP (tab := tab) Try.func26 rfl Try.ntmps26 rfl (args := [_, _]) rfl ?_
  refine VC_sound tabOk 100 ?_
  rfl
theorem txn_commit_nil (x : Int) (w0 : World) : Calls Try.prog 12 #[.pointer none, .int .i64 x] w0 fun e w' => e = .returned (.int .i64 4) ∧ BelowD w0.heap.size w0 w' := by
  refine enterP (tab := tab) Try.func12 rfl Try.ntmps12 rfl (args := [_, _]) rfl ?_
  refine VC_sound tabOk 100 ?_
  refine Go_ops rfl (OpTo_pcall (v := .int .i64 4) rfl rfl rfl rfl rfl (by kernel_rfl) (fun w hm _ => txn_end_nil x w) ?_)
  refine VC_sound tabOk 100 ?_
  refine ⟨fun h => by first | (simp at h; done) | (simp at h; omega) | (simp_all; done), fun _ => ?_⟩
  rfl
theorem txn_abort_nil (x : Int) (w0 : World) : Calls Try.prog 14 #[.pointer none, .int .i64 x] w0 fun e w' => e = .returned (.int .i64 4) ∧ BelowD w0.heap.size w0 w' := by
  refine enterP (tab := tab) Try.func14 rfl Try.ntmps14 rfl (args := [_, _]) rfl ?_
  refine VC_sound tabOk 100 ?_
  refine Go_ops rfl (OpTo_pcall (v := .int .i64 4) rfl rfl rfl rfl rfl (by kernel_rfl) (fun w hm _ => txn_end_nil x w) ?_)
  refine VC_sound tabOk 100 ?_
  rfl
theorem txn_state_nil (x : Int) (w0 : World) : Calls Try.prog 13 #[.pointer none, .int .i64 x] w0 fun e w' => e = .returned (.int .u8 0) ∧ BelowD w0.heap.size w0 w' := by
  refine enterP (tab := tab) Try.func13 rfl Try.ntmps13 rfl (args := [_, _]) rfl ?_
  refine VC_sound tabOk 100 ?_
  rfl
theorem txn_now_nil (w0 : World) : Calls Try.prog 11 #[.pointer none] w0 fun e w' => e = .returned (snV 0 none 0 0) ∧ BelowD w0.heap.size w0 w' := by
  refine enterP (tab := tab) Try.func11 rfl Try.ntmps11 rfl (args := [_]) rfl ?_
  refine VC_sound tabOk 100 ?_
  intro b2 _
  (repeat (first | refine Or.inl ⟨rfl, rfl, ?_⟩ | refine Or.inl ⟨rfl, ?_⟩ | refine Or.inr ?_))
  rfl
theorem txn_next_nil (w0 : World) : Calls Try.prog 17 #[.pointer none] w0 fun e w' => e = .returned (.int .i64 0) ∧ BelowD w0.heap.size w0 w' := by
  refine enterP (tab := tab) Try.func17 rfl Try.ntmps17 rfl (args := [_]) rfl ?_
  refine VC_sound tabOk 100 ?_
  rfl
theorem txn_load_nil (w0 : World) : Calls Try.prog 16 #[.pointer none, .int .i64 1, .slice none 0 0] w0 fun e w' => e = .returned (.int .i64 4) ∧ BelowD w0.heap.size w0 w' := by
  refine enterP (tab := tab) Try.func16 rfl Try.ntmps16 rfl (args := [_, _, _]) rfl ?_
  refine VC_sound tabOk 100 ?_
  intro b4 _
  rfl

set_option maxHeartbeats 1000000 in
theorem l6_TxnNil (x : Int) (w0 : World) : Calls Try.prog 7 #[.int .i64 x] w0 fun e w' => e = .returned (.bool true) ∧ BelowD w0.heap.size w0 w' := by
  refine enterP (tab := tab) Try.func7 rfl Try.ntmps7 rfl (args := [_]) rfl ?_
  refine VC_sound tabOk 100 ?_
  refine Go_ops rfl (OpTo_pcall (v := .tuple #[.int .i64 0, .int .i64 4]) rfl rfl rfl rfl rfl (by kernel_rfl) (fun w hm _ => txn_begin_nil w) ?_)
  refine VC_sound tabOk 100 ?_
  refine Go_ops rfl (OpTo_pcall (v := snV 0 none 0 0) rfl rfl rfl rfl rfl (by kernel_rfl) (fun w hm _ => txn_now_nil w) ?_)
  refine VC_sound tabOk 100 ?_
  intro b6 _
  (repeat (first | refine Or.inl ⟨rfl, rfl, ?_⟩ | refine Or.inl ⟨rfl, ?_⟩ | refine Or.inr ?_))
  refine Go_ops rfl (OpTo_pcall (v := .bool true) rfl rfl rfl rfl rfl (by kernel_rfl) (fun w hm _ => l6_two w) ?_)
  refine VC_sound tabOk 100 ?_
  refine ⟨fun _ => ?_, fun h => by first | (simp at h; done) | (simp at h; omega) | (simp_all; done)⟩
  refine ⟨fun _ => ?_, fun h => by first | (simp at h; done) | (simp at h; omega) | (simp_all; done)⟩
  refine Go_ops rfl (OpTo_pcall (v := .int .i64 4) rfl rfl rfl rfl rfl (by kernel_rfl) (fun w hm _ => txn_commit_nil x w) ?_)
  refine VC_sound tabOk 100 ?_
  refine ⟨fun _ => ?_, fun h => by first | (simp at h; done) | (simp at h; omega) | (simp_all; done)⟩
  refine Go_ops rfl (OpTo_pcall (v := .int .i64 4) rfl rfl rfl rfl rfl (by kernel_rfl) (fun w hm _ => txn_abort_nil x w) ?_)
  refine VC_sound tabOk 100 ?_
  refine ⟨fun _ => ?_, fun h => by first | (simp at h; done) | (simp at h; omega) | (simp_all; done)⟩
  refine Go_ops rfl (OpTo_pcall (v := .int .u8 0) rfl rfl rfl rfl rfl (by kernel_rfl) (fun w hm _ => txn_state_nil x w) ?_)
  refine VC_sound tabOk 100 ?_
  refine ⟨fun _ => ?_, fun h => by first | (simp at h; done) | (simp at h; omega) | (simp_all; done)⟩
  (repeat (first | refine Or.inl ⟨rfl, rfl, ?_⟩ | refine Or.inl ⟨rfl, ?_⟩ | refine Or.inr ?_))
  refine ⟨fun _ => ?_, fun h => by first | (simp at h; done) | (simp at h; omega) | (simp_all; done)⟩
  (repeat (first | refine Or.inl ⟨rfl, rfl, ?_⟩ | refine Or.inl ⟨rfl, ?_⟩ | refine Or.inr ?_))
  refine ⟨fun _ => ?_, fun h => by first | (simp at h; done) | (simp at h; omega) | (simp_all; done)⟩
  refine Go_ops rfl (OpTo_pcall (v := .int .i64 0) rfl rfl rfl rfl rfl (by kernel_rfl) (fun w hm _ => txn_next_nil w) ?_)
  refine VC_sound tabOk 100 ?_
  refine ⟨fun _ => ?_, fun h => by first | (simp at h; done) | (simp at h; omega) | (simp_all; done)⟩
  refine Go_ops rfl (OpTo_pcall (v := .int .i64 4) rfl rfl rfl rfl rfl (by kernel_rfl) (fun w hm _ => txn_load_nil w) ?_)
  refine VC_sound tabOk 100 ?_
  rfl

/-! ### so many -/
def upto (n : Nat) : List Int := (List.range n).map fun (j : Nat) => (j : Int) + 1
theorem upto_succ (n : Nat) : upto (n + 1) = upto n ++ [(n : Int) + 1] := by simp [upto, List.range_succ]
theorem upto_len (n : Nat) : (upto n).length = n := by simp [upto]
theorem mem_upto {n : Nat} {x : Int} : x ∈ upto n ↔ 1 ≤ x ∧ x ≤ n := by
  simp only [upto, List.mem_map, List.mem_range]
  constructor
  · rintro ⟨j, h1, rfl⟩; omega
  · intro h; exact ⟨(x - 1).toNat, by omega, by omega⟩
theorem mem_del {x y : Int} {l : List Int} : y ∈ del x l ↔ y ∈ l ∧ y ≠ x := by simp [del]
theorem del_len {n K : Nat} (h1 : 1 ≤ K) (h2 : K ≤ n) : (del (K : Int) (upto n)).length = n - 1 := by
  induction n with
  | zero => omega
  | succ n ih =>
    simp only [del] at ih ⊢
    rw [upto_succ, List.filter_append, List.length_append]
    by_cases h : K = n + 1
    · subst h
      have : (upto n).filter (fun y => !decide (y = ((n + 1 : Nat) : Int))) = upto n := List.filter_eq_self.2 fun a ha => by
        have := mem_upto.1 ha
        simp; omega
      rw [this, upto_len]
      simp
    · have hne : ¬ ((n : Int) + 1 = K) := by omega
      rw [ih (by omega)]
      simp [hne]; omega

set_option maxHeartbeats 4000000 in
theorem l6_TxnFull (n : Int) (w0 : World) (hn : 0 ≤ n ∧ n ≤ 255) : Calls Try.prog 4 #[.int .u8 n] w0 fun e w' => e = .returned (.bool true) ∧ BelowD w0.heap.size w0 w' := by
  obtain ⟨K, hK, hK6⟩ : ∃ K : Nat, n.tmod 6 = K ∧ K < 6 := by
    have h1 := Int.tmod_nonneg 6 hn.1
    have h2 := Int.tmod_lt_of_pos n (b := 6) (by decide)
    exact ⟨(n.tmod 6).toNat, by omega, by omega⟩
  refine enterP (tab := tab) Try.func4 rfl Try.ntmps4 rfl (args := [_]) rfl ?_
  refine VC_sound tabOk 100 ?_
  refine Go_ops rfl (OpTo_pcall (v := .bool true) rfl rfl rfl rfl rfl (by kernel_rfl) (fun w hm _ => l6_two w) ?_)
  refine VC_sound tabOk 100 ?_
  refine ⟨fun h => by first | (simp at h; done) | (simp at h; omega) | (simp_all; done), fun _ => ?_⟩
  show Go _ _ _ _
  refine Go_ops rfl (OpTo_ncall rfl rfl rfl rfl rfl (by kernel_rfl) (fun w hm _ => txn_new w) ?_)
  rintro _ _ ⟨m, b1, b2, rfl, rfl⟩
  refine VC_sound tabOk 100 ?_
  refine Go_loop (σ := Nat) (fun i => [(0, .v (.int .u8 n)), (3, .v (tp m)), (4, .v (.int .i64 i))]) (fun i => txB m b1 b2 ⟨((min i 6 : Nat) : Int) + 1, upto (min i 6), []⟩) (fun i => i ≤ 9) (fun i => 9 - i) 0 (by omega) ⟨rfl, rfl, rfl, trivial⟩ (fun _ h => h) ?_
  intro i hi
  dsimp only at hi ⊢
  refine VC_sound tabOk 100 ?_
  refine ⟨fun hb => ?_, fun hb => ?_⟩
  · have hlt : i < 9 := by simp at hb; omega
    by_cases h6 : i < 6
    · have e1 : min i 6 = i := by omega
      have e2 : min (i + 1) 6 = i + 1 := by omega
      rw [e1]
      show Go _ _ _ _
      refine Go_ops rfl (OpTo_mcall (txB m b1 b2 ⟨(i : Int) + 1, upto i, []⟩) [] (List.Perm.of_eq rfl) rfl rfl rfl rfl rfl (by kernel_rfl) (fun w hb hm hio hsp k => txn_begin_ok m b1 b2 ⟨(i : Int) + 1, upto i, []⟩ ⟨by rw [upto_len]; exact h6, by simp; omega⟩ (by simp; omega) (by rw [mem_upto]; dsimp only; omega) w _ k) ?_)
      rintro _ _ ⟨rfl, rfl⟩
      refine VC_sound tabOk 100 ?_
      refine ⟨fun h => by first | (simp at h; done) | (simp at h; omega) | (simp_all; done), fun _ => ?_⟩
      refine ⟨fun h => by first | (simp at h; done) | (simp at h; omega) | (simp_all; done), fun _ => ?_⟩
      refine ⟨_, wrap_i64 (n := (i : Int) + 1) (by omega) (by omega), ?_⟩
      refine Go_fin (i + 1) (by omega) (by omega) ⟨rfl, rfl, rfl, trivial⟩ (fun _ h => ?_)
      dsimp only
      rw [e2, upto_succ]
      exact h.permRs (List.Perm.of_eq (by simp [begS]))
    · have e1 : min i 6 = 6 := by omega
      have e2 : min (i + 1) 6 = 6 := by omega
      rw [e1]
      show Go _ _ _ _
      refine Go_ops rfl (OpTo_mcall (txB m b1 b2 ⟨((6 : Nat) : Int) + 1, upto 6, []⟩) [] (List.Perm.of_eq rfl) rfl rfl rfl rfl rfl (by kernel_rfl) (fun w hb hm hio hsp k => txn_begin_full m b1 b2 ⟨((6 : Nat) : Int) + 1, upto 6, []⟩ (.inl (by rw [upto_len]; exact Nat.le_refl _)) w _ k) ?_)
      rintro _ _ ⟨rfl, rfl⟩
      refine VC_sound tabOk 100 ?_
      refine ⟨fun h => by first | (simp at h; done) | (simp at h; omega) | (simp_all; done), fun _ => ?_⟩
      refine ⟨fun _ => ?_, fun h => by first | (simp at h; done) | (simp at h; omega) | (simp_all; done)⟩
      refine ⟨fun h => by first | (simp at h; done) | (simp at h; omega) | (simp_all; done), fun _ => ?_⟩
      refine ⟨fun h => by first | (simp at h; done) | (simp at h; omega) | (simp_all; done), fun _ => ?_⟩
      refine ⟨_, wrap_i64 (n := (i : Int) + 1) (by omega) (by omega), ?_⟩
      refine Go_fin (i + 1) (by omega) (by omega) ⟨rfl, rfl, rfl, trivial⟩ (fun _ h => ?_)
      dsimp only
      rw [e2]
      exact h.permRs (List.Perm.of_eq (List.append_nil _))
  · have he : i = 9 := by simp at hb; omega
    subst he
    refine ⟨by decide, _, hK.symm, ?_⟩
    refine ⟨_, wrap_i64 (n := (K : Int)) (by omega) (by omega), ?_⟩
    refine ⟨_, wrap_i64 (n := 1 + (K : Int)) (by omega) (by omega), ?_⟩
    have hk1 : (1 + (K : Int)) = ((K + 1 : Nat) : Int) := by omega
    rw [hk1]
    generalize hk : K + 1 = k
    have hkk : 1 ≤ k ∧ k ≤ 6 := by omega
    have hin : (k : Int) ∈ upto 6 := mem_upto.2 (by omega)
    have hout : ¬ (k : Int) ∈ del (k : Int) (upto 6) := fun h => (mem_del.1 h).2 rfl
    have hl5 : (del (k : Int) (upto 6)).length = 5 := del_len hkk.1 hkk.2
    have h7 : ¬ (7 : Int) ∈ del (k : Int) (upto 6) := fun h => by have := mem_upto.1 (mem_del.1 h).1; omega
    show Go _ _ _ _
    refine Go_ops rfl (OpTo_mcall (txB m b1 b2 ⟨7, upto 6, []⟩) [] (List.Perm.of_eq rfl) rfl rfl rfl rfl rfl (by kernel_rfl) (fun w hb hm hio hsp g => txn_abort_ok m b1 b2 ⟨7, upto 6, []⟩ k hin w _ g) ?_)
    rintro _ _ ⟨rfl, rfl⟩
    refine VC_sound tabOk 100 ?_
    refine ⟨fun h => by first | (simp at h; done) | (simp at h; omega) | (simp_all; done), fun _ => ?_⟩
    show Go _ _ _ _
    refine Go_ops rfl (OpTo_mcall (txB m b1 b2 ⟨7, del (k : Int) (upto 6), []⟩) [] (List.Perm.of_eq rfl) rfl rfl rfl rfl rfl (by kernel_rfl) (fun w hb hm hio hsp g => txn_abort_no m b1 b2 ⟨7, del (k : Int) (upto 6), []⟩ k hout w _ g) ?_)
    rintro _ _ ⟨rfl, rfl⟩
    refine VC_sound tabOk 100 ?_
    refine ⟨fun h => by first | (simp at h; done) | (simp at h; omega) | (simp_all; done), fun _ => ?_⟩
    show Go _ _ _ _
    refine Go_ops rfl (OpTo_mcall (txB m b1 b2 ⟨7, del (k : Int) (upto 6), []⟩) [] (List.Perm.of_eq rfl) rfl rfl rfl rfl rfl (by kernel_rfl) (fun w hb hm hio hsp g => txn_commit_no m b1 b2 ⟨7, del (k : Int) (upto 6), []⟩ k hout w _ g) ?_)
    rintro _ _ ⟨rfl, rfl⟩
    refine VC_sound tabOk 100 ?_
    refine ⟨fun h => by first | (simp at h; done) | (simp at h; omega) | (simp_all; done), fun _ => ?_⟩
    show Go _ _ _ _
    refine Go_ops rfl (OpTo_mcall (txB m b1 b2 ⟨7, del (k : Int) (upto 6), []⟩) [] (List.Perm.of_eq rfl) rfl rfl rfl rfl rfl (by kernel_rfl) (fun w hb hm hio hsp g => txn_begin_ok m b1 b2 ⟨7, del (k : Int) (upto 6), []⟩ ⟨by rw [hl5]; decide, by dsimp only; omega⟩ (by dsimp only; omega) h7 w _ g) ?_)
    rintro _ _ ⟨rfl, rfl⟩
    refine VC_sound tabOk 100 ?_
    refine ⟨fun _ => ?_, fun h => by first | (simp at h; done) | (simp at h; omega) | (simp_all; done)⟩
    refine ⟨fun _ => ?_, fun h => by first | (simp at h; done) | (simp at h; omega) | (simp_all; done)⟩
    have hs1 : stE ⟨8, del (k : Int) (upto 6) ++ [7], []⟩ k = 3 := by
      have h1 : ¬ ((k : Int) < 1 ∨ (8 : Int) ≤ k) := by omega
      have h2 : ¬ (k : Int) ∈ del (k : Int) (upto 6) ++ [7] := by
        rw [List.mem_append]
        rintro (h | h)
        · exact hout h
        · simp at h; omega
      rw [stE, if_neg h1, if_neg h2, if_neg (by simp)]
    have hs2 : stE ⟨8, del (k : Int) (upto 6) ++ [7], []⟩ 7 = 1 := by
      rw [stE, if_neg (by simp), if_pos (by simp)]
    show Go _ _ _ _
    refine Go_ops rfl (OpTo_mcall (Qc := fun v Rs' => v = .int .u8 3 ∧ Rs' = txB m b1 b2 ⟨8, del (k : Int) (upto 6) ++ [7], []⟩) (txB m b1 b2 ⟨8, del (k : Int) (upto 6) ++ [7], []⟩) [] (List.Perm.of_eq rfl) rfl rfl rfl rfl rfl (by kernel_rfl) (fun w hb hm hio hsp g => hs1 ▸ txn_state m b1 b2 ⟨8, del (k : Int) (upto 6) ++ [7], []⟩ k w _ g) ?_)
    rintro _ _ ⟨rfl, rfl⟩
    refine VC_sound tabOk 100 ?_
    refine ⟨fun _ => ?_, fun h => by first | (simp at h; done) | (simp at h; omega) | (simp_all; done)⟩
    show Go _ _ _ _
    refine Go_ops rfl (OpTo_mcall (Qc := fun v Rs' => v = .int .u8 1 ∧ Rs' = txB m b1 b2 ⟨8, del (k : Int) (upto 6) ++ [7], []⟩) (txB m b1 b2 ⟨8, del (k : Int) (upto 6) ++ [7], []⟩) [] (List.Perm.of_eq rfl) rfl rfl rfl rfl rfl (by kernel_rfl) (fun w hb hm hio hsp g => hs2 ▸ txn_state m b1 b2 ⟨8, del (k : Int) (upto 6) ++ [7], []⟩ 7 w _ g) ?_)
    rintro _ _ ⟨rfl, rfl⟩
    refine VC_sound tabOk 100 ?_
    rfl
end Go.Proofs.Ytpadhjojmiellaa
