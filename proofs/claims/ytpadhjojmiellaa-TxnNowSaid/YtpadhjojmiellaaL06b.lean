/- The law TxnNow: what its run comes to. -/
import Derived.Test.YtpadhjojmiellaaL06
set_option autoImplicit false
set_option linter.unusedVariables false
namespace Go.Proofs.Ytpadhjojmiellaa
open Go.RX Go Go.RowKit


/-! ### a snapshot shares nothing -/
set_option maxHeartbeats 4000000 in
theorem l6_TxnNow (n : Int) (w0 : World) (hn : 0 ≤ n ∧ n ≤ 255) : Calls Try.prog 3 #[.int .u8 n] w0 fun e w' => e = .returned (.bool true) ∧ Below w0.heap.size w0 w' := by
  obtain ⟨K, hK, hK6⟩ : ∃ K : Nat, n.tmod 4 = K ∧ K < 4 := by
    have h1 := Int.tmod_nonneg 4 hn.1
    have h2 := Int.tmod_lt_of_pos n (b := 4) (by decide)
    exact ⟨(n.tmod 4).toNat, by omega, by omega⟩
  refine enterP (tab := tab) Try.func3 rfl Try.ntmps3 rfl (args := [_]) rfl ?_
  refine VC_sound tabOk 100 ?_
  refine Go_ops rfl (OpTo_pcall (v := .bool true) rfl rfl rfl rfl rfl (by kernel_rfl) (fun w hm _ => l6_two w) ?_)
  refine VC_sound tabOk 100 ?_
  refine ⟨fun h => by first | (simp at h; done) | (simp at h; omega) | (simp_all; done), fun _ => ?_⟩
  show Go _ _ _ _
  refine Go_ops rfl (OpTo_ncall rfl rfl rfl rfl rfl (by kernel_rfl) (fun w hm _ => txn_new w) ?_)
  rintro _ _ ⟨m, b1, b2, rfl, rfl⟩
  refine VC_sound tabOk 100 ?_
  refine Go_loop (σ := Nat) (fun i => [(0, .v (.int .u8 n)), (3, .v (tp m)), (4, .v (.int .i64 i))]) (fun i => txB m b1 b2 ⟨(i : Int) + 1, upto i, []⟩) (fun i => i ≤ 4) (fun i => 4 - i) 0 (by omega) ⟨rfl, rfl, rfl, trivial⟩ (fun _ h => h) ?_
  intro i hi
  dsimp only at hi ⊢
  refine VC_sound tabOk 100 ?_
  refine ⟨fun hb => ?_, fun hb => ?_⟩
  · have hlt : i < 4 := by simp at hb; omega
    show Go _ _ _ _
    refine Go_ops rfl (OpTo_mcall (txB m b1 b2 ⟨(i : Int) + 1, upto i, []⟩) [] (List.Perm.of_eq rfl) rfl rfl rfl rfl rfl (by kernel_rfl) (fun w hb hm hio hsp k => txn_begin_ok m b1 b2 ⟨(i : Int) + 1, upto i, []⟩ ⟨by rw [upto_len]; omega, by dsimp only; omega⟩ (by dsimp only; omega) (by rw [mem_upto]; dsimp only; omega) w _ k) ?_)
    rintro _ _ ⟨rfl, rfl⟩
    refine VC_sound tabOk 100 ?_
    refine ⟨_, wrap_i64 (n := (i : Int) + 1) (by omega) (by omega), ?_⟩
    refine Go_fin (i + 1) (by omega) (by omega) ⟨rfl, rfl, rfl, trivial⟩ (fun _ h => ?_)
    dsimp only
    rw [upto_succ]
    exact h.permRs (List.Perm.of_eq (by simp [begS]))
  have he : i = 4 := by simp at hb; omega
  subst he
  show Go _ _ _ _
  refine Go_ops rfl (OpTo_mcall (txB m b1 b2 ⟨5, upto 4, []⟩) [] (List.Perm.of_eq rfl) rfl rfl rfl rfl rfl (by kernel_rfl) (fun w hb hm hio hsp k => txn_now m b1 b2 ⟨5, upto 4, []⟩ (by decide) w _ k) ?_)
  rintro _ _ ⟨A, c, ks, rfl, hp, hr, rfl⟩
  have hl4 : ks.length = 4 := hp.length_eq
  refine Go_with _ (fun w hm _ => hm.own_some (i := 0) rfl (by rintro rfl; simp at hl4)) ?_
  rintro ⟨a, o, rfl⟩
  refine VC_sound tabOk 100 ?_
  intro b5 _
  (repeat (first | refine Or.inl ⟨rfl, rfl, ?_⟩ | refine Or.inl ⟨rfl, ?_⟩ | refine Or.inr ?_))
  refine Go_loop (σ := Nat) (fun i => [(0, .v (.int .u8 n)), (3, .v (tp m)), (5, .v (.pointer (some ⟨b5, 0, none⟩))), (6, .v (.int .i64 i))]) (fun i => .blk b5 30 [.int .i64 5, .slice (some ⟨a, o, none⟩) ks.length c] :: own (encI .i64) 1 2 (some ⟨a, o, none⟩) c (List.replicate i (n + 9) ++ ks.drop i) :: txB m b1 b2 ⟨5, upto 4, []⟩) (fun i => i ≤ 4) (fun i => 4 - i) 0 (by omega) ⟨rfl, rfl, rfl, rfl, trivial⟩ (fun _ h => h) ?_
  intro i hi
  dsimp only at hi ⊢
  refine VC_sound tabOk 100 ?_
  (repeat (first | refine Or.inl ⟨rfl, rfl, ?_⟩ | refine Or.inl ⟨rfl, ?_⟩ | refine Or.inr ?_))
  refine ⟨fun hb => ?_, fun hb => ?_⟩
  · have hlt : i < 4 := by simp at hb; omega
    (repeat (first | refine Or.inl ⟨rfl, rfl, ?_⟩ | refine Or.inl ⟨rfl, ?_⟩ | refine Or.inr ?_))
    refine ⟨_, wrap_i64 (n := n) (by omega) (by omega), ?_⟩
    refine ⟨_, wrap_i64 (n := n + 9) (by omega) (by omega), ?_⟩
    have hln : (List.replicate i (n + 9) ++ ks.drop i).length = 4 := by simp [hl4]; omega
    have hset : (List.replicate i (n + 9) ++ ks.drop i).set i (n + 9) = List.replicate (i + 1) (n + 9) ++ ks.drop (i + 1) := by
      have hlk : i < ks.length := by rw [hl4]; exact hlt
      rw [List.set_append_right _ _ (by simp), List.length_replicate, Nat.sub_self, List.drop_eq_getElem_cons hlk, List.set_cons_zero, List.replicate_succ']
      simp
    refine ⟨⟨by omega, by rw [hl4]; omega⟩, ?_⟩
    (repeat (first | refine Or.inl ⟨rfl, rfl, ?_⟩ | refine Or.inl ⟨rfl, ?_⟩ | refine Or.inr ?_))
    show Go _ _ _ _
    refine Go_ops rfl (OpTo_storeRow tabOk (encI_is .i64) (n := i) (s := .v (.int .i64 (n + 9))) (u := n + 9) 1 rfl rfl rfl rfl rfl rfl rfl (by rw [hln]; exact hlt) (by simp [addA]) rfl ?_)
    rw [hset]
    refine VC_sound tabOk 100 ?_
    refine ⟨_, wrap_i64 (n := (i : Int) + 1) (by omega) (by omega), ?_⟩
    exact Go_fin (i + 1) (by omega) (by omega) ⟨rfl, rfl, rfl, rfl, trivial⟩ (fun _ h => h)
  have he : i = 4 := by rw [hl4] at hb; simp at hb; omega
  subst he
  refine ⟨by decide, _, hK.symm, ?_⟩
  refine ⟨_, wrap_i64 (n := (K : Int)) (by omega) (by omega), ?_⟩
  refine ⟨_, wrap_i64 (n := 1 + (K : Int)) (by omega) (by omega), ?_⟩
  have hk1 : (1 + (K : Int)) = ((K + 1 : Nat) : Int) := by omega
  rw [hk1]
  generalize hk : K + 1 = k
  have hkk : 1 ≤ k ∧ k ≤ 4 := by omega
  have hin : (k : Int) ∈ upto 4 := mem_upto.2 (by omega)
  have hl3 : (del (k : Int) (upto 4)).length = 3 := del_len hkk.1 hkk.2
  show Go _ _ _ _
  refine Go_ops rfl (OpTo_mcall (txB m b1 b2 ⟨5, upto 4, []⟩) [.blk b5 30 [.int .i64 5, .slice (some ⟨a, o, none⟩) ks.length c], own (encI .i64) 1 2 (some ⟨a, o, none⟩) c (List.replicate 4 (n + 9) ++ ks.drop 4)] ?_ rfl rfl rfl rfl rfl (by kernel_rfl) (fun w hb hm hio hsp g => txn_commit_ok m b1 b2 ⟨5, upto 4, []⟩ k hin w _ g) ?_)
  · exact List.perm_append_comm (l₁ := [_, _])
  rintro _ _ ⟨rfl, rfl⟩
  refine VC_sound tabOk 100 ?_
  show Go _ _ _ _
  refine Go_ops rfl (OpTo_mcall (txB m b1 b2 ⟨5, del (k : Int) (upto 4), ins (k : Int) []⟩) [.blk b5 30 [.int .i64 5, .slice (some ⟨a, o, none⟩) ks.length c], own (encI .i64) 1 2 (some ⟨a, o, none⟩) c (List.replicate 4 (n + 9) ++ ks.drop 4)] (List.Perm.of_eq rfl) rfl rfl rfl rfl rfl (by kernel_rfl) (fun w hb hm hio hsp g => txn_now m b1 b2 ⟨5, del (k : Int) (upto 4), ins (k : Int) []⟩ (by dsimp only; rw [hl3]; decide) w _ g) ?_)
  rintro _ _ ⟨A', c', ks', rfl, hp', hr', rfl⟩
  have hl' : ks'.length = 3 := by rw [hp'.length_eq]; exact hl3
  refine VC_sound tabOk 100 ?_
  intro b7 _
  (repeat (first | refine Or.inl ⟨rfl, rfl, ?_⟩ | refine Or.inl ⟨rfl, ?_⟩ | refine Or.inr ?_))
  refine ⟨fun _ => ?_, fun h => by first | (simp at h; done) | (simp at h; omega) | (simp_all; done)⟩
  (repeat (first | refine Or.inl ⟨rfl, rfl, ?_⟩ | refine Or.inl ⟨rfl, ?_⟩ | refine Or.inr ?_))
  have hst : stE ⟨5, del (k : Int) (upto 4), ins (k : Int) []⟩ k = 2 := by
    have h1 : ¬ ((k : Int) < 1 ∨ (5 : Int) ≤ k) := by omega
    rw [stE, if_neg h1, if_neg (fun h => (mem_del.1 h).2 rfl), if_pos (by simp [ins])]
  refine ⟨fun _ => ?_, fun h => by first | (simp at h; done) | (simp at h; omega) | (simp_all; done)⟩
  refine ⟨by decide, _, hK.symm, ?_⟩
  refine ⟨_, wrap_i64 (n := (K : Int)) (by omega) (by omega), ?_⟩
  refine ⟨_, wrap_i64 (n := 1 + (K : Int)) (by omega) (by omega), ?_⟩
  rw [hk1, hk]
  show Go _ _ _ _
  refine Go_ops rfl (OpTo_mcall (Qc := fun v Rs' => v = .int .u8 2 ∧ Rs' = txB m b1 b2 ⟨5, del (k : Int) (upto 4), ins (k : Int) []⟩) (txB m b1 b2 ⟨5, del (k : Int) (upto 4), ins (k : Int) []⟩) [.blk b7 30 [.int .i64 5, .slice A' ks'.length c'], own (encI .i64) 1 2 A' c' ks', .blk b5 30 [.int .i64 5, .slice (some ⟨a, o, none⟩) ks.length c], own (encI .i64) 1 2 (some ⟨a, o, none⟩) c (List.replicate 4 (n + 9) ++ ks.drop 4)] ?_ rfl rfl rfl rfl rfl (by kernel_rfl) (fun w hb hm hio hsp g => hst ▸ txn_state m b1 b2 ⟨5, del (k : Int) (upto 4), ins (k : Int) []⟩ k w _ g) ?_)
  · simp only [List.cons_append, List.nil_append]
    refine (List.Perm.cons _ (List.Perm.cons _ ?_)).trans (List.perm_append_comm (l₁ := [_, _, _, _]) (l₂ := txB m b1 b2 ⟨5, del (k : Int) (upto 4), ins (k : Int) []⟩))
    exact List.perm_append_comm (l₁ := txB m b1 b2 ⟨5, del (k : Int) (upto 4), ins (k : Int) []⟩)
  rintro _ _ ⟨rfl, rfl⟩
  refine VC_sound tabOk 100 ?_
  rfl
end Go.Proofs.Ytpadhjojmiellaa
