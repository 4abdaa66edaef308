/- The law's managers: the program's and the reference's, alike. -/
import Derived.Test.YtphfeldcmkbinaaR06
set_option autoImplicit false
set_option linter.unusedVariables false
set_option linter.unusedSimpArgs false
namespace Go.Proofs.Ytphfeldcmkbinaa
open Go.RX Go Go.RowKit


theorem txOf_beg (R : List Int) : begS (txOf R) = txOf (R ++ [1]) := by
  simp only [begS, txOf, pos_append, List.length_append, List.length_cons, List.length_nil]
  simp
theorem pos_not_mem (k : Int) (R : List Int) : ¬ ((R.length : Int) + 1) ∈ pos k R := fun h => by have := pos_mem.1 h; omega
theorem del_last (R : List Int) : del ((R.length : Int) + 1) (pos 1 (R ++ [1])) = pos 1 R := by
  rw [pos_append, if_pos rfl, del, List.filter_append]
  have : (pos 1 R).filter (fun y => !decide (y = (R.length : Int) + 1)) = pos 1 R := List.filter_eq_self.2 fun a ha => by
    have : a ≠ (R.length : Int) + 1 := fun h => pos_not_mem 1 R (h ▸ ha)
    simp [this]
  rw [this]; simp
theorem txOf_abort (R : List Int) : (⟨(txOf (R ++ [1])).next, del ((R.length : Int) + 1) (txOf (R ++ [1])).O, (txOf (R ++ [1])).D⟩ : TxS) = txOf (R ++ [3]) := by
  simp only [txOf, del_last]
  simp only [pos_append, List.length_append, List.length_cons, List.length_nil]
  simp
theorem txOf_commit (R : List Int) : (⟨(txOf (R ++ [1])).next, del ((R.length : Int) + 1) (txOf (R ++ [1])).O, ins ((R.length : Int) + 1) (txOf (R ++ [1])).D⟩ : TxS) = txOf (R ++ [2]) := by
  have h : ins ((R.length : Int) + 1) (pos 2 (R ++ [1])) = pos 2 (R ++ [2]) := by
    rw [pos_append, pos_append, if_neg (by decide), if_pos rfl, List.append_nil, ins, if_neg (pos_not_mem 2 R)]
  simp only [txOf, del_last, h]
  simp only [pos_append, List.length_append, List.length_cons, List.length_nil]
  simp

/-- Both managers. -/
abbrev mgrR (m b1 b2 br : Nat) (Ar : Option Addr) (cr : Nat) (R : List Int) : List Res := txB m b1 b2 (txOf R) ++ refB br Ar cr R
def mgrQ (n : Nat) : Value → List Res → Prop := fun v Rs => ∃ m b1 b2 br Ar cr R, v = .tuple #[.pointer (some ⟨m, 0, none⟩), .pointer (some ⟨br, 0, none⟩)] ∧ okR R ∧ R.length ≤ n ∧ Rs = mgrR m b1 b2 br Ar cr R

set_option maxHeartbeats 8000000 in
theorem l12_managers (A : Option Addr) (c : Nat) (xs : List Int) (w0 : World) (hr : RdW w0 A (xs.flatMap encU)) (hx : ∀ z ∈ xs, 0 ≤ z ∧ z ≤ 255) (hl : xs.length ≤ 1000) :
    Calls Try.prog 10 #[.slice A xs.length c] w0 fun e w' => ∃ v Rs', e = .returned v ∧ mgrQ xs.length v Rs' ∧ Mod [heapOf w0] Rs' w' ∧ Oth w0 w' := by
  refine enterN (tab := tab) Try.func10 rfl Try.ntmps10 rfl (args := [_]) rfl (Mod.start w0) ?_
  refine VC_sound tabOk 100 ?_
  show Go _ _ _ _
  refine Go_ops rfl (OpTo_ncall rfl rfl rfl rfl rfl (by kernel_rfl) (fun w hm _ => txn_new w) ?_)
  rintro _ _ ⟨m, b1, b2, rfl, rfl⟩
  refine VC_sound tabOk 100 ?_
  intro br _
  refine Go_loop (σ := Option Addr × Nat × List Int) (fun s => [(0, .v (.slice A xs.length c)), (4, .v (.pointer (some ⟨m, 0, none⟩))), (5, .v (.pointer (some ⟨br, 0, none⟩))), (6, .v (.int .i64 s.2.2.length))]) (fun s => mgrR m b1 b2 br s.1 s.2.1 s.2.2) (fun s => okR s.2.2 ∧ s.2.2.length ≤ xs.length) (fun s => xs.length - s.2.2.length) (none, 0, []) ⟨fun _ h => by simp at h, Nat.zero_le _⟩ ⟨rfl, rfl, rfl, rfl, trivial⟩ (fun _ h => (h.own_nil (enc := encU) (k := 1) (T := 5) none).sel [2, 3, 4, 1, 0] rfl) ?_
  rintro ⟨Ar, cr, R⟩ ⟨hok, hi⟩
  dsimp only at hok hi ⊢
  have hpl := pos_len 1 R
  by_cases hlt : R.length < xs.length
  · obtain ⟨b, o, rfl⟩ := RdW.some (encI_is .u8) hr (ne_nil_of_lt hlt)
    obtain ⟨z, hz⟩ : ∃ z, xs[R.length]? = some z := ⟨_, List.getElem?_eq_getElem hlt⟩
    obtain ⟨Z, hZ, hZ8⟩ : ∃ K : Nat, z.tmod 8 = K ∧ (K : Int) < 8 := by
      have h1 := Int.tmod_nonneg 8 (hx z (List.mem_of_getElem? hz)).1
      have h2 := Int.tmod_lt_of_pos z (b := 8) (by decide)
      exact ⟨(z.tmod 8).toNat, by omega, by omega⟩
    have okS : ∀ s, s = 1 ∨ s = 2 ∨ s = 3 → okR (R ++ [s]) := fun s hs y hy => by
      rcases List.mem_append.1 hy with h | h
      · exact hok y h
      · simp at h; subst h; exact hs
    refine VC_sound tabOk 100 ?_
    refine ⟨fun _ => ?_, fun h => by first | (simp at h; done) | (simp at h; omega) | (simp_all; done)⟩
    by_cases h6 : (pos 1 R).length < 6
    · refine Go_ops rfl (OpTo_mcall (txB m b1 b2 (txOf R)) (refB br Ar cr R) (List.Perm.of_eq rfl) rfl rfl rfl rfl rfl (by kernel_rfl) (fun w hb hm hio hsp k => txn_begin_ok m b1 b2 (txOf R) ⟨h6, by dsimp only; omega⟩ (by dsimp only; omega) (pos_not_mem 1 R) w _ k) ?_)
      rintro _ _ ⟨rfl, rfl⟩
      rw [txOf_beg]
      refine VC_sound tabOk 100 ?_
      show Go _ _ _ _
      refine Go_ops rfl (OpTo_mcall (refB br Ar cr R) (txB m b1 b2 (txOf (R ++ [1]))) (List.perm_append_comm) rfl rfl rfl rfl rfl (by kernel_rfl) (fun w hb hm hio hsp k => r06_begin_ok br Ar cr R ⟨h6, by omega⟩ w _ k) ?_)
      rintro _ _ ⟨A2, c2, rfl, rfl⟩
      refine VC_sound tabOk 100 ?_
      refine ⟨fun h => by first | (simp at h; done) | (simp at h; omega) | (simp_all; done), fun _ => ?_⟩
      refine ⟨⟨by omega, by omega⟩, ?_⟩
      (repeat (first | refine Or.inl ⟨rfl, rfl, ?_⟩ | refine Or.inl ⟨rfl, ?_⟩ | refine Or.inr ?_))
      refine Go_ops rfl (OpTo_loadRow tabOk (encI_is .u8) (.int .u8 z) rfl rfl rfl rfl rfl (fun h => rfl) (fun w hm _ => hr.mod hm) hz (by simp only [addA]; rfl) ?_)
      refine VC_sound tabOk 100 ?_
      refine ⟨by decide, _, hZ.symm, ?_⟩
      refine ⟨fun h0 => ?_, fun h0 => ?_⟩
      · refine ⟨_, wrap_i64 (n := (R.length : Int) + 1) (by omega) (by omega), ?_⟩
        refine Go_fin (A2, c2, R ++ [1]) ⟨okS 1 (.inl rfl), by simp; omega⟩ (by simp; omega) ⟨rfl, rfl, rfl, congrArg (Value.int .i64) (by simp), trivial⟩ (fun _ h => h.permRs List.perm_append_comm)
      · refine ⟨fun h1 => ?_, fun h1 => ?_⟩
        · refine Go_ops rfl (OpTo_mcall (txB m b1 b2 (txOf (R ++ [1]))) (refB br A2 c2 (R ++ [1])) (List.perm_append_comm) rfl rfl rfl rfl rfl (by kernel_rfl) (fun w hb hm hio hsp k => txn_abort_ok m b1 b2 (txOf (R ++ [1])) ((R.length : Int) + 1) (by dsimp only; rw [pos_append]; simp) w _ k) ?_)
          rintro _ _ ⟨rfl, rfl⟩
          rw [txOf_abort]
          refine VC_sound tabOk 100 ?_
          show Go _ _ _ _
          refine Go_ops rfl (OpTo_mcall (refB br A2 c2 (R ++ [1])) (txB m b1 b2 (txOf (R ++ [3]))) (List.perm_append_comm) rfl rfl rfl rfl rfl (by kernel_rfl) (fun w hb hm hio hsp k => r06_end_last br A2 c2 R 3 (by omega) w _ k) ?_)
          rintro _ _ ⟨rfl, rfl⟩
          refine VC_sound tabOk 100 ?_
          refine ⟨_, wrap_i64 (n := (R.length : Int) + 1) (by omega) (by omega), ?_⟩
          refine Go_fin (A2, c2, R ++ [3]) ⟨okS 3 (.inr (.inr rfl)), by simp; omega⟩ (by simp; omega) ⟨rfl, rfl, rfl, congrArg (Value.int .i64) (by simp), trivial⟩ (fun _ h => h.permRs List.perm_append_comm)
        · refine Go_ops rfl (OpTo_mcall (txB m b1 b2 (txOf (R ++ [1]))) (refB br A2 c2 (R ++ [1])) (List.perm_append_comm) rfl rfl rfl rfl rfl (by kernel_rfl) (fun w hb hm hio hsp k => txn_commit_ok m b1 b2 (txOf (R ++ [1])) ((R.length : Int) + 1) (by dsimp only; rw [pos_append]; simp) w _ k) ?_)
          rintro _ _ ⟨rfl, rfl⟩
          rw [txOf_commit]
          refine VC_sound tabOk 100 ?_
          show Go _ _ _ _
          refine Go_ops rfl (OpTo_mcall (refB br A2 c2 (R ++ [1])) (txB m b1 b2 (txOf (R ++ [2]))) (List.perm_append_comm) rfl rfl rfl rfl rfl (by kernel_rfl) (fun w hb hm hio hsp k => r06_end_last br A2 c2 R 2 (by omega) w _ k) ?_)
          rintro _ _ ⟨rfl, rfl⟩
          refine VC_sound tabOk 100 ?_
          refine ⟨_, wrap_i64 (n := (R.length : Int) + 1) (by omega) (by omega), ?_⟩
          refine Go_fin (A2, c2, R ++ [2]) ⟨okS 2 (.inr (.inl rfl)), by simp; omega⟩ (by simp; omega) ⟨rfl, rfl, rfl, congrArg (Value.int .i64) (by simp), trivial⟩ (fun _ h => h.permRs List.perm_append_comm)
    · refine Go_ops rfl (OpTo_mcall (txB m b1 b2 (txOf R)) (refB br Ar cr R) (List.Perm.of_eq rfl) rfl rfl rfl rfl rfl (by kernel_rfl) (fun w hb hm hio hsp k => txn_begin_full m b1 b2 (txOf R) (.inl (by dsimp only; omega)) w _ k) ?_)
      rintro _ _ ⟨rfl, rfl⟩
      refine VC_sound tabOk 100 ?_
      show Go _ _ _ _
      refine Go_ops rfl (OpTo_mcall (refB br Ar cr R) (txB m b1 b2 (txOf R)) (List.perm_append_comm) rfl rfl rfl rfl rfl (by kernel_rfl) (fun w hb hm hio hsp k => r06_begin_no br Ar cr R (by omega) (by omega) w _ k) ?_)
      rintro _ _ ⟨rfl, rfl⟩
      refine VC_sound tabOk 100 ?_
      refine ⟨fun _ => ?_, fun h => by first | (simp at h; done) | (simp at h; omega) | (simp_all; done)⟩
      exact ⟨_, ⟨m, b1, b2, br, Ar, cr, R, rfl, hok, hi, rfl⟩, fun _ _ h => h.permRs List.perm_append_comm⟩
  refine VC_sound tabOk 100 ?_
  refine ⟨fun h => by first | (simp at h; done) | (simp at h; omega) | (simp_all; done), fun _ => ?_⟩
  exact ⟨_, ⟨m, b1, b2, br, Ar, cr, R, rfl, hok, hi, rfl⟩, fun _ _ h => h⟩
end Go.Proofs.Ytphfeldcmkbinaa
