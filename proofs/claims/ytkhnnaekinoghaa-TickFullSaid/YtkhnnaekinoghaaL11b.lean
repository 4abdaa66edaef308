/- The laws of layer 11, more: what each run comes to. -/
import Derived.Test.YtkhnnaekinoghaaL11
set_option autoImplicit false
set_option linter.unusedVariables false
namespace Go.Proofs.Ytkhnnaekinoghaa
open Go.RX Go Go.RowKit


/-- Numbered from 1 on. -/
def Nums (ts : List TickM) : Prop := ts.map (·.n) = (List.range ts.length).map fun i : Nat => (i : Int) + 1
theorem Nums.nil : Nums [] := rfl
theorem Nums.snoc {ts : List TickM} (h : Nums ts) (x : TickM) (hx : x.n = (ts.length : Int) + 1) : Nums (ts ++ [x]) := by
  unfold Nums at h ⊢
  simp [List.range_succ, h, hx]
theorem Nums.gone {ts : List TickM} (h : Nums ts) (q : Int → Bool) : (ts.filter fun x => q x.n).length = (((List.range ts.length).map fun i : Nat => (i : Int) + 1).filter q).length := by
  rw [← h, List.filter_map, List.length_map]; rfl
theorem TkOne.filter {ts : List TickM} (h : TkOne ts) (q : TickM → Bool) : TkOne (ts.filter q) := fun t ht => h t (List.mem_filter.1 ht).1

theorem full_count : ∀ K : Nat, K < 60 → (((List.range 64).map fun i : Nat => (i : Int) + 1).filter fun n => !(decide (n < 2 + (K : Int)) && decide (n < 64))).length = 63 - K := by decide +kernel

set_option maxHeartbeats 1000000 in
theorem l11_TickFull (n : Int) (w0 : World) (hn : 0 ≤ n ∧ n ≤ 255) : Calls Try.prog 3 #[.int .u8 n] w0 fun e w' => e = .returned (.bool true) ∧ Below w0.heap.size w0 w' := by
  refine enterP (tab := tab) Try.func3 rfl Try.ntmps3 rfl (args := [_]) rfl ?_
  refine VC_sound tabOk 100 ?_
  refine Go_ops rfl (OpTo_pcall (v := .bool true) rfl rfl rfl rfl rfl (by kernel_rfl) (fun w hm _ => l11_trims w) ?_)
  refine VC_sound tabOk 100 ?_
  refine ⟨fun h => by simp at h, fun _ => ?_⟩
  show Go _ _ _ _
  refine Go_ops rfl (OpTo_ncall rfl rfl rfl rfl rfl (by kernel_rfl) (fun w hm _ => tick_new2 w) ?_)
  rintro _ _ ⟨bt, rfl, rfl⟩
  refine VC_sound tabOk 100 ?_
  refine Go_loop (σ := Nat × Option Addr × Nat × List TickM) (fun s => [(0, .v (.int .u8 n)), (3, .v (.pointer (some ⟨bt, 0, none⟩))), (4, .v (.int .i64 s.1))]) (fun s => tkR bt s.2.1 s.2.2.1 s.2.2.2 s.1)
    (fun s => s.1 ≤ 64 ∧ s.2.2.2.length = s.1 ∧ TkOne s.2.2.2 ∧ Nums s.2.2.2) (fun s => 64 - s.1) (0, none, 0, []) ⟨by simp, rfl, TkOne.nil, Nums.nil⟩ ⟨rfl, rfl, rfl, trivial⟩ (fun _ h => h) ?_
  rintro ⟨i, A, c, ts⟩ ⟨hi, hl, h1, hnum⟩
  dsimp only at hi hl h1 hnum ⊢
  refine VC_sound tabOk 100 ?_
  refine ⟨fun hb => ?_, fun hb => ?_⟩
  · have hlt : i < 64 := by simp at hb; omega
    show Go _ _ _ _
    refine Go_ops rfl (OpTo_mcall (tkR bt A c ts i) [] (List.Perm.of_eq (by simp)) rfl rfl rfl rfl rfl (by kernel_rfl) (fun w hb hm hio hsp k => add_one bt A c ts i w _ k h1 (by omega) (by omega)) ?_)
    rintro _ _ ⟨A1, c1, A2, c2, A3, c3, rfl, rfl⟩
    refine VC_sound tabOk 100 ?_
    intro b5 _
    (repeat (first | refine Or.inl ⟨rfl, rfl, ?_⟩ | refine Or.inl ⟨rfl, ?_⟩ | refine Or.inr ?_))
    refine ⟨fun h => by simp at h, fun _ => ?_⟩
    refine ⟨_, wrap_i64 (n := (i : Int) + 1) (by omega) (by omega), ?_⟩
    exact Go_fin (i + 1, A2, c2, ts ++ [⟨(i : Int) + 1, 1, A1, c1, [], 0⟩]) ⟨by simp; omega, by simp [hl], h1.snoc _ _ _, hnum.snoc _ (by simp [hl])⟩ (by simp; omega) ⟨rfl, rfl, rfl, trivial⟩ (fun _ h => by
      have h := h.sel [1, 2, 3] rfl
      dsimp only
      rw [show ((i + 1 : Nat) : Int) = (i : Int) + 1 by omega]
      exact h)
  · have e : i = 64 := by simp at hb; omega
    subst e
    show Go _ _ _ _
    refine Go_ops rfl (OpTo_mcall (tkR bt A c ts 64) [] (List.Perm.of_eq (by simp)) rfl rfl rfl rfl rfl (by kernel_rfl) (fun w hb hm hio hsp k => add_full bt A c ts 64 w _ k h1 (by omega) (by omega) (by omega)) ?_)
    rintro _ _ ⟨rfl, rfl⟩
    refine VC_sound tabOk 100 ?_
    intro b7 _
    (repeat (first | refine Or.inl ⟨rfl, rfl, ?_⟩ | refine Or.inl ⟨rfl, ?_⟩ | refine Or.inr ?_))
    obtain ⟨K, hK, hK60⟩ : ∃ K : Nat, n.tmod 60 = K ∧ K < 60 := by
      have h1 := Int.tmod_nonneg 60 hn.1
      have h2 := Int.tmod_lt_of_pos n (b := 60) (by decide)
      exact ⟨(n.tmod 60).toNat, by omega, by omega⟩
    refine ⟨by decide, _, hK.symm, ?_⟩
    refine ⟨_, wrap_i64 (n := (K : Int)) (by omega) (by omega), ?_⟩
    refine ⟨_, wrap_i64 (n := 2 + (K : Int)) (by omega) (by omega), ?_⟩
    refine Go_sel [1, 2, 3, 0] rfl ?_
    show Go _ _ _ _
    refine Go_ops rfl (OpTo_mcall (tkR bt A c ts 64) [.blk b7 29 [.int .i64 0, .int .i64 0, .slice none 0 0, .int .i64 0]] (List.Perm.refl _) rfl rfl rfl rfl rfl (by kernel_rfl) (fun w hb hm hio hsp k => tick_trim bt A c ts 64 (2 + (K : Int)) w _ k (by omega)) ?_)
    rintro _ _ ⟨rfl, rfl⟩
    have hcnt : (ts.filter fun x => !tkGone (2 + (K : Int)) 64 x).length = 63 - K := by
      have := hnum.gone fun n => !(decide (n < 2 + (K : Int)) && decide (n < 64))
      rw [hl, full_count K hK60] at this
      exact this
    have h2 := h1.filter fun x => !tkGone (2 + (K : Int)) 64 x
    rw [hcnt, hl]
    generalize hts : (ts.filter fun x => !tkGone (2 + (K : Int)) 64 x) = us at *
    refine VC_sound tabOk 100 ?_
    show Go _ _ _ _
    refine Go_ops rfl (OpTo_mcall (tkR bt A c us 64) [.blk b7 29 [.int .i64 0, .int .i64 0, .slice none 0 0, .int .i64 0]] (List.Perm.refl _) rfl rfl rfl rfl rfl (by kernel_rfl) (fun w hb hm hio hsp k => add_one bt A c us 64 w _ k h2 (by omega) (by omega)) ?_)
    rintro _ _ ⟨A1, c1, A2, c2, A3, c3, rfl, rfl⟩
    refine VC_sound tabOk 100 ?_
    intro b8 _
    (repeat (first | refine Or.inl ⟨rfl, rfl, ?_⟩ | refine Or.inl ⟨rfl, ?_⟩ | refine Or.inr ?_))
    refine ⟨fun _ => ?_, fun h => by simp at h⟩
    refine ⟨_, wrap_i64 (n := 2 + (K : Int) - 1) (by omega) (by omega), ?_⟩
    refine ⟨fun _ => ?_, fun h => by have := of_decide_eq_false h; omega⟩
    refine ⟨fun _ => ?_, fun h => by simp at h⟩
    (repeat (first | refine Or.inl ⟨rfl, rfl, ?_⟩ | refine Or.inl ⟨rfl, ?_⟩ | refine Or.inr ?_))
    refine ⟨fun _ => ?_, fun h => by simp at h⟩
    refine Go_ops rfl (OpTo_pcall (v := .int .i64 (us ++ [(⟨64 + 1, 1, A1, c1, [], 0⟩ : TickM)]).length) rfl rfl rfl rfl rfl (by kernel_rfl) (fun w hm _ => tick_len bt A2 _ c2 (64 + 1) w (hm.blk_at (i := 1) rfl)) ?_)
    refine VC_sound tabOk 100 ?_
    refine ⟨_, wrap_i64 (n := 64 - (64 - ((63 - K : Nat) : Int))) (by omega) (by omega), ?_⟩
    refine ⟨_, wrap_i64 (n := 64 - (64 - ((63 - K : Nat) : Int)) + 1) (by omega) (by omega), ?_⟩
    refine congrArg Value.bool (decide_eq_true ?_)
    simp [hcnt]
    omega
end Go.Proofs.Ytkhnnaekinoghaa
