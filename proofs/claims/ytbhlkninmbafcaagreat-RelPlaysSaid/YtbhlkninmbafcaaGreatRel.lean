/- What some functions of packages rel, heap and txn do: those that make empty ones. -/
import Derived.Test.YtbhlkninmbafcaaGreatSl64
import Derived.Test.YtbhlkninmbafcaaGreatRxMap
set_option maxRecDepth 100000
set_option autoImplicit false
set_option linter.unusedVariables false
namespace Go.Proofs.YtbhlkninmbafcaaGreat
open Go.RX Go Go.RowKit


def encP : Option Addr → List Value := fun x => [.pointer x]
theorem encP_is : IsEnc encP 1 := ⟨fun _ => rfl, fun x v hv => by simp [encP] at hv; subst hv; rfl, by decide⟩

def txR (bm b1 b2 : Nat) : List Res := [.blk bm 75 [.int .i64 1, .map (some b1), .map (some b2)], mapR b1 [] 0, mapR b2 [] 0]
theorem rl_txn_new (w0 : World) : Calls Tryz.prog 6 #[] w0 fun e w' => ∃ v Rs', e = .returned v ∧ (∃ bm b1 b2, v = .pointer (some ⟨bm, 0, none⟩) ∧ Rs' = txR bm b1 b2) ∧ Mod [heapOf w0] Rs' w' ∧ Oth w0 w' := by
  refine enterN (tab := tab) Tryz.func6 rfl Tryz.ntmps6 rfl (args := []) rfl (Mod.start w0) ?_
  refine VC_sound tabOk 100 ?_
  refine Go_ops rfl (OpTo_makeMap rfl ?_)
  intro b1 _
  refine VC_sound tabOk 100 ?_
  refine Go_ops rfl (OpTo_makeMap rfl ?_)
  intro b2 _
  refine VC_sound tabOk 100 ?_
  intro bm _
  exact ⟨_, ⟨bm, b1, b2, rfl, rfl⟩, fun _ _ h => h.sel [0, 2, 1] rfl⟩

theorem rl_heap_new (p : Option Addr) (w0 : World) : Calls Tryz.prog 24 #[.pointer p] w0 fun e w' => ∃ v Rs', e = .returned v ∧ ((∃ bh, v = .pointer (some ⟨bh, 0, none⟩)) ∧ Rs' = []) ∧ Mod [heapOf w0] Rs' w' ∧ Oth w0 w' := by
  refine enterN (tab := tab) Tryz.func24 rfl Tryz.ntmps24 rfl (args := [_]) rfl (Mod.start w0) ?_
  refine VC_sound tabOk 100 ?_
  intro bh _
  exact ⟨_, ⟨⟨bh, rfl⟩, rfl⟩, fun _ _ h => h.sel [] rfl⟩

def tabs (n : Int) : Nat := (min (max n 1) 4).toNat
def relR (br : Nat) (A : Option Addr) (c : Nat) (ps : List (Option Addr)) : List Res := [.blk br 78 [.slice A ps.length c], own encP 1 79 A c ps]
set_option maxHeartbeats 1000000 in
theorem rel_new (p : Option Addr) (n : Int) (w0 : World) (hn : -9223372036854775808 ≤ n ∧ n ≤ 9223372036854775807) : Calls Tryz.prog 7 #[.pointer p, .int .i64 n] w0 fun e w' => ∃ v Rs', e = .returned v ∧ (∃ br A c ps, v = .pointer (some ⟨br, 0, none⟩) ∧ ps.length = tabs n ∧ (∀ q ∈ ps, q ≠ none) ∧ Rs' = relR br A c ps) ∧ Mod [heapOf w0] Rs' w' ∧ Oth w0 w' := by
  refine enterN (tab := tab) Tryz.func7 rfl Tryz.ntmps7 rfl (args := [_, _]) rfl (Mod.start w0) ?_
  refine VC_sound tabOk 100 ?_
  intro br _
  have hT : (if (4 : Int) < (if (1 : Int) > n then 1 else n) then 4 else (if (1 : Int) > n then 1 else n)) = (tabs n : Nat) := by
    unfold tabs
    repeat' split
    all_goals omega
  refine Go_res _ (fun w h => h.own_nil (enc := encP) (k := 1) (T := 79) none) ?_
  refine Go_loop (σ := Option Addr × Nat × List (Option Addr)) (fun s => [(0, .v (.pointer p)), (5, .v (.pointer (some ⟨br, 0, none⟩))), (10, .v (.int .i64 (tabs n : Nat))), (11, .v (.int .i64 s.2.2.length))]) (fun s => [own encP 1 79 s.1 s.2.1 s.2.2, .blk br 78 [.slice s.1 s.2.2.length s.2.1]])
    (fun s => s.2.2.length ≤ tabs n ∧ ∀ q ∈ s.2.2, q ≠ none) (fun s => tabs n - s.2.2.length) (none, 0, []) ⟨by simp, by simp⟩ ⟨rfl, rfl, congrArg (Value.int .i64) hT, rfl, trivial⟩ (fun _ h => h) ?_
  have h4 : tabs n ≤ 4 := by unfold tabs; omega
  rintro ⟨A, c, ps⟩ ⟨hl, hq⟩
  dsimp only at hl hq ⊢
  refine VC_sound tabOk 100 ?_
  refine ⟨fun hb => ?_, fun hb => ?_⟩
  · have hlt : ps.length < tabs n := by simp at hb; omega
    show Go _ _ _ _
    refine Go_any mixed [8, 11] [(0, false), (1, false), (2, false), (3, false), (5, false), (4, false), (6, true), (7, true), (8, true), (9, false), (10, false), (11, true)] rfl (by kernel_rfl) (by kernel_rfl) [.blk br 78 [.slice A ps.length c]] (FrmX [heapOf w0]) (FrmX.stable _) (fun w hm _ => ⟨Holds.of_idx [1] hm, FrmX.of_mod hm⟩) ?_
    refine VC_sound tabOk 100 ?_
    (repeat (first | refine Or.inl ⟨rfl, rfl, ?_⟩ | refine Or.inl ⟨rfl, ?_⟩ | refine Or.inr ?_))
    refine Go_aloneL rfl rfl (OpTo_ncall rfl rfl rfl rfl rfl (by kernel_rfl) (fun w hm _ => rl_heap_new p w) ?_)
    rintro _ _ ⟨⟨bh, rfl⟩, rfl⟩
    refine And.intro (fun w hm _ => ⟨Holds.of_idx [1] hm, FrmX.of_mod hm⟩) ?_
    refine VC_sound tabOk 100 ?_
    intro b7 _
    refine Go_aloneM rfl rfl rfl (OpTo_append tabOk encP_is (ys := [some ⟨bh, 0, none⟩]) (i := 1) rfl rfl rfl rfl rfl rfl rfl rfl rfl rfl rfl (fun w hm _ => hm.blk_rd (i := 0) rfl) (by simp; omega) (by simp; omega) (fun A2 c2 => ?_))
    refine VC_sound tabOk 100 ?_
    (repeat (first | refine Or.inl ⟨rfl, rfl, ?_⟩ | refine Or.inl ⟨rfl, ?_⟩ | refine Or.inr ?_))
    refine ⟨_, wrap_i64 (n := (ps.length : Int) + 1) (by omega) (by omega), ?_⟩
    have e : (ps ++ [some (⟨bh, 0, none⟩ : Addr)]).length = ps.length + 1 := by simp
    refine Go_fin (A2, c2, ps ++ [some ⟨bh, 0, none⟩]) ⟨by simp; omega, fun q hq2 => ?_⟩ (by simp; omega) ⟨rfl, rfl, rfl, ?_, trivial⟩ (fun _ h => ?_)
    · rcases List.mem_append.1 hq2 with h | h
      · exact hq q h
      · simp at h; subst h; simp
    · exact congrArg (Value.int .i64) (by simp)
    · have h := h.sel [1, 2] rfl
      dsimp only
      rw [e]
      exact h
  · have hlen : ps.length = tabs n := by simp at hb; omega
    exact ⟨_, ⟨br, A, c, ps, rfl, hlen, hq, rfl⟩, fun _ _ h => h.sel [1, 0] rfl⟩
end Go.Proofs.YtbhlkninmbafcaaGreat
