/- Texts of layer 15 put together (L10, L10b, L10c). -/
import Derived.Test.YthpcahgdobnljaaGreatSpool
import Derived.Test.YthpcahgdobnljaaGreatSpoolB
import Derived.Test.YthpcahgdobnljaaGreatRxB
import Derived.KernelRfl
/- The laws of layer 10: what each run comes to. -/
set_option maxRecDepth 100000
set_option autoImplicit false
set_option linter.unusedVariables false
namespace Go.Proofs.YthpcahgdobnljaaGreat.Sp
open Go.RX Go Go.RowKit

def evE (id : Int) : EventM := ⟨id, 0, ⟨#[]⟩, 0, 0, 0, 0, ⟨#[]⟩⟩

end Go.Proofs.YthpcahgdobnljaaGreat.Sp

/- The law SpoolNil: what its run comes to. -/
set_option maxRecDepth 100000
set_option autoImplicit false
set_option linter.unusedVariables false
namespace Go.Proofs.YthpcahgdobnljaaGreat.Sp
open Go.RX Go Go.RowKit


abbrev noEv : Value := mkE ⟨0, 0, ⟨#[]⟩, 0, 0, 0, 0, ⟨#[]⟩⟩
theorem spool_cur_nil (w0 : World) : Calls Tryz.prog 78 #[.pointer none] w0 fun e w' => e = .returned (.int .i64 0) ∧ BelowD w0.heap.size w0 w' := by
  refine enterP (tab := tab) Tryz.func78 rfl Tryz.ntmps78 rfl (args := [_]) rfl ?_
  refine VC_sound tabOk 100 ?_
  rfl
theorem spool_len_nil (w0 : World) : Calls Tryz.prog 141 #[.pointer none] w0 fun e w' => e = .returned (.int .i64 0) ∧ BelowD w0.heap.size w0 w' := by
  refine enterP (tab := tab) Tryz.func141 rfl Tryz.ntmps141 rfl (args := [_]) rfl ?_
  refine VC_sound tabOk 100 ?_
  rfl
theorem spool_addTo_nil (i : Int) (w0 : World) : Calls Tryz.prog 140 #[.pointer none, .int .i64 i, noEv] w0 fun e w' => e = .returned (.int .i64 4) ∧ BelowD w0.heap.size w0 w' := by
  refine enterP (tab := tab) Tryz.func140 rfl Tryz.ntmps140 rfl (args := [_, _, _]) rfl ?_
  refine VC_sound tabOk 100 ?_
  intro b5 _
  rfl
theorem spool_add_nil (w0 : World) : Calls Tryz.prog 86 #[.pointer none, noEv] w0 fun e w' => e = .returned (.tuple #[]) ∧ BelowD w0.heap.size w0 w' := by
  refine enterP (tab := tab) Tryz.func86 rfl Tryz.ntmps86 rfl (args := [_, _]) rfl ?_
  refine VC_sound tabOk 100 ?_
  intro b3 _
  refine Go_res [.blk b3 65 [.int .i64 0, .int .i64 0, .string ⟨#[]⟩, .int .i64 0, .int .i64 0, .int .u8 0, .int .i64 0, .string ⟨#[]⟩]] (fun _ h => h) ?_
  show Go _ _ _ _
  refine Go_any mixed [4] [(0, false), (1, false), (3, false), (2, true), (4, true)] rfl (by kernel_rfl) (by kernel_rfl) [.blk b3 65 [.int .i64 0, .int .i64 0, .string ⟨#[]⟩, .int .i64 0, .int .i64 0, .int .u8 0, .int .i64 0, .string ⟨#[]⟩]] (FrmX [heapOf w0]) (FrmX.stable _) (fun w hm _ => ⟨Holds.of_mod hm (by simp), FrmX.of_mod hm⟩) ?_
  refine VC_sound tabOk 100 ?_
  (repeat (first | refine Or.inl ⟨rfl, rfl, ?_⟩ | refine Or.inl ⟨rfl, ?_⟩ | refine Or.inr ?_))
  refine Go_aloneS rfl rfl (fun w hm _ => ⟨Holds.of_mod hm (by simp), FrmX.of_mod hm⟩) (OpTo_pcall (v := .int .i64 0) rfl rfl rfl rfl rfl (by kernel_rfl) (fun w hm _ => spool_cur_nil w) ?_)
  refine And.intro rfl ?_
  refine VC_sound tabOk 100 ?_
  refine Go_aloneM rfl rfl rfl (OpTo_pcall (v := .int .i64 4) rfl rfl rfl rfl rfl (by kernel_rfl) (fun w hm _ => spool_addTo_nil 0 w) ?_)
  refine VC_sound tabOk 100 ?_
  rfl
theorem spool_rotate_nil (w0 : World) : Calls Tryz.prog 89 #[.pointer none, .bool true] w0 fun e w' => e = .returned (.tuple #[.int .u8 0, .int .i64 4]) ∧ BelowD w0.heap.size w0 w' := by
  refine enterP (tab := tab) Tryz.func89 rfl Tryz.ntmps89 rfl (args := [_, _]) rfl ?_
  refine VC_sound tabOk 100 ?_
  rfl
theorem spool_list_nil (i : Int) (w0 : World) : Calls Tryz.prog 168 #[.pointer none, .int .i64 i] w0 fun e w' => e = .returned (.slice none 0 0) ∧ BelowD w0.heap.size w0 w' := by
  refine enterP (tab := tab) Tryz.func168 rfl Tryz.ntmps168 rfl (args := [_, _]) rfl ?_
  refine VC_sound tabOk 100 ?_
  rfl
theorem spool_all_nil (w0 : World) : Calls Tryz.prog 33 #[.pointer none] w0 fun e w' => e = .returned (.slice none 0 0) ∧ BelowD w0.heap.size w0 w' := by
  refine enterP (tab := tab) Tryz.func33 rfl Tryz.ntmps33 rfl (args := [_]) rfl ?_
  refine VC_sound tabOk 100 ?_
  rfl
theorem spool_after_nil (w0 : World) : Calls Tryz.prog 144 #[.pointer none] w0 fun e w' => e = .returned (.int .i64 1) ∧ BelowD w0.heap.size w0 w' := by
  refine enterP (tab := tab) Tryz.func144 rfl Tryz.ntmps144 rfl (args := [_]) rfl ?_
  refine VC_sound tabOk 100 ?_
  refine Go_ops rfl (OpTo_pcall (v := .int .i64 0) rfl rfl rfl rfl rfl (by kernel_rfl) (fun w hm _ => spool_cur_nil w) ?_)
  refine VC_sound tabOk 100 ?_
  refine ⟨1, wrap_i64 (n := 1) (by omega) (by omega), ?_⟩
  refine ⟨by decide, 1, by decide, ?_⟩
  rfl
theorem spool_next_nil (w0 : World) : Calls Tryz.prog 108 #[.pointer none] w0 fun e w' => e = .returned (.slice none 0 0) ∧ BelowD w0.heap.size w0 w' := by
  refine enterP (tab := tab) Tryz.func108 rfl Tryz.ntmps108 rfl (args := [_]) rfl ?_
  refine VC_sound tabOk 100 ?_
  refine Go_ops rfl (OpTo_pcall (v := .int .i64 1) rfl rfl rfl rfl rfl (by kernel_rfl) (fun w hm _ => spool_after_nil w) ?_)
  refine VC_sound tabOk 100 ?_
  refine Go_ops rfl (OpTo_pcall (v := .slice none 0 0) rfl rfl rfl rfl rfl (by kernel_rfl) (fun w hm _ => spool_list_nil 1 w) ?_)
  refine VC_sound tabOk 100 ?_
  rfl
theorem spool_forget_nil (x : Int) (w0 : World) : Calls Tryz.prog 88 #[.pointer none, .int .i64 x] w0 fun e w' => e = .returned (.int .i64 0) ∧ BelowD w0.heap.size w0 w' := by
  refine enterP (tab := tab) Tryz.func88 rfl Tryz.ntmps88 rfl (args := [_, _]) rfl ?_
  refine VC_sound tabOk 100 ?_
  intro b3 _
  refine Go_ops rfl (OpTo_pcall (v := .int .i64 0) rfl rfl rfl rfl rfl (by kernel_rfl) (fun w hm _ => spool_len_nil w) ?_)
  refine VC_sound tabOk 100 ?_
  refine ⟨fun _ => ?_, fun h => by first | (simp at h; done) | (simp at h; omega) | (simp_all; done)⟩
  rfl

end Go.Proofs.YthpcahgdobnljaaGreat.Sp

/- The laws SpoolForget and SpoolOrder: what their runs come to. -/
set_option maxRecDepth 100000
set_option autoImplicit false
set_option linter.unusedVariables false
set_option linter.unusedSimpArgs false
namespace Go.Proofs.YthpcahgdobnljaaGreat.Sp
open Go.RX Go Go.RowKit Go.ChangeShapes Go.WideShapes Go.ChangeAt


theorem tmod_nat {n : Int} (m : Int) (hm : 0 < m) (h0 : 0 ≤ n) : ∃ K : Nat, n.tmod m = K ∧ (K : Int) < m := by
  have h1 := Int.tmod_nonneg m h0
  have h2 := Int.tmod_lt_of_pos n hm
  exact ⟨(n.tmod m).toNat, by omega, by omega⟩

/-- Three tables. -/
abbrev Tbs := Tb × Tb × Tb
abbrev spT (bs : Nat) (T : Tbs) (cur : Nat) : List Res := spR bs T.1 T.2.1 T.2.2 cur
def set3 (T : Tbs) (k : Nat) (t : Tb) : Tbs := match k with
  | 0 => (t, T.2.1, T.2.2)
  | 1 => (T.1, t, T.2.2)
  | _ => (T.1, T.2.1, t)
abbrev get3 (T : Tbs) (k : Nat) : Tb := pick3 T.1 T.2.1 T.2.2 k
theorem spSet_eq (bs : Nat) (T : Tbs) (cur k : Nat) (t : Tb) : spSet bs T.1 T.2.1 T.2.2 cur k t = spT bs (set3 T k t) cur := by
  match k with
  | 0 => rfl
  | 1 => rfl
  | k + 2 => rfl
theorem get_set3 (T : Tbs) (k j : Nat) (t : Tb) (hk : k < 3) (hj : j < 3) : get3 (set3 T k t) j = if j = k then t else get3 T j := by
  have hk' : k = 0 ∨ k = 1 ∨ k = 2 := by omega
  have hj' : j = 0 ∨ j = 1 ∨ j = 2 := by omega
  rcases hk' with rfl | rfl | rfl <;> rcases hj' with rfl | rfl | rfl <;> rfl
def sum3 (f : Tb → Nat) (T : Tbs) : Nat := f T.1 + f T.2.1 + f T.2.2
theorem sum_set3 (f : Tb → Nat) (T : Tbs) (k : Nat) (t : Tb) (d : Nat) (hk : k < 3) (h : f t = f (get3 T k) + d) : sum3 f (set3 T k t) = sum3 f T + d := by
  have hk' : k = 0 ∨ k = 1 ∨ k = 2 := by omega
  rcases hk' with rfl | rfl | rfl <;> simp only [sum3, set3, get3, pick3] at * <;> omega
abbrev len3 : Tbs → Nat := sum3 fun t => t.xs.length
theorem len3_le (T : Tbs) (k : Nat) (hk : k < 3) : (get3 T k).xs.length ≤ len3 T := by
  have hk' : k = 0 ∨ k = 1 ∨ k = 2 := by omega
  rcases hk' with rfl | rfl | rfl <;> simp only [sum3, get3, pick3] <;> omega
theorem pre3_len (T : Tbs) : (pre3 T.1 T.2.1 T.2.2 3).length = len3 T := by simp [pre3, sum3]; omega
theorem tf_len (x : Int) (t : Tb) : (tf x t).xs.length + (t.xs.filter fun e => decide (e.tx = x)).length = t.xs.length := by
  simp only [tf]
  have h1 := List.length_eq_countP_add_countP (fun e : EventM => decide (e.tx = x)) (l := t.xs)
  rw [List.countP_eq_length_filter, List.countP_eq_length_filter] at h1
  have e : (t.xs.filter fun a => decide ¬decide (a.tx = x) = true) = t.xs.filter fun e => !decide (e.tx = x) := by
    congr 1; funext a; by_cases h : a.tx = x <;> simp [h]
  rw [e] at h1
  omega
theorem tf_tf (x : Int) (t : Tb) : tf x (tf x t) = tf x t := by simp [tf, List.filter_filter]

def evF (i tx : Int) : EventM := ⟨i, tx, ⟨#[]⟩, 0, 0, 0, 0, ⟨#[]⟩⟩
abbrev cntX (X : Int) : Tbs → Nat := sum3 fun t => (t.xs.filter fun e => decide (e.tx = X)).length

end Go.Proofs.YthpcahgdobnljaaGreat.Sp
