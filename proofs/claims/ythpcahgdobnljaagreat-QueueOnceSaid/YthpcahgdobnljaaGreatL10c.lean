/- The laws SpoolForget and SpoolOrder: what their runs come to. -/
import Derived.Test.YthpcahgdobnljaaGreatL10b
import Derived.Test.YthpcahgdobnljaaGreatSpoolB
import Derived.Test.YthpcahgdobnljaaGreatRxB
import Derived.KernelRfl
set_option maxRecDepth 100000
set_option autoImplicit false
set_option linter.unusedVariables false
set_option linter.unusedSimpArgs false
namespace Go.Proofs.YthpcahgdobnljaaGreat.Sp
open Go.RX Go Go.RowKit Go.ChangeShapes Go.WideShapes Go.ChangeAt


theorem tmod_nat {n : Int} (m : Int) (hm : 0 < m) (h0 : 0 ≤ n) : ∃ K : Nat, n.tmod m = K ∧ (K : Int) < m := by
  have h1 := Int.tmod_nonneg m h0
  have h2 := Int.tmod_lt_of_pos n hm
  exact ⟨(n.tmod m).toNat, by omega, by omega⟩

/-- Three tables. -/
abbrev Tbs := Tb × Tb × Tb
abbrev spT (bs : Nat) (T : Tbs) (cur : Nat) : List Res := spR bs T.1 T.2.1 T.2.2 cur
def set3 (T : Tbs) (k : Nat) (t : Tb) : Tbs := match k with
  | 0 => (t, T.2.1, T.2.2)
  | 1 => (T.1, t, T.2.2)
  | _ => (T.1, T.2.1, t)
abbrev get3 (T : Tbs) (k : Nat) : Tb := pick3 T.1 T.2.1 T.2.2 k
theorem spSet_eq (bs : Nat) (T : Tbs) (cur k : Nat) (t : Tb) : spSet bs T.1 T.2.1 T.2.2 cur k t = spT bs (set3 T k t) cur := by
  match k with
  | 0 => rfl
  | 1 => rfl
  | k + 2 => rfl
theorem get_set3 (T : Tbs) (k j : Nat) (t : Tb) (hk : k < 3) (hj : j < 3) : get3 (set3 T k t) j = if j = k then t else get3 T j := by
  have hk' : k = 0 ∨ k = 1 ∨ k = 2 := by omega
  have hj' : j = 0 ∨ j = 1 ∨ j = 2 := by omega
  rcases hk' with rfl | rfl | rfl <;> rcases hj' with rfl | rfl | rfl <;> rfl
def sum3 (f : Tb → Nat) (T : Tbs) : Nat := f T.1 + f T.2.1 + f T.2.2
theorem sum_set3 (f : Tb → Nat) (T : Tbs) (k : Nat) (t : Tb) (d : Nat) (hk : k < 3) (h : f t = f (get3 T k) + d) : sum3 f (set3 T k t) = sum3 f T + d := by
  have hk' : k = 0 ∨ k = 1 ∨ k = 2 := by omega
  rcases hk' with rfl | rfl | rfl <;> simp only [sum3, set3, get3, pick3] at * <;> omega
abbrev len3 : Tbs → Nat := sum3 fun t => t.xs.length
theorem len3_le (T : Tbs) (k : Nat) (hk : k < 3) : (get3 T k).xs.length ≤ len3 T := by
  have hk' : k = 0 ∨ k = 1 ∨ k = 2 := by omega
  rcases hk' with rfl | rfl | rfl <;> simp only [sum3, get3, pick3] <;> omega
theorem pre3_len (T : Tbs) : (pre3 T.1 T.2.1 T.2.2 3).length = len3 T := by simp [pre3, sum3]; omega
theorem tf_len (x : Int) (t : Tb) : (tf x t).xs.length + (t.xs.filter fun e => decide (e.tx = x)).length = t.xs.length := by
  simp only [tf]
  have h1 := List.length_eq_countP_add_countP (fun e : EventM => decide (e.tx = x)) (l := t.xs)
  rw [List.countP_eq_length_filter, List.countP_eq_length_filter] at h1
  have e : (t.xs.filter fun a => decide ¬decide (a.tx = x) = true) = t.xs.filter fun e => !decide (e.tx = x) := by
    congr 1; funext a; by_cases h : a.tx = x <;> simp [h]
  rw [e] at h1
  omega
theorem tf_tf (x : Int) (t : Tb) : tf x (tf x t) = tf x t := by simp [tf, List.filter_filter]

def evF (i tx : Int) : EventM := ⟨i, tx, ⟨#[]⟩, 0, 0, 0, 0, ⟨#[]⟩⟩
abbrev cntX (X : Int) : Tbs → Nat := sum3 fun t => (t.xs.filter fun e => decide (e.tx = X)).length

end Go.Proofs.YthpcahgdobnljaaGreat.Sp
