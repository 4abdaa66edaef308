/- What the reference's Of of layer 5 makes: a snapshot that is right, by numbers. -/
import Derived.Test.YthpcahgdobnljaaGreatSnap
set_option maxRecDepth 100000
set_option autoImplicit false
set_option linter.unusedVariables false
namespace Go.Proofs.YthpcahgdobnljaaGreat
open Go.RX Go Go.RowKit


def ofP (n : Nat) (z : Int) : Bool := decide (z.tmod 40 = (n : Int) + 1)
def ofUpto (op : List Int) : Nat → List Int
  | 0 => []
  | n + 1 => ofUpto op n ++ if op.any (ofP n) then [(n : Int) + 1] else []
def ofIn (op : List Int) (n i : Nat) : List Int := ofUpto op n ++ if (op.take i).any (ofP n) then [(n : Int) + 1] else []
theorem ofUpto_mem {op : List Int} : ∀ {n : Nat} {x : Int}, x ∈ ofUpto op n → 1 ≤ x ∧ x ≤ n
  | 0, x, h => by simp [ofUpto] at h
  | n + 1, x, h => by
    simp only [ofUpto, List.mem_append] at h
    rcases h with h | h
    · have := ofUpto_mem h; omega
    · split at h
      · simp at h; omega
      · simp at h
theorem ofUpto_len (op : List Int) : ∀ n, (ofUpto op n).length ≤ n
  | 0 => by simp [ofUpto]
  | n + 1 => by
    have := ofUpto_len op n
    simp only [ofUpto, List.length_append]
    split <;> simp <;> omega
theorem ofIn_len (op : List Int) (n i : Nat) : (ofIn op n i).length ≤ n + 1 := by
  have := ofUpto_len op n
  simp only [ofIn, List.length_append]
  split <;> simp <;> omega
theorem ofIn_has (op : List Int) (n i : Nat) : (ofIn op n i).contains ((n : Int) + 1) = (op.take i).any (ofP n) := by
  have h0 : ((n : Int) + 1) ∉ ofUpto op n := fun h => by have := ofUpto_mem h; omega
  rw [Bool.eq_iff_iff]
  simp only [ofIn, List.contains_iff_mem, List.mem_append]
  split
  · rename_i h; simp [h]
  · rename_i h; simp [h, h0]
theorem ofIn_succ (op : List Int) (n i : Nat) (h : i < op.length) : ofIn op n (i + 1) = if ofP n op[i] && !(ofIn op n i).contains ((n : Int) + 1) then ofIn op n i ++ [(n : Int) + 1] else ofIn op n i := by
  rw [ofIn_has]
  simp only [ofIn, List.take_succ_eq_append_getElem h, List.any_append, List.any_cons, List.any_nil, Bool.or_false]
  cases (op.take i).any (ofP n) <;> cases ofP n op[i] <;> simp
theorem ofIn_zero (op : List Int) (n : Nat) : ofIn op n 0 = ofUpto op n := by simp [ofIn]
theorem ofIn_all (op : List Int) (n i : Nat) (h : op.length ≤ i) : ofIn op n i = ofUpto op (n + 1) := by simp [ofIn, ofUpto, List.take_of_length_le h]

def ofQ (K : Nat) (op : List Int) : Value → List Res → Prop := fun v Rs => ∃ A c, v = snV (1 + (K : Int)) A (ofUpto op K).length c ∧ Rs = [own (encI .i64) 1 2 A c (ofUpto op K)]

end Go.Proofs.YthpcahgdobnljaaGreat
