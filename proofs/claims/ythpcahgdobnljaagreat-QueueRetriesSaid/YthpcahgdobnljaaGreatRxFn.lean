/- RX, part 13: what a function value answers; the first one of which something holds. -/
import Derived.Test.YthpcahgdobnljaaGreatRxOps
set_option autoImplicit false
set_option linter.unusedVariables false
set_option linter.unusedSimpArgs false
namespace Go.RX
open Go Go.RowKit

/-- What a function value answers of some values, in every world that is behind 'w0'. -/
def Answers {α : Type} (P : Program) (w0 : World) (f : FuncId) (first cap : Array Value) (mk : α → Value) (p : α → Bool) (xs : List α) : Prop :=
  ∀ x ∈ xs, ∀ w, BelowD w0.heap.size w0 w → Calls P f (first.toList ++ [mk x] ++ cap.toList).toArray w fun e w' => e = .returned (.bool (p x)) ∧ BelowD w.heap.size w w'

/-- The same, as long as the frame's memory stands. -/
def AnswersM {α : Type} (P : Program) (hfs : List PH) (f : FuncId) (first cap : Array Value) (mk : α → Value) (p : α → Bool) (xs : List α) : Prop :=
  ∀ x ∈ xs, ∀ Rs w, Mod hfs Rs w → Calls P f (first.toList ++ [mk x] ++ cap.toList).toArray w fun e w' => e = .returned (.bool (p x)) ∧ BelowD w.heap.size w w'

theorem AnswersM.answers {α : Type} {P : Program} {hfs : List PH} {f : FuncId} {first cap : Array Value} {mk : α → Value} {p : α → Bool} {xs : List α} (h : AnswersM P hfs f first cap mk p xs) {Rs : List Res} {w0 : World} (hm : Mod hfs Rs w0) : Answers P w0 f first cap mk p xs :=
  fun x hx w hb => h x hx Rs w (hm.keep fun n hn => hb.block n hn)

theorem Answers.below {α : Type} {P : Program} {w0 w : World} {f : FuncId} {first cap : Array Value} {mk : α → Value} {p : α → Bool} {xs : List α} (h : Answers P w0 f first cap mk p xs) (hb : BelowD w0.heap.size w0 w) : Answers P w f first cap mk p xs :=
  fun x hx w2 h2 => h x hx w2 (hb.trans (h2.mono hb.size))

/-- The place of the first one; -1: of none. -/
def idxF {α : Type} (p : α → Bool) : List α → Int
  | [] => -1
  | z :: r => if p z = true then 0 else if idxF p r = -1 then -1 else idxF p r + 1

theorem idxF_spec {α : Type} (p : α → Bool) : ∀ (zs : List α), (idxF p zs = -1 ∧ ∀ z ∈ zs, p z = false) ∨ ∃ (i : Nat) (h : i < zs.length), idxF p zs = i ∧ p zs[i] = true ∧ ∀ z ∈ zs.take i, p z = false
  | [] => .inl ⟨rfl, by simp⟩
  | z :: r => by
    cases h : p z with
    | true => exact .inr ⟨0, by simp, by simp [idxF, h], by simpa using h, by simp⟩
    | false =>
      rcases idxF_spec p r with ⟨h1, h2⟩ | ⟨i, hi, h1, h2, h3⟩
      · exact .inl ⟨by simp [idxF, h, h1], by simpa [h] using h2⟩
      · refine .inr ⟨i + 1, by simpa using hi, ?_, by simpa using h2, ?_⟩
        · simp only [idxF, h, h1]
          rw [if_neg (by simp), if_neg (by omega)]; omega
        · simpa [h] using h3

theorem idxF_at {α : Type} (p : α → Bool) (zs : List α) (i : Nat) (h : i < zs.length) (e : p zs[i] = true) (hne : ∀ j (h : j < zs.length), j < i → p zs[j] = false) : idxF p zs = i := by
  rcases idxF_spec p zs with ⟨_, h2⟩ | ⟨k, hk, h1, h2, h3⟩
  · rw [h2 _ (List.getElem_mem h)] at e; cases e
  · rw [h1]
    rcases Nat.lt_trichotomy k i with hlt | rfl | hlt
    · rw [hne k hk hlt] at h2; cases h2
    · rfl
    · have := h3 zs[i] (List.mem_take_iff_getElem.2 ⟨i, by omega, rfl⟩)
      rw [this] at e; cases e
theorem idxF_none {α : Type} (p : α → Bool) (zs : List α) (hne : ∀ j (h : j < zs.length), p zs[j] = false) : idxF p zs = -1 := by
  rcases idxF_spec p zs with ⟨h1, _⟩ | ⟨k, hk, h1, h2, h3⟩
  · exact h1
  · rw [hne k hk] at h2; cases h2
theorem idxF_any {α : Type} (p : α → Bool) (zs : List α) : decide (0 ≤ idxF p zs) = zs.any p := by
  rcases idxF_spec p zs with ⟨h1, h2⟩ | ⟨k, hk, h1, h2, h3⟩
  · rw [h1]
    symm
    simp only [show decide ((0 : Int) ≤ -1) = false from rfl, List.any_eq_false]
    intro z hz; simp [h2 z hz]
  · rw [h1]
    symm
    rw [decide_eq_true (by omega)]
    exact List.any_eq_true.2 ⟨zs[k], List.getElem_mem hk, h2⟩

/-! ### one by one let go -/
/-- A row in the midst of it: 'j' are looked at; those that stay stand first. -/
structure Sift {α : Type} (q : α → Bool) (xs ys : List α) (j : Nat) : Prop where
  len : ys.length = xs.length
  le : j ≤ xs.length
  front : ys.take ((xs.take j).filter q).length = (xs.take j).filter q
  back : ys.drop j = xs.drop j

theorem filter_take_le {α : Type} (q : α → Bool) (xs : List α) (j : Nat) : ((xs.take j).filter q).length ≤ j := Nat.le_trans (List.length_filter_le _ _) (by simp; omega)

theorem Sift.at_ {α : Type} {q : α → Bool} {xs ys : List α} {j : Nat} (h : Sift q xs ys j) (hj : j < xs.length) : ys[j]? = some xs[j] := by
  have e : (ys.drop j)[0]? = (xs.drop j)[0]? := by rw [h.back]
  simpa [hj] using e

theorem Sift.start {α : Type} {p : α → Bool} {xs : List α} {i : Nat} (hi : i < xs.length) (hp : p xs[i] = true) (hne : ∀ z ∈ xs.take i, p z = false) : Sift (fun x => !p x) xs xs (i + 1) ∧ (xs.take (i + 1)).filter (fun x => !p x) = xs.take i := by
  have e : (xs.take (i + 1)).filter (fun x => !p x) = xs.take i := by
    rw [List.take_succ_eq_append_getElem hi, List.filter_append, List.filter_eq_self.2 fun a ha => by simp [hne a ha]]
    simp [hp]
  exact ⟨⟨rfl, hi, by rw [e]; simp [Nat.min_eq_left (Nat.le_of_lt hi)], rfl⟩, e⟩

theorem Sift.skip {α : Type} {q : α → Bool} {xs ys : List α} {j : Nat} (h : Sift q xs ys j) (hj : j < xs.length) (hq : q xs[j] = false) : Sift q xs ys (j + 1) ∧ (xs.take (j + 1)).filter q = (xs.take j).filter q := by
  have e : (xs.take (j + 1)).filter q = (xs.take j).filter q := by
    rw [List.take_succ_eq_append_getElem hj, List.filter_append]; simp [hq]
  refine ⟨⟨h.len, hj, by rw [e]; exact h.front, ?_⟩, e⟩
  have := congrArg (List.drop 1) h.back
  simpa [List.drop_drop, Nat.add_comm] using this

theorem Sift.keep {α : Type} {q : α → Bool} {xs ys : List α} {j : Nat} (h : Sift q xs ys j) (hj : j < xs.length) (hq : q xs[j] = true) : Sift q xs (ys.set ((xs.take j).filter q).length xs[j]) (j + 1) ∧ (xs.take (j + 1)).filter q = (xs.take j).filter q ++ [xs[j]] := by
  have e : (xs.take (j + 1)).filter q = (xs.take j).filter q ++ [xs[j]] := by
    rw [List.take_succ_eq_append_getElem hj, List.filter_append]; simp [hq]
  have hle := filter_take_le q xs j
  refine ⟨⟨by simpa using h.len, hj, ?_, ?_⟩, e⟩
  · rw [e, List.length_append]
    have hl : ((xs.take j).filter q).length < ys.length := by rw [h.len]; omega
    simp only [List.length_cons, List.length_nil, Nat.zero_add]
    rw [List.take_succ_eq_append_getElem (by simpa using hl)]
    simp only [List.getElem_set_self]
    rw [List.take_set_of_le (Nat.le_refl _), h.front]
  · rw [List.drop_set_of_lt (by omega)]
    have := congrArg (List.drop 1) h.back
    simpa [List.drop_drop, Nat.add_comm] using this

theorem Sift.done {α : Type} {q : α → Bool} {xs ys : List α} {j : Nat} (h : Sift q xs ys j) (hj : ¬ j < xs.length) : ys.take (xs.filter q).length = xs.filter q ∧ (xs.take j).filter q = xs.filter q := by
  have e : xs.take j = xs := List.take_of_length_le (by omega)
  have := h.front
  rw [e] at this
  exact ⟨this, by rw [e]⟩

theorem find_none {α : Type} {p : α → Bool} {zs : List α} (h : ∀ z ∈ zs, p z = false) : zs.find? p = none := by
  rw [List.find?_eq_none]; intro x hx; simp [h x hx]
theorem find_of {α : Type} {p : α → Bool} : ∀ {zs : List α} {i : Nat} (hi : i < zs.length), p zs[i] = true → (∀ z ∈ zs.take i, p z = false) → zs.find? p = some zs[i]
  | z :: r, 0, _, h, _ => by simp at h; simp [h]
  | z :: r, i + 1, hi, h, hne => by
    have h0 : p z = false := hne z (by simp)
    have := find_of (zs := r) (i := i) (by simpa using hi) (by simpa using h) (fun y hy => hne y (by simp [hy]))
    simp [h0, this]
theorem blk_below {w w2 : World} (hb : BelowD w.heap.size w w2) {b : Nat} {o : Obj} (h : w.heap[b]? = some o) : w2.heap[b]? = some o :=
  (hb.block b (Array.getElem?_eq_some_iff.1 h).1).trans h

end Go.RX
