/- RX, part 18: orders; what an insertion sort keeps; that a sorted list of the same elements, alike in order where their keys are the same, is one alone. No program. -/
import Derived.Test.YthpcahgdobnljaaGreatRxSeq
set_option autoImplicit false
set_option linter.unusedVariables false
set_option linter.unusedSimpArgs false
namespace Go.RX
open Go Go.RowKit

theorem ex_byte {s : ByteArray} {n : Nat} {K : UInt8 → Prop} (hs : s.size = 256) (hn : n < 256) (h : ∀ b, K b) : ∃ b, s[n]? = some b ∧ K b :=
  ⟨s[n]'(by omega), getElem?_pos _ _ _, h _⟩

/-- A strict order of which two are alike only if they are one. -/
structure Ord {κ : Type} (lt : κ → κ → Bool) : Prop where
  irr : ∀ a, lt a a = false
  trans : ∀ a b c, lt a b = true → lt b c = true → lt a c = true
  tri : ∀ a b, lt a b = false → lt b a = false → a = b

theorem bytesLess_lt : ∀ (x y : List UInt8), Op.bytesLess x y = decide (x < y)
  | [], [] => by simp [Op.bytesLess]
  | a :: x, [] => by simp [Op.bytesLess]
  | [], b :: y => by simp [Op.bytesLess]
  | a :: x, b :: y => by
    simp only [Op.bytesLess, List.cons_lt_cons_iff, bytesLess_lt x y]
    by_cases h1 : a < b
    · simp [h1]
    · by_cases h2 : a = b
      · subst h2; simp
      · simp [h1, h2]

def ltI (a b : Int) : Bool := decide (a < b)
theorem ordI : Ord ltI := ⟨fun a => by simp [ltI], fun a b c => by simp [ltI]; omega, fun a b => by simp [ltI]; omega⟩

def ltS (a b : ByteArray) : Bool := Op.bytesLess a.toList b.toList
theorem toList_inj {a b : ByteArray} (h : a.toList = b.toList) : a = b := by
  rw [ByteArray.toList_eq, ByteArray.toList_eq] at h
  exact ByteArray.ext (Array.toList_inj.1 h)
theorem ordS : Ord ltS := by
  refine ⟨fun a => ?_, fun a b c h1 h2 => ?_, fun a b h1 h2 => toList_inj ?_⟩
  · simp only [ltS, bytesLess_lt, decide_eq_false_iff_not]
    exact List.lt_irrefl _
  · simp only [ltS, bytesLess_lt, decide_eq_true_eq] at *
    exact List.lt_trans h1 h2
  · simp only [ltS, bytesLess_lt, decide_eq_false_iff_not] at *
    exact List.le_antisymm (List.not_lt.1 h2) (List.not_lt.1 h1)

section
variable {κ α : Type} {lt : κ → κ → Bool}

theorem Ord.asym (o : Ord lt) {a b : κ} (h : lt a b = true) : lt b a = false := by
  cases hb : lt b a with
  | false => rfl
  | true => have := o.trans _ _ _ h hb; rw [o.irr] at this; cases this
theorem Ord.le_trans (o : Ord lt) {a b c : κ} (h1 : lt b a = false) (h2 : lt c b = false) : lt c a = false := by
  cases h : lt c a with
  | false => rfl
  | true =>
    cases hab : lt a b with
    | true => have := o.trans _ _ _ h hab; rw [this] at h2; cases h2
    | false => have e := o.tri _ _ hab h1; subst e; rw [h] at h2; cases h2

/-- Rising. -/
def Rise (lt : κ → κ → Bool) (key : α → κ) (xs : List α) : Prop := xs.Pairwise fun a b => lt (key b) (key a) = false

/-- The same elements; those of one key in the same order. -/
def SameBy [DecidableEq κ] (key : α → κ) (xs ys : List α) : Prop := ∀ k, (xs.filter fun x => decide (key x = k)) = ys.filter fun x => decide (key x = k)

theorem SameBy.refl [DecidableEq κ] (key : α → κ) (xs : List α) : SameBy key xs xs := fun _ => rfl
theorem SameBy.trans [DecidableEq κ] {key : α → κ} {xs ys zs : List α} (h : SameBy key xs ys) (h' : SameBy key ys zs) : SameBy key xs zs := fun k => (h k).trans (h' k)
theorem SameBy.symm [DecidableEq κ] {key : α → κ} {xs ys : List α} (h : SameBy key xs ys) : SameBy key ys xs := fun k => (h k).symm

theorem SameBy.mem [DecidableEq κ] {key : α → κ} {xs ys : List α} (h : SameBy key xs ys) (x : α) : x ∈ xs ↔ x ∈ ys := by
  have := h (key x)
  have h1 : x ∈ xs ↔ x ∈ xs.filter fun y => decide (key y = key x) := by simp
  have h2 : x ∈ ys ↔ x ∈ ys.filter fun y => decide (key y = key x) := by simp
  rw [h1, h2, this]

theorem SameBy.swap [DecidableEq κ] {key : α → κ} (pre post : List α) {a b : α} (hne : key a ≠ key b) : SameBy key (pre ++ a :: b :: post) (pre ++ b :: a :: post) := by
  intro k
  simp only [List.filter_append, List.filter_cons]
  by_cases ha : key a = k
  · have hb : key b ≠ k := fun e => hne (ha.trans e.symm)
    simp [ha, hb]
  · simp [ha]

/-- A sorted list of the same elements is one alone. -/
theorem Rise.unique [DecidableEq κ] (o : Ord lt) {key : α → κ} : ∀ {xs ys : List α}, Rise lt key xs → Rise lt key ys → SameBy key xs ys → xs = ys
  | [], ys, _, _, h => by
    cases ys with
    | nil => rfl
    | cons y r => have := (h.mem y).2 (by simp); simp at this
  | x :: xs, [], _, _, h => by have := (h.mem x).1 (by simp); simp at this
  | x :: xs, y :: ys, hx, hy, h => by
    have hx' := List.pairwise_cons.1 hx
    have hy' := List.pairwise_cons.1 hy
    have hk : key x = key y := by
      have m1 := (h.mem x).1 (by simp)
      have m2 := (h.mem y).2 (by simp)
      rcases List.mem_cons.1 m1 with e | m1
      · rw [e]
      rcases List.mem_cons.1 m2 with e | m2
      · rw [e]
      exact o.tri _ _ (hy'.1 x m1) (hx'.1 y m2)
    have he : x = y := by
      have := h (key x)
      simp only [List.filter_cons, decide_true, if_true, hk.symm] at this
      injection this
    subst he
    have : SameBy key xs ys := fun k => by
      have := h k
      simp only [List.filter_cons] at this
      split at this
      · injection this
      · exact this
    rw [Rise.unique o hx'.2 hy'.2 this]

/-! ### insertion -/
/-- In the midst of an insertion: the first 'i + 1' are in order but for the one at 'j', which may be less than those ahead of it. -/
structure Ins [DecidableEq κ] (lt : κ → κ → Bool) (key : α → κ) (xs ys : List α) (i j : Nat) : Prop where
  same : SameBy key xs ys
  len : ys.length = xs.length
  le : j ≤ i
  ilt : i < ys.length
  ord : ∀ a b (hb : b < ys.length) (hab : a < b), b ≤ i → b ≠ j → lt (key ys[b]) (key (ys[a]'(by omega))) = false

/-- The first 'i' are in order. -/
structure Upto [DecidableEq κ] (lt : κ → κ → Bool) (key : α → κ) (xs ys : List α) (i : Nat) : Prop where
  same : SameBy key xs ys
  len : ys.length = xs.length
  ord : ∀ a b (hb : b < ys.length) (hab : a < b), b < i → lt (key ys[b]) (key (ys[a]'(by omega))) = false

variable [DecidableEq κ] {key : α → κ} {xs ys : List α}

theorem Upto.start (xs : List α) : Upto lt key xs xs 1 := ⟨SameBy.refl _ _, rfl, fun a b _ hab h => by omega⟩
theorem Upto.ins {i : Nat} (h : Upto lt key xs ys i) (hi : i < ys.length) : Ins lt key xs ys i i := ⟨h.same, h.len, Nat.le_refl _, hi, fun a b hb hab h1 h2 => h.ord a b hb hab (by omega)⟩

theorem Ins.done (o : Ord lt) {i j : Nat} (h : Ins lt key xs ys i j) (hj : j = 0 ∨ ∃ (h0 : 0 < j) (h1 : j < ys.length), lt (key ys[j]) (key (ys[j - 1]'(by omega))) = false) : Upto lt key xs ys (i + 1) := by
  refine ⟨h.same, h.len, fun a b hb hab hbi => ?_⟩
  by_cases hbj : b = j
  · subst hbj
    rcases hj with hj | ⟨h0, h1, h2⟩
    · omega
    · by_cases haj : a = b - 1
      · subst haj; exact h2
      · exact o.le_trans (h.ord a (b - 1) (by omega) (by omega) (by omega) (by omega)) h2
  · exact h.ord a b hb hab (by omega) hbj

theorem swap_split {j : Nat} (h0 : 0 < j) (hj : j < ys.length) : ∃ pre post, ys = pre ++ ys[j - 1] :: ys[j] :: post ∧ (ys.set j ys[j - 1]).set (j - 1) ys[j] = pre ++ ys[j] :: ys[j - 1] :: post ∧ pre.length = j - 1 := by
  refine ⟨ys.take (j - 1), ys.drop (j + 1), ?_, ?_, by simp; omega⟩
  · have e1 : ys.drop (j - 1) = ys[j - 1] :: ys.drop (j - 1 + 1) := List.drop_eq_getElem_cons (by omega)
    have e2 : ys.drop j = ys[j] :: ys.drop (j + 1) := List.drop_eq_getElem_cons hj
    rw [show j - 1 + 1 = j from by omega, e2] at e1
    rw [← e1, List.take_append_drop]
  · apply List.ext_getElem?
    intro n
    simp only [List.getElem?_set, List.getElem?_append, List.length_take, List.length_set, List.getElem?_take]
    have hm : min (j - 1) ys.length = j - 1 := by omega
    rw [hm]
    by_cases h1 : n < j - 1
    · rw [if_neg (by omega), if_neg (by omega), if_pos h1, if_pos h1]
    · rw [if_neg h1]
      by_cases h2 : j - 1 = n
      · subst h2
        rw [if_pos rfl, if_pos (by omega)]
        simp
      · rw [if_neg h2]
        by_cases h3 : j = n
        · subst h3
          rw [if_pos rfl, if_pos hj, show j - (j - 1) = 1 from by omega]
          rfl
        · rw [if_neg h3, show n - (j - 1) = (n - (j + 1)) + 2 from by omega]
          simp only [List.getElem?_cons_succ, List.getElem?_drop]
          congr 1; omega

theorem Ins.swap (o : Ord lt) {i j : Nat} (h : Ins lt key xs ys i j) (h0 : 0 < j) (hj : j < ys.length) (hlt : lt (key ys[j]) (key ys[j - 1]) = true) : Ins lt key xs ((ys.set j ys[j - 1]).set (j - 1) ys[j]) i (j - 1) := by
  have hle := h.le
  have hl := h.ilt
  have hne : key ys[j - 1] ≠ key ys[j] := fun e => by rw [e, o.irr] at hlt; cases hlt
  obtain ⟨pre, post, e1, e2, e3⟩ := swap_split h0 hj
  refine ⟨h.same.trans ?_, by simp [h.len], by omega, by simp; omega, fun a b hb hab hbi hbj => ?_⟩
  · rw [e2]
    conv => lhs; rw [e1]
    exact SameBy.swap pre post hne
  · simp only [List.length_set] at hb
    simp only [List.getElem_set]
    have g : ∀ a b (hb : b < ys.length) (hab : a < b), b ≤ i → b ≠ j → lt (key ys[b]) (key (ys[a]'(by omega))) = false := h.ord
    by_cases b1 : j - 1 = b
    · omega
    rw [if_neg b1]
    by_cases b2 : j = b
    · subst b2
      rw [if_pos rfl]
      by_cases a1 : j - 1 = a
      · rw [if_pos a1]; exact o.asym hlt
      · rw [if_neg a1, if_neg (by omega)]
        exact g a (j - 1) (by omega) (by omega) (by omega) (by omega)
    · rw [if_neg b2]
      by_cases a1 : j - 1 = a
      · rw [if_pos a1]
        exact g j b hb (by omega) hbi (Ne.symm b2)
      · rw [if_neg a1]
        by_cases a2 : j = a
        · subst a2
          rw [if_pos rfl]
          exact g (j - 1) b hb (by omega) hbi (Ne.symm b2)
        · rw [if_neg a2]
          exact g a b hb hab hbi (Ne.symm b2)

theorem SameBy.perm {xs ys : List κ} (h : SameBy (fun x => x) xs ys) : xs.Perm ys := List.perm_iff_count.2 fun k => by
  have := congrArg List.length (h k)
  rw [List.count_eq_length_filter, List.count_eq_length_filter]
  have e : (fun x : κ => x == k) = fun x => decide (x = k) := by funext x; by_cases hx : x = k <;> simp [hx]
  rw [e]
  exact this

theorem Upto.rise {i : Nat} (h : Upto lt key xs ys i) (hi : ys.length ≤ i) : Rise lt key ys := by
  rw [Rise, List.pairwise_iff_getElem]
  intro a b ha hb hab
  exact h.ord a b hb hab (by omega)
end
end Go.RX
