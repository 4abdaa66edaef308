/- Snapshots that are right: what they see, and when one covers another one; no program. -/
import Derived.Test.YthpcahgdobnljaaGreatOf
set_option maxRecDepth 100000
set_option autoImplicit false
set_option linter.unusedVariables false
namespace Go.Proofs.YthpcahgdobnljaaGreat
open Go.RX Go Go.RowKit

structure SnOk (mx : Int) (op : List Int) : Prop where
  pos : 1 ≤ mx
  asc : op.Pairwise (· < ·)
  in_ : ∀ x ∈ op, 1 ≤ x ∧ x < mx

theorem rightFrom_of (mx : Int) : ∀ (op : List Int) (last : Int), op.Pairwise (· < ·) → (∀ x ∈ op, last < x ∧ x < mx) → rightFrom mx last op = true
  | [], _, _, _ => rfl
  | x :: r, last, h1, h2 => by
    have h3 := h2 x (by simp)
    simp only [rightFrom]
    rw [if_neg (by omega), if_neg (by omega)]
    exact rightFrom_of mx r x (List.pairwise_cons.1 h1).2 fun y hy => ⟨(List.pairwise_cons.1 h1).1 y hy, (h2 y (by simp [hy])).2⟩

theorem SnOk.right {mx : Int} {op : List Int} (h : SnOk mx op) : snRight mx op = true := by
  simp only [snRight, Bool.and_eq_true, decide_eq_true_eq]
  exact ⟨rightFrom_of mx op 0 h.asc fun x hx => ⟨by have := h.in_ x hx; omega, (h.in_ x hx).2⟩, h.pos⟩

theorem ofUpto_asc (op : List Int) : ∀ n, (ofUpto op n).Pairwise (· < ·)
  | 0 => by simp [ofUpto]
  | n + 1 => by
    simp only [ofUpto]
    refine List.pairwise_append.2 ⟨ofUpto_asc op n, by split <;> simp, fun a ha b hb => ?_⟩
    have := ofUpto_mem ha
    split at hb
    · simp at hb; omega
    · simp at hb

theorem snOk_of (op : List Int) (K : Nat) : SnOk (1 + (K : Int)) (ofUpto op K) :=
  ⟨by omega, ofUpto_asc op K, fun x hx => by have := ofUpto_mem hx; omega⟩

theorem snSees_iff {mx : Int} {op : List Int} {x : Int} : snSees mx op x = true ↔ 1 ≤ x ∧ x < mx ∧ x ∉ op := by
  simp [snSees]

theorem SnOk.least_le {mx : Int} {op : List Int} (h : SnOk mx op) : 1 ≤ snLeast mx op ∧ snLeast mx op ≤ mx := by
  cases op with
  | nil => exact ⟨h.pos, Int.le_refl _⟩
  | cons z r => have := h.in_ z (by simp); simp only [snLeast]; omega
theorem SnOk.least_sees {mx : Int} {op : List Int} (h : SnOk mx op) {x : Int} (h1 : 1 ≤ x) (h2 : x < snLeast mx op) : snSees mx op x = true := by
  have := h.least_le
  refine snSees_iff.2 ⟨h1, by omega, fun hm => ?_⟩
  cases op with
  | nil => simp at hm
  | cons z r =>
    simp only [snLeast] at h2
    rcases List.mem_cons.1 hm with rfl | hm
    · omega
    · have := (List.pairwise_cons.1 h.asc).1 x hm; omega
theorem SnOk.least_not {mx : Int} {op : List Int} (h : SnOk mx op) : snSees mx op (snLeast mx op) = false := by
  rw [Bool.eq_false_iff]
  intro hh
  have := snSees_iff.1 hh
  cases op with
  | nil => simp only [snLeast] at this; omega
  | cons z r => simp [snLeast] at this

/-! ### counting -/
theorem cnt_le (hi : Int) : ∀ (xs : List Int) (lo : Int), lo ≤ hi → xs.Pairwise (· < ·) → (∀ x ∈ xs, lo ≤ x ∧ x < hi) → (xs.length : Int) ≤ hi - lo
  | [], lo, h, _, _ => by simp; omega
  | z :: r, lo, h, hp, hx => by
    have hz := hx z (by simp)
    have := cnt_le hi r (z + 1) (by omega) (List.pairwise_cons.1 hp).2 fun x hm => ⟨by have := (List.pairwise_cons.1 hp).1 x hm; omega, (hx x (by simp [hm])).2⟩
    simp; omega
theorem cnt_full (hi : Int) : ∀ (xs : List Int) (lo : Int), lo ≤ hi → xs.Pairwise (· < ·) → (∀ x ∈ xs, lo ≤ x ∧ x < hi) → ((xs.length : Int) = hi - lo ↔ ∀ x, lo ≤ x → x < hi → x ∈ xs)
  | [], lo, h, _, _ => by
    constructor
    · intro h1 x h2 h3; simp at h1; omega
    · intro h1
      by_cases e : lo < hi
      · have := h1 lo (Int.le_refl _) e; simp at this
      · simp; omega
  | z :: r, lo, h, hp, hx => by
    have hz := hx z (by simp)
    have hr : ∀ x ∈ r, z + 1 ≤ x ∧ x < hi := fun x hm => ⟨by have := (List.pairwise_cons.1 hp).1 x hm; omega, (hx x (by simp [hm])).2⟩
    have h1 := cnt_le hi r (z + 1) (by omega) (List.pairwise_cons.1 hp).2 hr
    have h2 := cnt_full hi r (z + 1) (by omega) (List.pairwise_cons.1 hp).2 hr
    constructor
    · intro he x hlo hhi
      simp at he
      by_cases e : x = z
      · simp [e]
      · exact List.mem_cons_of_mem _ (h2.1 (by omega) x (by omega) hhi)
    · intro hall
      have hlo := hall lo (Int.le_refl _) (by omega)
      have ez : lo = z := by
        rcases List.mem_cons.1 hlo with e | hm
        · exact e
        · have := hr lo hm; omega
      have := h2.2 fun x h3 h4 => by
        rcases List.mem_cons.1 (hall x (by omega) h4) with e | hm
        · omega
        · exact hm
      simp; omega

theorem snCovers_iff {amx bmx : Int} {aop bop : List Int} (ha : SnOk amx aop) (hb : SnOk bmx bop) : snCovers amx aop bmx bop = true ↔ ∀ x, snSees bmx bop x = true → snSees amx aop x = true := by
  have hfilt : ∀ (_ : amx ≤ bmx), ((snHidden amx bop : Int) = bmx - amx ↔ ∀ x, amx ≤ x → x < bmx → x ∈ bop) := by
    intro hle
    have := cnt_full bmx (bop.filter fun x => decide (amx ≤ x)) amx hle (hb.asc.sublist List.filter_sublist) (fun x hx => by
      simp at hx; exact ⟨hx.2, (hb.in_ x hx.1).2⟩)
    rw [show (snHidden amx bop : Int) = ((bop.filter fun x => decide (amx ≤ x)).length : Int) from rfl, this]
    constructor
    · intro h x h1 h2
      have := h x h1 h2
      simp at this; exact this.1
    · intro h x h1 h2
      simp; exact ⟨h x h1 h2, h1⟩
  simp only [snCovers, Bool.and_eq_true, Bool.or_eq_true, Bool.not_eq_true', decide_eq_true_eq, List.any_eq_false]
  constructor
  · rintro ⟨h1, h2⟩ x hx
    have hs := snSees_iff.1 hx
    have hna : x ∉ aop := fun hm => absurd hx (h1 x hm)
    refine snSees_iff.2 ⟨hs.1, ?_, hna⟩
    rcases h2 with h2 | h2
    · omega
    · by_cases e : x < amx
      · exact e
      · exact absurd ((hfilt (by omega)).1 h2 x (by omega) hs.2.1) hs.2.2
  · intro h
    refine ⟨fun x hm hx => (snSees_iff.1 (h x hx)).2.2 hm, ?_⟩
    by_cases hle : bmx ≤ amx
    · exact .inl hle
    · refine .inr ((hfilt (by omega)).2 fun x h1 h2 => ?_)
      by_cases hm : x ∈ bop
      · exact hm
      · have := (snSees_iff.1 (h x (snSees_iff.2 ⟨by have := ha.pos; omega, h2, hm⟩))).2.1; omega
theorem snCovers_refl {mx : Int} {op : List Int} (h : SnOk mx op) : snCovers mx op mx op = true := (snCovers_iff h h).2 fun _ h => h
end Go.Proofs.YthpcahgdobnljaaGreat
