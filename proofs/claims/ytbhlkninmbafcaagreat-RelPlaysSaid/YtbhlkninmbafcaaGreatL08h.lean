/- Both answer alike: plain laws for the law RelPlays. -/
import Derived.Test.YtbhlkninmbafcaaGreatR08b
import Derived.Test.YtbhlkninmbafcaaGreatTxnL
import Derived.Test.YtbhlkninmbafcaaGreatL08e
set_option maxRecDepth 100000
set_option autoImplicit false
set_option linter.unusedVariables false
set_option linter.unusedSimpArgs false
namespace Go.Proofs.YtbhlkninmbafcaaGreat
open Go.RX Go Go.RowKit

theorem posF_rise {k : Int} : ∀ {R : List Int} {n : Int}, (posF k R n).Pairwise (fun a b : Int => a < b)
  | [], _ => List.Pairwise.nil
  | y :: r, n => by
    have ih := posF_rise (k := k) (R := r) (n := n + 1)
    simp only [posF]
    split
    · rw [List.singleton_append, List.pairwise_cons]
      refine ⟨fun z hz => ?_, ih⟩
      have := (posF_mem.1 hz).1; omega
    · exact ih
theorem same_int {xs ys : List Int} (h : xs.Perm ys) : SameBy (fun x => x) xs ys := fun q => by
  have hp := h.filter fun x => decide (x = q)
  have e : ∀ zs : List Int, (zs.filter fun x => decide (x = q)) = List.replicate (zs.filter fun x => decide (x = q)).length q := fun zs =>
    List.eq_replicate_iff.2 ⟨rfl, fun b hb => by simpa using (List.mem_filter.1 hb).2⟩
  rw [e xs, e ys, hp.length_eq]
theorem open_is {ks : List Int} {R : List Int} (hp : ks.Perm (pos 1 R)) (hr : Rise ltI (fun x => x) ks) : ks = pos 1 R :=
  Rise.unique ordI hr (List.Pairwise.imp (fun h => by simp [ltI]; omega) posF_rise) (same_int hp)

theorem Alike.cons {s : TxS} {R : List Int} (h : Alike s R) : stE s = rState R := funext h.state
def encW : VwM → List Value := VwM.cs
theorem encW_is : IsEnc encW 3 := ⟨fun _ => rfl, fun x v hv => by simp [encW, VwM.cs] at hv; rcases hv with rfl | rfl | rfl <;> rfl, by decide⟩

theorem first_same {α : Type} {p : α → Bool} {l : List α} {i j : Nat} {x y : α} (hx : l[i]? = some x) (hy : l[j]? = some y) (px : p x = true) (py : p y = true) (hi : ∀ z ∈ l.take i, p z = false) (hj : ∀ z ∈ l.take j, p z = false) : i = j := by
  have key : ∀ {i j : Nat} {x : α}, l[i]? = some x → p x = true → (∀ z ∈ l.take j, p z = false) → ¬ i < j := fun {i j x} hx px hj hij => by
    have : x ∈ l.take j := by
      obtain ⟨h1, rfl⟩ := List.getElem?_eq_some_iff.1 hx
      exact List.mem_iff_getElem.2 ⟨i, by simp; omega, by simp⟩
    have := hj x this
    rw [px] at this; cases this
  have h1 := key hx px hj
  have h2 := key hy py hi
  omega
theorem killR_det {st : Int → Int} {v : VwM} {vs vs1 vs2 : List VerM} {key e1 e2 : Int} (h1 : killR st v vs key e1 vs1) (h2 : killR st v vs key e2 vs2) : e1 = e2 ∧ vs1 = vs2 := by
  rcases h1 with ⟨a1, rfl, rfl⟩ | ⟨a1, a2, rfl, rfl⟩ | ⟨a1, i, x, hx, hf, hne, a4⟩ <;> rcases h2 with ⟨b1, rfl, rfl⟩ | ⟨b1, b2, rfl, rfl⟩ | ⟨b1, j, y, hy, hg, hnf, b4⟩
  · exact ⟨rfl, rfl⟩
  · exact absurd b1 a1
  · exact absurd b1 a1
  · exact absurd a1 b1
  · exact ⟨rfl, rfl⟩
  · have := a2 y (List.mem_of_getElem? hy); rw [hg] at this; cases this
  · exact absurd a1 b1
  · have := b2 x (List.mem_of_getElem? hx); rw [hf] at this; cases this
  · obtain rfl := first_same hx hy hf hg hne hnf
    obtain rfl : x = y := by rw [hx] at hy; exact Option.some.inj hy
    rcases a4 with ⟨c1, rfl, rfl⟩ | ⟨c1, rfl, rfl⟩ <;> rcases b4 with ⟨d1, rfl, rfl⟩ | ⟨d1, rfl, rfl⟩
    · exact ⟨rfl, rfl⟩
    · rw [c1] at d1; cases d1
    · rw [c1] at d1; cases d1
    · exact ⟨rfl, rfl⟩
theorem runR_det {st : Int → Int} {v : VwM} {vs vs1 vs2 : List VerM} {k e1 e2 : Int} {r : RowM} {ys1 ys2 : List RowM} (h1 : runR st v vs k r e1 ys1 vs1) (h2 : runR st v vs k r e2 ys2 vs2) : e1 = e2 ∧ ys1 = ys2 ∧ vs1 = vs2 := by
  rcases h1 with ⟨a0, a1, a2, a3⟩ | ⟨a0, a1, u1, a2, a3⟩ | ⟨a0, a1, a2⟩ | ⟨a0, a1⟩ | ⟨a0, a1, a2⟩ | ⟨a0, a1, a2, a3⟩ <;> rcases h2 with ⟨b0, b1, b2, b3⟩ | ⟨b0, b1, u2, b2, b3⟩ | ⟨b0, b1, b2⟩ | ⟨b0, b1⟩ | ⟨b0, b1, b2⟩ | ⟨b0, b1, b2, b3⟩
  all_goals first | (exact absurd (a0.symm.trans b0) (by decide)) | skip
  · exact ⟨a1.trans b1.symm, a2.trans b2.symm, a3.trans b3.symm⟩
  · obtain ⟨rfl, rfl⟩ := killR_det a2 b2
    exact ⟨rfl, a1.trans b1.symm, a3.trans b3.symm⟩
  · obtain ⟨rfl, rfl⟩ := killR_det a2 b2
    exact ⟨rfl, a1.trans b1.symm, rfl⟩
  · rcases a1 with ⟨c0, c1, c2, c3⟩ | ⟨c0, c1, c2, c3, c4⟩ | ⟨c0, c1, c2, c3, c4⟩ <;> rcases b1 with ⟨d0, d1, d2, d3⟩ | ⟨d0, d1, d2, d3, d4⟩ | ⟨d0, d1, d2, d3, d4⟩
    all_goals first | (exact absurd d0 c0) | (exact absurd c0 d0) | (exact absurd (c1.symm.trans d1) (by decide)) | skip
    · exact ⟨c1.trans d1.symm, c2.trans d2.symm, c3.trans d3.symm⟩
    · exact ⟨c2.trans d2.symm, c3.trans d3.symm, c4.trans d4.symm⟩
    · exact ⟨c2.trans d2.symm, c3.unique d3, c4.trans d4.symm⟩
  · rcases a2 with ⟨c0, c1, c2⟩ | ⟨x, c0, c1, c2⟩ <;> rcases b2 with ⟨d0, d1, d2⟩ | ⟨y, d0, d1, d2⟩
    · exact ⟨c1.trans d1.symm, c2.trans d2.symm, a1.trans b1.symm⟩
    · rw [c0] at d0; cases d0
    · rw [c0] at d0; cases d0
    · rw [c0] at d0; cases d0
      exact ⟨c1.trans d1.symm, c2.trans d2.symm, a1.trans b1.symm⟩
  · exact ⟨a2.trans b2.symm, a3.unique b3, a1.trans b1.symm⟩
/-- Two stores of the same versions. -/
structure SameH (n : Nat) (hs hq : List Hp) : Prop where
  vs : hs.map Hp.vs = hq.map Hp.vs
  len : 0 < hs.length ∧ hs.length ≤ 4
  ub : ∀ H ∈ hs, H.vs.length ≤ n
theorem SameH.len2 {n : Nat} {hs hq : List Hp} (h : SameH n hs hq) : hq.length = hs.length := by
  have := congrArg List.length h.vs
  simpa using this.symm
theorem SameH.ub2 {n : Nat} {hs hq : List Hp} (h : SameH n hs hq) : ∀ H ∈ hq, H.vs.length ≤ n := fun H hH => by
  have : H.vs ∈ hs.map Hp.vs := by rw [h.vs]; exact List.mem_map.2 ⟨H, hH, rfl⟩
  obtain ⟨H', hH', e⟩ := List.mem_map.1 this
  rw [← e]; exact h.ub H' hH'
theorem SameH.up {n : Nat} {hs hq : List Hp} (h : SameH n hs hq) : SameH (n + 1) hs hq := ⟨h.vs, h.len, fun H hH => by have := h.ub H hH; omega⟩
theorem right_len {k t : Int} {n : Nat} {hs hq : List Hp} (hk : 0 ≤ k) (hl : hq.length = hs.length) : rightP k (psH hs) t n = rightP k (psH hq) t n := by
  have h1 := right_not (t := t) (n := n) (hs := hs) hk
  have h2 := right_not (t := t) (n := n) (hs := hq) hk
  rw [hl] at h2
  have := h1.trans h2.symm
  simpa using this
theorem anyR_same {n : Nat} {st : Int → Int} {v : VwM} {hs hq hs1 hq1 : List Hp} (hsame : SameH n hs hq) {k t : Int} (hk : 0 ≤ k) {r : RowM} {e1 e2 : Int} {ys1 ys2 : List RowM} (h1 : anyR st v hs k t r e1 ys1 hs1) (h2 : anyR st v hq k t r e2 ys2 hq1) :
    e1 = e2 ∧ ys1 = ys2 ∧ SameH (n + 1) hs1 hq1 ∧ psH hs1 = psH hs ∧ psH hq1 = psH hq := by
  have hr := right_len (t := t) (n := r.text.size) hk hsame.len2
  rcases h1 with ⟨a0, T, H, A1, c1, vs1, rfl, hT, hq1', rfl⟩ | ⟨a0, rfl, rfl, rfl⟩ <;> rcases h2 with ⟨b0, T2, H2, A2, c2, vs2, ht, hT2, hq2', rfl⟩ | ⟨b0, rfl, rfl, rfl⟩
  · obtain rfl : T = T2 := by omega
    have hv : H.vs = H2.vs := by
      have h3 := congrArg (fun l : List (List VerM) => l[T]?) hsame.vs
      simp only [List.getElem?_map, hT, hT2, Option.map_some] at h3
      exact Option.some.inj h3
    rw [← hv] at hq2'
    obtain ⟨rfl, rfl, rfl⟩ := runR_det hq1' hq2'
    have hlen := run_len hq1'
    refine ⟨rfl, rfl, ⟨?_, by rw [List.length_set]; exact hsame.len, fun G hG => ?_⟩, psH_set hT _ _ _, psH_set hT2 _ _ _⟩
    · rw [List.map_set, List.map_set, hsame.vs]
    · rcases List.mem_or_eq_of_mem_set hG with hG | rfl
      · have := hsame.ub G hG; omega
      · have := hsame.ub H (List.mem_of_getElem? hT); dsimp only; omega
  · rw [hr, b0] at a0; cases a0
  · rw [hr, b0] at a0; cases a0
  · exact ⟨rfl, rfl, hsame.up, rfl, rfl⟩
end Go.Proofs.YtbhlkninmbafcaaGreat
