/- Plain laws for the law QueueOnce: what is told. -/
import Derived.Test.YthpcahgdobnljaaGreatQp
set_option maxRecDepth 100000
set_option autoImplicit false
set_option linter.unusedVariables false
set_option linter.unusedSimpArgs false
namespace Go.Proofs.YthpcahgdobnljaaGreat
open Go.RX Go Go.RowKit

theorem srt_perm {xs ys : List EventM} (h : SameBy EventM.id xs ys ∧ Rise ltI EventM.id ys ∧ ys.length = xs.length) : ys.Perm xs := by
  classical
  refine List.perm_iff_count.2 fun a => ?_
  have e : ∀ zs : List EventM, zs.count a = (zs.filter fun x => decide (x.id = a.id)).count a := fun zs => (List.count_filter (by simp)).symm
  rw [e ys, e xs, h.1 a.id]
theorem told_step {P : List EventM} {c d : EventM → Bool} (h : ∀ e ∈ P, c e = true → d e = true) : ((P.filter c) ++ (P.filter fun e => d e && !c e)).Perm (P.filter d) := by
  have h1 := List.filter_append_perm c (P.filter d)
  rw [List.filter_filter, List.filter_filter] at h1
  refine List.Perm.trans (List.Perm.of_eq ?_) h1
  congr 1
  · refine List.filter_congr fun e he => ?_
    cases hc : c e with
    | false => rfl
    | true => simp [h e he hc]
  · refine List.filter_congr fun e he => ?_
    cases c e <;> cases d e <;> rfl
/-- What the tick of the number n sees. -/
def sawC (ts : List Tk.TickM) (n : Int) (e : EventM) : Bool := snSees (Tk.fdT (Tk.tkIs n) ts).mx (Tk.fdT (Tk.tkIs n) ts).op e.tx
theorem told_batch {S : QS} {x : Cu.CurV} {ys : List EventM} (hB : BatE S x ys) (hst : ∀ e ∈ P3 S.T, stE S.s e.tx = 2 ∧ e.owner = ⟨#[]⟩) :
    ys.Perm ((P3 S.T).filter fun e => sawC S.ts x.opn e && !sawC S.ts x.last e) := by
  obtain ⟨zs, A1, c1, A2, c2, hz, hy⟩ := hB
  refine (srt_perm hy).trans (((srt_perm hz).filter _).trans (List.Perm.of_eq (List.filter_congr fun e he => ?_)))
  obtain ⟨h1, h2⟩ := hst e he
  simp [Bt.bofP, Bt.dueB, h1, h2, bsEq_eq, Bt.emptyS, Bt.SnM.sees, sawC]
theorem OInv.saw0 {n q : Nat} {S : QS} {R : List Int} (h : OInv n q S R) {e : EventM} (he : e ∈ P3 S.T) : sawC S.ts 1 e = false := by
  obtain ⟨t, ht, hm, ho⟩ := h.tk.fst
  have hfd := h.tk.find ht
  have hx := (h.ev e he).1
  rw [sawC, show Tk.fdT (Tk.tkIs 1) S.ts = t from hfd, hm, ho]
  simp [snSees]; try omega
theorem OInv.sawUp {n q : Nat} {S : QS} {R : List Int} (h : OInv n q S R) {j : Nat} (hj : j + 1 < S.ts.length) (e : EventM) (hs : sawC S.ts ((j : Int) + 1) e = true) : sawC S.ts ((j : Int) + 1 + 1) e = true := by
  have h1 := h.tk.find (List.getElem?_eq_getElem (show j < S.ts.length by omega))
  have h2 := h.tk.find (List.getElem?_eq_getElem hj)
  rw [sawC, h1] at hs
  rw [show ((j + 1 : Nat) : Int) = (j : Int) + 1 from by omega] at h2
  rw [sawC, h2]
  exact h.tk.mono j _ _ (List.getElem?_eq_getElem (by omega)) (List.getElem?_eq_getElem hj) _ hs
/-- Once all is done, the last tick sees all. -/
theorem OInv.sawEnd {n q : Nat} {S : QS} {R : List Int} (h : OInv n q S R) {t : Tk.TickM} (ht : S.ts[S.ts.length - 1]? = some t) (hm : t.mx = (R.length : Int) + 1) (ho : t.op = []) {e : EventM} (he : e ∈ P3 S.T) : sawC S.ts S.ts.length e = true := by
  have h1 := h.tk.find ht
  have h0 := (List.getElem?_eq_some_iff.1 ht).1
  have hx := (h.ev e he).1
  rw [show ((S.ts.length - 1 : Nat) : Int) + 1 = (S.ts.length : Int) from by omega] at h1
  rw [sawC, h1, hm, ho]
  simp [snSees]; try omega
theorem told_once {xs ys : List Int} (h : ys.Perm xs) (hn : xs.Nodup) {d : Int} (hd : d ∈ xs) : ys.count d = 1 := by
  rw [h.count_eq d]
  exact List.Nodup.count hn ▸ (if_pos hd)
theorem pos_end {s : TxS} {R : List Int} (hal : Alike s R) {x : Int} {r : List Int} (h : pos 1 R = x :: r) : pos 1 (endR R x 2) = r := by
  have h1 := (hal.commit (x := x) (by rw [h]; simp)).O
  dsimp only at h1
  rw [← h1, hal.O, h]
  have h2 : (pos 1 R).Pairwise fun a b : Int => a < b := posF_rise
  rw [h, List.pairwise_cons] at h2
  unfold del
  rw [List.filter_cons, if_neg (by simp), List.filter_eq_self]
  intro y hy
  have := h2.1 y hy
  simp; omega
theorem OInv.done {n q : Nat} {S : QS} {R : List Int} (h : OInv n q S R) (h0 : pos 1 R = []) : ∀ e ∈ P3 S.T, stE S.s e.tx = 2 ∧ e.owner = ⟨#[]⟩ := fun e he => by
  obtain ⟨a, b, c, d⟩ := h.ev e he
  refine ⟨?_, c⟩
  rw [h.al.state]
  rcases b with b | b
  · have := (rState_one _).1 b
    rw [h0] at this; cases this
  · exact b
theorem OInv.trim {n q : Nat} {S : QS} {R : List Int} (h : OInv n q S R) {ys : List Cu.CurV} (hp : ys.Perm (S.cs.map (·.1))) : trimTs S (lowL ys) = S.ts := by
  rw [h.cs] at hp
  have hy : ys = [⟨Cu.nA, 1, 0⟩] := List.perm_singleton.1 hp
  have hl : lowL ys = 1 := by rw [hy]; rfl
  rw [trimTs, hl, List.filter_eq_self]
  intro t ht
  obtain ⟨j, hj⟩ := List.mem_iff_getElem?.1 ht
  have := (h.tk.ns j t hj).1
  simp [Tk.tkGone]; omega
theorem OInv.add8 {n q : Nat} {S : QS} {R : List Int} (h : OInv n q S R) (h0 : pos 1 R = []) (ha : Tk.tkAdd S.ts S.s.next (pos 1 R) 0 ≠ 0) : Tk.tkAdd S.ts S.s.next (pos 1 R) 0 = 8 := by
  have hn := h.al.next
  unfold Tk.tkAdd at ha ⊢
  split
  · rfl
  · rename_i hl
    rw [if_neg hl] at ha
    have hf : Tk.tkFollows S.ts S.s.next (pos 1 R) 0 = true := by
      rw [h0, Tk.tkFollows, Bool.and_eq_true]
      refine ⟨?_, ?_⟩
      · simp [snRight, rightFrom]; omega
      · cases hg : S.ts.getLast? with
        | none => rfl
        | some t =>
          have ht := List.mem_of_getLast? hg
          obtain ⟨j, hj⟩ := List.mem_iff_getElem?.1 ht
          obtain ⟨k1, k2, k3, k4⟩ := h.tk.ns j t hj
          simp [snCovers, k2]; left; omega
    rw [if_pos hf] at ha
    exact absurd rfl ha
theorem OInv.cur' {n q : Nat} {S : QS} {R : List Int} (h : OInv n q S R) : S = { S with cs := [cA ((0 : Nat) + 1 : Int) 0 q] } := by
  have := h.cs
  cases S
  dsimp only at this ⊢
  rw [this]; rfl
end Go.Proofs.YthpcahgdobnljaaGreat
