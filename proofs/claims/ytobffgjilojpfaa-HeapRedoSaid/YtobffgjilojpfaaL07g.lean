/- What is done again is the same: plain laws for the law HeapRedo. -/
import Derived.Test.YtobffgjilojpfaaL07e
import Derived.Test.YtobffgjilojpfaaHeapR
set_option maxRecDepth 100000
set_option autoImplicit false
set_option linter.unusedVariables false
set_option linter.unusedSimpArgs false
namespace Go.Proofs.Ytobffgjilojpfaa
open Go.RX Go Go.RowKit

/-- All of them have committed. -/
structure RdI (i : Nat) (s : TxS) : Prop where
  nx : s.next = i + 1
  op : s.O = []
  dn : ∀ x : Int, 1 ≤ x → x ≤ i → x ∈ s.D
abbrev endS (s : TxS) : TxS := ⟨s.next + 1, [], ins s.next s.D⟩
theorem RdI.nxt {i : Nat} {s : TxS} (h : RdI i s) : RdI (i + 1) (endS s) := by
  refine ⟨by dsimp only; rw [h.nx]; push_cast; rfl, rfl, fun x h1 h2 => ?_⟩
  have h3 := h.nx
  dsimp only
  unfold ins
  by_cases hx : x = s.next
  · subst hx
    split
    · assumption
    · simp
  · have := h.dn x h1 (by omega)
    split
    · exact this
    · simp [this]
theorem RdI.beg {i : Nat} {s : TxS} (h : RdI i s) : begS s = ⟨s.next + 1, [s.next], s.D⟩ := by rw [begS, h.op]; rfl
theorem RdI.st1 {i : Nat} {s : TxS} (h : RdI i s) {x : Int} (h0 : 1 ≤ x) (h1 : x ≤ i) : stE (begS s) x = 2 := by
  have h3 := h.nx
  rw [h.beg, stE, if_neg (by dsimp only; omega), if_neg (by simp; omega), if_pos (h.dn x h0 h1)]
theorem RdI.st0 {i : Nat} {s : TxS} (h : RdI i s) : stE (begS s) 0 = 0 := by
  rw [stE, if_pos (by omega)]
theorem RdI.own {i : Nat} {s : TxS} (h : RdI i s) : stE (begS s) s.next = 1 := by
  have h3 := h.nx
  rw [h.beg, stE, if_neg (by dsimp only; omega), if_pos (by simp)]
theorem RdI.st {i : Nat} {s : TxS} (h : RdI i s) {x : Int} (h0 : 1 ≤ x) (h1 : x ≤ i) : stE s x = 2 := by
  have h3 := h.nx
  rw [stE, if_neg (by omega), if_neg (by rw [h.op]; simp), if_pos (h.dn x h0 h1)]

structure VsR (i : Nat) (vs : List VerM) : Prop where
  len : vs.length ≤ i
  one : ∀ x ∈ vs, (1 ≤ x.born ∧ x.born ≤ i) ∧ (0 ≤ x.died ∧ x.died ≤ i)
theorem VsR.up {i : Nat} {vs : List VerM} (h : VsR i vs) : VsR (i + 1) vs := ⟨by have := h.len; omega, fun x hx => by have := h.one x hx; omega⟩
theorem VsR.set {i : Nat} {vs : List VerM} (h : VsR (i + 1) vs) {k : Nat} {x : VerM} (hx : vs[k]? = some x) : VsR (i + 1) (vs.set k ⟨x.key, x.text, x.born, (i + 1 : Int)⟩) := by
  refine ⟨by rw [List.length_set]; exact h.len, fun y hy => ?_⟩
  rcases List.mem_or_eq_of_mem_set hy with hy | rfl
  · exact h.one y hy
  · have := h.one x (List.mem_of_getElem? hx)
    dsimp only
    omega
theorem VsR.app {i : Nat} {vs : List VerM} (h : VsR (i + 1) vs) (hl : vs.length ≤ i) (k : Int) (t : ByteArray) : VsR (i + 1) (vs ++ [⟨k, t, (i + 1 : Int), 0⟩]) := by
  refine ⟨by simp; omega, fun y hy => ?_⟩
  rcases List.mem_append.1 hy with hy | hy
  · exact h.one y hy
  · simp at hy; subst hy; dsimp only; omega

/-- Alive, with the key. -/
def fr (key : Int) (x : VerM) : Bool := decide (x.key = key) && decide (x.died = 0)
abbrev vwN (s : TxS) (S : Option Addr) (d : Nat) : VwM := ⟨s.next + 1, S, d, [s.next], s.next⟩
section
variable {i : Nat} {s : TxS} (h : RdI i s) {x : VerM} (hx : (1 ≤ x.born ∧ x.born ≤ i) ∧ (0 ≤ x.died ∧ x.died ≤ i)) (S : Option Addr) (d : Nat) (key : Int)
include h hx
theorem fr_find : findP (stE (begS s)) (vwN s S d) key x = fr key x := by
  have h3 := h.nx
  have hb := h.st1 hx.1.1 hx.1.2
  have n1 : ¬ x.born = s.next := by omega
  have n2 : x.born < s.next + 1 := by omega
  have n3 : 0 < x.born := by omega
  have n4 : 1 ≤ x.born := by omega
  unfold findP fr
  congr 1
  by_cases hd : x.died = 0
  · simp [seesP, didP, snSees, hb, n1, n2, n3, n4, hd]
  · have hd2 := h.st1 (x := x.died) (by omega) hx.2.2
    have m1 : ¬ x.died = s.next := by omega
    have m2 : x.died < s.next + 1 := by omega
    have m3 : 0 < x.died := by omega
    have m4 : 1 ≤ x.died := by omega
    simp [seesP, didP, snSees, hb, hd2, n1, n2, n3, n4, m1, m2, m3, m4, hd]
theorem fr_ins : insP (stE (begS s)) (vwN s S d) key x = fr key x := by
  have hb := h.st1 hx.1.1 hx.1.2
  unfold insP fr
  congr 1
  by_cases hd : x.died = 0
  · simp [blkP, othP, deadP, hb, hd]
  · have hd2 := h.st1 (x := x.died) (by omega) hx.2.2
    have m3 : 0 < x.died := by omega
    simp [blkP, othP, deadP, hb, hd2, m3, hd]
theorem fr_alive : aliveP (stE (endS s)) key x = fr key x := by
  have hb := h.nxt.st hx.1.1 (by omega)
  unfold aliveP fr
  congr 1
  by_cases hd : x.died = 0
  · have h0 : stE (endS s) 0 = 0 := by rw [stE, if_pos (by omega)]
    simp [hb, hd, h0]
  · have hd2 := h.nxt.st (x := x.died) (by omega) (by omega)
    simp [hb, hd2, hd]
end
theorem idxF_congr {α : Type} {p q : α → Bool} : ∀ {l : List α}, (∀ x ∈ l, p x = q x) → idxF p l = idxF q l
  | [], _ => rfl
  | x :: l, h => by
    have ih := idxF_congr (p := p) (q := q) (l := l) fun y hy => h y (by simp [hy])
    simp only [idxF, h x (by simp), ih]
theorem any_congr {α : Type} {p q : α → Bool} : ∀ {l : List α}, (∀ x ∈ l, p x = q x) → l.any p = l.any q
  | [], _ => rfl
  | x :: l, h => by rw [List.any_cons, List.any_cons, h x (by simp), any_congr fun y hy => h y (by simp [hy])]

/-- What was done, and is done again. -/
structure Again (i : Nat) (s : TxS) (vs vs' : List VerM) (os : List OpM) : Prop where
  ok : VsR (i + 1) vs'
  same : os.foldl (redo1 (stE (endS s)) s.next) vs = vs'
  len : os.length ≤ 1
theorem Again.none_ {i : Nat} {s : TxS} {vs : List VerM} (hv : VsR i vs) : Again i s vs vs [] := ⟨hv.up, rfl, by simp⟩
theorem Again.ins {i : Nat} {s : TxS} {vs : List VerM} (h : RdI i s) (hv : VsR i vs) {S : Option Addr} {d : Nat} {r : RowM} (he : insE (stE (begS s)) (vwN s S d) vs r.key = 0) : Again i s vs (vs ++ [⟨r.key, r.text, s.next, 0⟩]) [⟨false, r⟩] := by
  have h3 := h.nx
  refine ⟨by rw [h3]; exact hv.up.app hv.len _ _, ?_, by simp⟩
  have hn : vs.any (fr r.key) = false := by
    rw [← any_congr fun x hx => fr_find h (hv.one x hx) S d r.key]
    unfold insE at he
    cases hh : vs.any (findP (stE (begS s)) (vwN s S d) r.key) with
    | false => rfl
    | true => rw [hh] at he; split at he <;> simp at he
  have hi : idxF (aliveP (stE (endS s)) r.key) vs = -1 := by
    rw [idxF_congr fun x hx => fr_alive h (hv.one x hx) r.key]
    have := idxF_any (fr r.key) vs
    rw [hn] at this
    rcases idxF_spec (fr r.key) vs with ⟨h1, _⟩ | ⟨k, _, h1, _⟩
    · exact h1
    · rw [h1] at this; simp at this
  simp only [List.foldl_cons, List.foldl_nil, redo1, hi]
  rfl
theorem kill_again {i : Nat} {s : TxS} {vs vs' : List VerM} (h : RdI i s) (hv : VsR i vs) {S : Option Addr} {d : Nat} {key e : Int} (hk : killR (stE (begS s)) (vwN s S d) vs key e vs') :
    (e = 0 ∧ VsR (i + 1) vs' ∧ vs'.length = vs.length ∧ vs' = dieAt vs (idxF (aliveP (stE (endS s)) key) vs) s.next) ∨ (e ≠ 0 ∧ vs' = vs) := by
  rcases hk with ⟨hx, _⟩ | ⟨_, _, rfl, rfl⟩ | ⟨_, k, x, hx, hf, hne, ⟨_, rfl, rfl⟩ | ⟨_, rfl, rfl⟩⟩
  · exact absurd h.own hx
  · exact .inr ⟨by decide, rfl⟩
  · exact .inr ⟨by decide, rfl⟩
  · refine .inl ⟨rfl, ?_, by simp, ?_⟩
    · have := hv.up.set hx
      have h3 := h.nx
      rw [← h3] at this
      exact this
    · have hi : idxF (aliveP (stE (endS s)) key) vs = (k : Int) := by
        obtain ⟨hk, hxk⟩ := List.getElem?_eq_some_iff.1 hx
        refine idxF_at _ _ k hk ?_ fun j hj hjk => ?_
        · have hm := hv.one vs[k] (List.getElem_mem hk)
          rw [fr_alive h hm key, ← fr_find h hm S d key, hxk]; exact hf
        · have hm := hv.one vs[j] (List.getElem_mem hj)
          rw [fr_alive h hm key, ← fr_find h hm S d key]
          exact hne _ (List.mem_iff_getElem.2 ⟨j, by simp; omega, by simp⟩)
      rw [hi, dieAt, if_neg (by omega), show (k : Int).toNat = k from rfl, hx]
theorem Again.del {i : Nat} {s : TxS} {vs vs' : List VerM} (h : RdI i s) (hv : VsR i vs) {S : Option Addr} {d : Nat} {r : RowM} (hk : killR (stE (begS s)) (vwN s S d) vs r.key 0 vs') : Again i s vs vs' [⟨true, r⟩] := by
  rcases kill_again h hv hk with ⟨_, h1, _, h2⟩ | ⟨h1, _⟩
  · exact ⟨h1, h2.symm, by simp⟩
  · exact absurd rfl h1
theorem Again.upd {i : Nat} {s : TxS} {vs vs' : List VerM} (h : RdI i s) (hv : VsR i vs) {S : Option Addr} {d : Nat} {r : RowM} (hk : updR (stE (begS s)) (vwN s S d) vs r 0 vs') : Again i s vs vs' [⟨false, r⟩] := by
  obtain ⟨vs1, hk, rfl⟩ := hk
  rcases kill_again h hv hk with ⟨_, h1, hl, h2⟩ | ⟨h1, _⟩
  · have h3 := h.nx
    refine ⟨?_, ?_, by simp⟩
    · rw [if_pos rfl]
      have := h1.app (by have := hv.len; omega) r.key r.text
      rw [← h3] at this
      exact this
    · rw [if_pos rfl, h2]; rfl
  · exact absurd rfl h1
theorem killR_ne {i : Nat} {s : TxS} {vs vs' : List VerM} (h : RdI i s) (hv : VsR i vs) {S : Option Addr} {d : Nat} {key e : Int} (hk : killR (stE (begS s)) (vwN s S d) vs key e vs') (he : e ≠ 0) : vs' = vs := by
  rcases kill_again h hv hk with ⟨h1, _⟩ | ⟨_, h1⟩
  · exact absurd h1 he
  · exact h1
theorem updR_ne {i : Nat} {s : TxS} {vs vs' : List VerM} (h : RdI i s) (hv : VsR i vs) {S : Option Addr} {d : Nat} {r : RowM} {e : Int} (hk : updR (stE (begS s)) (vwN s S d) vs r e vs') (he : e ≠ 0) : vs' = vs := by
  obtain ⟨vs1, hk, rfl⟩ := hk
  rw [if_neg he]; exact killR_ne h hv hk he
end Go.Proofs.Ytobffgjilojpfaa
