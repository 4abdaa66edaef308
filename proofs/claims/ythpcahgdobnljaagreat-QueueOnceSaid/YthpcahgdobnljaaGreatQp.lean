/- Plain laws for the law QueueOnce. -/
import Derived.Test.YthpcahgdobnljaaGreatQe
import Derived.Test.YthpcahgdobnljaaGreatL15a
set_option maxRecDepth 100000
set_option autoImplicit false
set_option linter.unusedVariables false
set_option linter.unusedSimpArgs false
namespace Go.Proofs.YthpcahgdobnljaaGreat
open Go.RX Go Go.RowKit

theorem rs_append {R : List Int} {x z : Int} (h : 1 ≤ x ∧ x ≤ R.length) : rState (R ++ [z]) x = rState R x := by
  unfold rState
  rw [if_neg (by simp; omega), if_neg (by omega), List.getElem?_append_left (by omega)]
theorem rs_end {R : List Int} {y st : Int} (hy : y ∈ pos 1 R) (x : Int) : rState (endR R y st) x = if x = y then st else rState R x := by
  obtain ⟨h1, h2, h3⟩ := pos_mem.1 hy
  unfold rState endR
  rw [List.length_set]
  by_cases h : x < 1 ∨ (R.length : Int) < x
  · rw [if_pos h, if_pos h, if_neg (by omega)]
  · rw [if_neg h, if_neg h, List.getElem?_set]
    by_cases hxy : x = y
    · subst hxy
      rw [if_pos rfl, if_pos rfl, if_pos (by omega)]; rfl
    · rw [if_neg (by omega), if_neg hxy]

abbrev P3 (T : Sp.Tbs) : List EventM := Sp.pre3 T.1 T.2.1 T.2.2 3
theorem P3_put (T : Sp.Tbs) (k : Nat) (hk : k < 3) (A : Option Addr) (c : Nat) (e : EventM) : (P3 (Sp.set3 T k ⟨A, c, (Sp.get3 T k).xs ++ [e]⟩)).Perm (e :: P3 T) := by
  classical
  have hk' : k = 0 ∨ k = 1 ∨ k = 2 := by omega
  rcases hk' with rfl | rfl | rfl <;> exact List.perm_iff_count.2 fun a => by simp only [P3, Sp.pre3, Sp.set3, Sp.get3, Sp.pick3, List.count_append, List.count_cons, List.count_nil]; omega
theorem P3_forget (x : Int) (T : Sp.Tbs) : P3 (Sp.tf x T.1, Sp.tf x T.2.1, Sp.tf x T.2.2) = (P3 T).filter fun e => !decide (e.tx = x) := by
  simp only [P3, Sp.pre3, Sp.tf, List.filter_append]
theorem P3_get {T : Sp.Tbs} {k : Nat} (hk : k < 3) {e : EventM} (h : e ∈ (Sp.get3 T k).xs) : e ∈ P3 T := by
  have hk' : k = 0 ∨ k = 1 ∨ k = 2 := by omega
  rcases hk' with rfl | rfl | rfl <;> (simp only [Sp.get3, Sp.pick3] at h; simp [P3, Sp.pre3, h])
theorem nxt_lt (k : Nat) : Sp.nxt k < 3 := by unfold Sp.nxt; omega

/-! ### ticks that nobody takes away -/
structure TkI (N : Int) (ts : List Tk.TickM) : Prop where
  ns : ∀ (j : Nat) (t : Tk.TickM), ts[j]? = some t → t.n = (j : Int) + 1 ∧ t.t = 0 ∧ (1 ≤ t.mx ∧ t.mx ≤ N) ∧ t.op.length ≤ 1000
  mono : ∀ (j : Nat) (t u : Tk.TickM), ts[j]? = some t → ts[j + 1]? = some u → ∀ x, snSees t.mx t.op x = true → snSees u.mx u.op x = true
  fst : ∃ t, ts[0]? = some t ∧ t.mx = 1 ∧ t.op = []
theorem TkI.up {N M : Int} {ts : List Tk.TickM} (h : TkI N ts) (hm : N ≤ M) : TkI M ts := ⟨fun j t ht => by obtain ⟨a, b, c, d⟩ := h.ns j t ht; exact ⟨a, b, ⟨c.1, by omega⟩, d⟩, h.mono, h.fst⟩
theorem TkI.fit {N : Int} {ts : List Tk.TickM} (h : TkI N ts) (hN : N ≤ 1000000) : Tk.Fit1 ts := fun t ht => by
  obtain ⟨j, hj⟩ := List.mem_iff_getElem?.1 ht
  obtain ⟨a, b, c, d⟩ := h.ns j t hj
  exact ⟨⟨by omega, by omega⟩, d⟩
theorem covers_mono {mx : Int} {op : List Int} {bmx : Int} {bop : List Int} (hc : snCovers mx op bmx bop = true) (hm : bmx ≤ mx) {x : Int} (hx : snSees bmx bop x = true) : snSees mx op x = true := by
  simp only [snCovers, Bool.and_eq_true, Bool.not_eq_true', List.any_eq_false] at hc
  have h1 := hc.1
  simp only [snSees, Bool.and_eq_true, decide_eq_true_eq, Bool.not_eq_true', List.contains_eq_mem, decide_eq_false_iff_not] at hx ⊢
  refine ⟨hx.1, by omega, fun hmem => ?_⟩
  have := h1 x hmem
  simp [snSees, hx.1, hx.2.1, hx.2.2] at this
theorem TkI.put {N mx : Int} {ts : List Tk.TickM} {op : List Int} (h : TkI N ts) (ha : Tk.tkAdd ts mx op 0 = 0) (h1 : 1 ≤ mx) (hN : N ≤ mx) (ho : op.length ≤ 1000) (A : Option Addr) (c : Nat) : TkI mx (ts ++ [⟨(ts.length : Int) + 1, mx, A, c, op, 0⟩]) := by
  have hf : Tk.tkFollows ts mx op 0 = true := by
    unfold Tk.tkAdd at ha
    split at ha
    · omega
    · split at ha
      · assumption
      · omega
  refine ⟨fun j t ht => ?_, fun j t u ht hu x hx => ?_, ?_⟩
  · rw [List.getElem?_append] at ht
    split at ht
    · obtain ⟨a, b, c, d⟩ := h.ns j t ht
      exact ⟨a, b, ⟨c.1, by omega⟩, d⟩
    · have hj : j - ts.length = 0 := by
        rcases Nat.eq_zero_or_pos (j - ts.length) with h0 | h0
        · exact h0
        · rw [List.getElem?_eq_none (by simp; omega)] at ht; cases ht
      rw [hj] at ht
      simp at ht; subst ht
      exact ⟨by dsimp only; omega, rfl, ⟨h1, by dsimp only; omega⟩, ho⟩
  · rw [List.getElem?_append] at hu ht
    split at hu
    · rw [if_pos (by omega)] at ht
      exact h.mono j t u ht hu x hx
    · have hj : j + 1 - ts.length = 0 := by
        rcases Nat.eq_zero_or_pos (j + 1 - ts.length) with h0 | h0
        · exact h0
        · rw [List.getElem?_eq_none (by simp; omega)] at hu; cases hu
      rw [hj] at hu
      simp at hu; subst hu
      rw [if_pos (by omega)] at ht
      have hl : ts.getLast? = some t := by rw [List.getLast?_eq_getElem?]; rw [show ts.length - 1 = j from by omega]; exact ht
      simp only [Tk.tkFollows, hl, Bool.and_eq_true] at hf
      have := (h.ns j t ht).2.2.1
      exact covers_mono hf.2.1 (by omega) hx
  · obtain ⟨t, h0, h2⟩ := h.fst
    exact ⟨t, by rw [List.getElem?_append_left (List.getElem?_eq_some_iff.1 h0).1]; exact h0, h2⟩
theorem TkI.find {N : Int} {ts : List Tk.TickM} (h : TkI N ts) {j : Nat} {t : Tk.TickM} (ht : ts[j]? = some t) : Tk.fdT (Tk.tkIs ((j : Int) + 1)) ts = t := by
  have : ts.find? (Tk.tkIs ((j : Int) + 1)) = some t := by
    rw [List.find?_eq_some_iff_getElem]
    obtain ⟨hj, rfl⟩ := List.getElem?_eq_some_iff.1 ht
    refine ⟨by simp [Tk.tkIs, (h.ns j _ ht).1], j, hj, rfl, fun k hk => ?_⟩
    have := (h.ns k _ (List.getElem?_eq_getElem (by omega))).1
    simp [Tk.tkIs, this]; omega
  simp only [Tk.fdT, this]; rfl
theorem TkI.aft {N : Int} {ts : List Tk.TickM} (h : TkI N ts) (j : Nat) : ts.find? (Tk.tkAft j) = ts[j]? := by
  cases hj : ts[j]? with
  | none =>
    rw [List.find?_eq_none]
    intro t ht
    obtain ⟨k, hk⟩ := List.mem_iff_getElem?.1 ht
    have h1 := (h.ns k t hk).1
    have h2 := (List.getElem?_eq_some_iff.1 hk).1
    have h3 := List.getElem?_eq_none_iff.1 hj
    simp [Tk.tkAft, h1]; omega
  | some t =>
    rw [List.find?_eq_some_iff_getElem]
    obtain ⟨hl, rfl⟩ := List.getElem?_eq_some_iff.1 hj
    refine ⟨by (simp [Tk.tkAft, (h.ns j _ hj).1]; omega), j, hl, rfl, fun k hk => ?_⟩
    have := (h.ns k _ (List.getElem?_eq_getElem (by omega))).1
    simp [Tk.tkAft, this]; omega

/-! ### what holds all along -/
structure OInv (n : Nat) (q : Nat) (S : QS) (R : List Int) : Prop where
  al : Alike S.s R
  rl : R.length ≤ n
  o6 : (pos 1 R).length ≤ 6
  cur : S.cur < 3
  len : Sp.len3 S.T ≤ n
  lst : S.last = S.ts.length
  tl : S.ts.length ≤ n + 1
  tk : TkI ((R.length : Int) + 1) S.ts
  cs : S.cs = [cA 1 0 q]
  nx : 1 ≤ S.nx ∧ S.nx ≤ n + 1
  ev : ∀ e ∈ P3 S.T, (1 ≤ e.tx ∧ e.tx ≤ R.length) ∧ (rState R e.tx = 1 ∨ rState R e.tx = 2) ∧ e.owner = ⟨#[]⟩ ∧ e.id < S.nx
  nd : ((P3 S.T).map EventM.id).Nodup
theorem OInv.up {n q : Nat} {S : QS} {R : List Int} (h : OInv n q S R) : OInv (n + 1) q S R :=
  ⟨h.al, by have := h.rl; omega, h.o6, h.cur, by have := h.len; omega, h.lst, by have := h.tl; omega, h.tk, h.cs, ⟨h.nx.1, by have := h.nx.2; omega⟩, h.ev, h.nd⟩
theorem OInv.begin {n q : Nat} {S : QS} {R : List Int} (h : OInv n q S R) (h6 : (pos 1 R).length < 6) : OInv (n + 1) q { S with s := begS S.s } (R ++ [1]) := by
  refine ⟨h.al.begin, by have := h.rl; simp; omega, by rw [pos_append]; simp; omega, h.cur, by have := h.len; dsimp only; omega, h.lst, by have := h.tl; dsimp only; omega, h.tk.up (by simp; omega), h.cs, ⟨h.nx.1, by have := h.nx.2; dsimp only; omega⟩, fun e he => ?_, h.nd⟩
  obtain ⟨a, b, c, d⟩ := h.ev e he
  exact ⟨⟨a.1, by simp; omega⟩, by rw [rs_append a]; exact b, c, d⟩
theorem OInv.write {n q : Nat} {S : QS} {R : List Int} (h : OInv n q S R) {x : Int} (hx : rState R x = 1) (A : Option Addr) (c : Nat) (tb kd key : Int) (text : ByteArray) : OInv (n + 1) q { S.put A c (evW S x tb kd key text) with nx := S.nx + 1 } R := by
  have hp := P3_put S.T S.cur h.cur A c (evW S x tb kd key text)
  obtain ⟨x1, x2, x3⟩ := pos_mem.1 ((rState_one x).1 hx)
  refine ⟨h.al, by have := h.rl; omega, h.o6, h.cur, ?_, h.lst, by have := h.tl; dsimp only; omega, h.tk, h.cs, ⟨by have := h.nx.1; dsimp only; omega, by have := h.nx.2; dsimp only; omega⟩, fun e he => ?_, ?_⟩
  · have : Sp.len3 (Sp.set3 S.T S.cur ⟨A, c, (Sp.get3 S.T S.cur).xs ++ [evW S x tb kd key text]⟩) = Sp.len3 S.T + 1 := Sp.sum_set3 _ S.T S.cur _ 1 h.cur (by simp)
    have := h.len; dsimp only; omega
  · rcases List.mem_cons.1 (hp.mem_iff.1 he) with rfl | he
    · exact ⟨⟨x1, x2⟩, .inl hx, rfl, by dsimp only; omega⟩
    · obtain ⟨a, b, c, d⟩ := h.ev e he
      exact ⟨a, b, c, by dsimp only; omega⟩
  · refine (hp.map EventM.id).nodup_iff.2 ?_
    rw [List.map_cons, List.nodup_cons]
    refine ⟨fun hm => ?_, h.nd⟩
    obtain ⟨e, he, hid⟩ := List.mem_map.1 hm
    have := (h.ev e he).2.2.2
    dsimp only at hid; omega
theorem OInv.commit {n q : Nat} {S : QS} {R : List Int} (h : OInv n q S R) {x : Int} (hx : x ∈ pos 1 R) : OInv n q { S with s := comS S.s x } (endR R x 2) := by
  have hl : (endR R x 2).length = R.length := List.length_set ..
  have hO := (h.al.commit hx).O
  refine ⟨h.al.commit hx, by rw [hl]; exact h.rl, ?_, h.cur, h.len, h.lst, h.tl, by rw [hl]; exact h.tk, h.cs, h.nx, fun e he => ?_, h.nd⟩
  · rw [← hO]; exact Nat.le_trans (List.length_filter_le _ _) (by rw [h.al.O]; exact h.o6)
  · obtain ⟨a, b, c, d⟩ := h.ev e he
    refine ⟨by rw [hl]; exact a, ?_, c, d⟩
    rw [rs_end hx]
    split
    · exact .inr rfl
    · exact b
theorem OInv.abort {n q : Nat} {S : QS} {R : List Int} (h : OInv n q S R) {x : Int} (hx : x ∈ pos 1 R) : OInv n q { S with s := aboS S.s x, T := (Sp.tf x S.T.1, Sp.tf x S.T.2.1, Sp.tf x S.T.2.2) } (endR R x 3) := by
  have hl : (endR R x 3).length = R.length := List.length_set ..
  have hO := (h.al.abort hx).O
  refine ⟨h.al.abort hx, by rw [hl]; exact h.rl, ?_, h.cur, ?_, h.lst, h.tl, by rw [hl]; exact h.tk, h.cs, h.nx, fun e he => ?_, ?_⟩
  · rw [← hO]; exact Nat.le_trans (List.length_filter_le _ _) (by rw [h.al.O]; exact h.o6)
  · have h0 := h.len
    have k1 : (Sp.tf x S.T.1).xs.length ≤ S.T.1.xs.length := List.length_filter_le _ _
    have k2 : (Sp.tf x S.T.2.1).xs.length ≤ S.T.2.1.xs.length := List.length_filter_le _ _
    have k3 : (Sp.tf x S.T.2.2).xs.length ≤ S.T.2.2.xs.length := List.length_filter_le _ _
    simp only [Sp.sum3] at h0 ⊢; omega
  · have he := (P3_forget x S.T) ▸ he
    obtain ⟨he, hne⟩ := List.mem_filter.1 he
    obtain ⟨a, b, c, d⟩ := h.ev e he
    refine ⟨by rw [hl]; exact a, ?_, c, d⟩
    rw [rs_end hx, if_neg (by simpa using hne)]
    exact b
  · show ((P3 (Sp.tf x S.T.1, Sp.tf x S.T.2.1, Sp.tf x S.T.2.2)).map EventM.id).Nodup
    rw [P3_forget]
    exact h.nd.sublist ((List.filter_sublist).map _)
theorem OInv.tick {n q : Nat} {S : QS} {R : List Int} (h : OInv n q S R) (ha : Tk.tkAdd S.ts S.s.next (pos 1 R) 0 = 0) (A1 : Option Addr) (c1 : Nat) (A2 : Option Addr) (c2 : Nat) : OInv (n + 1) q (S.tick A1 c1 A2 c2 R 0) R := by
  have hnx := h.al.next
  have ho := h.o6
  have ht := h.tk.put ha (by omega) (by omega) (by omega) A1 c1
  rw [← h.lst] at ht
  refine ⟨h.al, by have := h.rl; omega, h.o6, h.cur, by have := h.len; dsimp only; omega, by have := h.lst; simp; omega, by have := h.tl; simp; omega, ht.up (show S.s.next ≤ (R.length : Int) + 1 by omega), h.cs, ⟨h.nx.1, by have := h.nx.2; dsimp only; omega⟩, h.ev, h.nd⟩
theorem OInv.turn {n q : Nat} {S : QS} {R : List Int} (h : OInv n q S R) : OInv n q { S with cur := Sp.nxt S.cur } R :=
  ⟨h.al, h.rl, h.o6, nxt_lt _, h.len, h.lst, h.tl, h.tk, h.cs, h.nx, h.ev, h.nd⟩
/-- What is wanted isn't let go. -/
theorem OInv.kept {n q : Nat} {S : QS} {R : List Int} (h : OInv n q S R) {b : Bool} (hF : FreeV S b) (hne : (Sp.get3 S.T (Sp.nxt S.cur)).xs ≠ []) : b = false := by
  obtain ⟨ys, sn, hp, hr, hsn, rfl⟩ := hF
  rw [h.cs] at hp
  have hy : ys = [⟨Cu.nA, 1, 0⟩] := List.perm_singleton.1 hp
  obtain ⟨e, he⟩ := List.exists_mem_of_ne_nil _ hne
  obtain ⟨a, b, c, d⟩ := h.ev e (P3_get (nxt_lt _) he)
  obtain ⟨t, ht, hm, ho⟩ := h.tk.fst
  have hfd := h.tk.find ht
  have hs : ∃ s ∈ sn, s.mx = 1 ∧ s.op = [] := by
    have : (1, []) ∈ sn.map snk := by
      rw [hsn, hy]
      refine List.mem_append_left _ ?_
      simp only [List.map_cons, List.map_nil, List.mem_singleton, tkk]
      rw [show Tk.fdT (Tk.tkIs 1) S.ts = t from hfd, hm, ho]
    obtain ⟨s, hs, hk⟩ := List.mem_map.1 this
    simp only [snk, Prod.mk.injEq] at hk
    exact ⟨s, hs, hk⟩
  obtain ⟨s, hs, hs1, hs2⟩ := hs
  have hn : Bt.needsB (stE S.s) sn e = true := by
    unfold Bt.needsB
    rw [h.al.cons]
    rcases b with b | b
    · rw [if_pos b]
    · rw [if_neg (by omega), if_pos b]
      refine List.any_eq_true.2 ⟨s, hs, ?_⟩
      simp [Bt.SnM.sees, snSees, hs1, hs2]
      omega
  rw [Bt.freeB, List.any_eq_true.2 ⟨e, he, hn⟩]; rfl
end Go.Proofs.YthpcahgdobnljaaGreat
