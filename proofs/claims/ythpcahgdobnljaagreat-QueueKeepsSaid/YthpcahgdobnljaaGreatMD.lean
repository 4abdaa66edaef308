/- Texts of layer 15 put together (L15a, Qp, L15b, Pk, Pm, Pn). -/
import Derived.Test.YthpcahgdobnljaaGreatMA
import Derived.Test.YthpcahgdobnljaaGreatRxB
import Derived.Test.YthpcahgdobnljaaGreatMC
/- The law QueueRetries: what its run comes to. -/
set_option maxRecDepth 100000
set_option autoImplicit false
set_option linter.unusedVariables false
set_option linter.unusedSimpArgs false
namespace Go.Proofs.YthpcahgdobnljaaGreat
open Go.RX Go Go.RowKit


abbrev QS0 (s : TxS) : QS := ⟨(Sp.noTb, Sp.noTb, Sp.noTb), 0, none, 0, [], 0, [], none, 0, [], 1, s⟩
theorem qs_new (m b1 b2 : Nat) (s : TxS) (w0 : World) (hfs : List PH) (hm : Mod hfs (txB m b1 b2 s) w0) :
    Calls Tryz.prog 20 #[pv m] w0 fun e w' => ∃ v Rs', e = .returned v ∧ (∃ q bs bt bc bm br, v = pv q ∧ Rs' = qR ⟨q, m, b1, b2, bs, bt, bc, bm, br⟩ (QS0 s)) ∧ Mod hfs Rs' w' ∧ Oth w0 w' := by
  refine (qn_new (some ⟨m, 0, none⟩) w0).mono ?_
  rintro e w' ⟨v, Rs', h1, ⟨q, bs, bt, bc, bm, br, h2, rfl⟩, h3, h4⟩
  refine ⟨v, _, h1, ⟨q, bs, bt, bc, bm, br, h2, rfl⟩, ?_, h4⟩
  have h5 := h3.beside hm
  have h6 := (((((h5.own_nil (enc := encE) (k := 8) (T := 65) none).own_nil (enc := encE) (k := 8) (T := 65) none).own_nil (enc := encE) (k := 8) (T := 65) none).own_nil (enc := Tk.encT) (k := 4) (T := 44) none).own_nil (enc := Rt.encT) (k := 9) (T := 182) none).ro_nil
  exact h6.sel [6, 12, 13, 14, 7, 3, 4, 5, 8, 2, 0, 11, 1, 9, 10] rfl

abbrev nB : ByteArray := ⟨#[98]⟩
theorem srt_is {xs zs : List EventM} (h : SameBy EventM.id xs zs ∧ Rise ltI EventM.id zs ∧ zs.length = xs.length) (hx : Rise ltI EventM.id xs) : zs = xs := Rise.unique ordI h.2.1 hx h.1.symm
abbrev ev1 : EventM := ⟨1, 1, ⟨#[]⟩, 0, 1, 2, 5, ⟨#[120]⟩⟩
abbrev ev2 : EventM := ⟨1, 2, ⟨#[97]⟩, 1, 1, 2, 5, ⟨#[120]⟩⟩
abbrev tk1 (A : Option Addr) (c : Nat) : Tk.TickM := ⟨1, 1, A, c, [], 0⟩
abbrev tk2 (A : Option Addr) (c : Nat) : Tk.TickM := ⟨2, 2, A, c, [], 0⟩
abbrev tk3 (A : Option Addr) (c : Nat) (at_ : Int) : Tk.TickM := ⟨3, 3, A, c, [], at_⟩
abbrev cA (l o : Int) (q : Nat) : Cu.CurV × Nat := (⟨Cu.nA, l, o⟩, q)
abbrev cB (l o : Int) (q : Nat) : Cu.CurV × Nat := (⟨nB, l, o⟩, q)
abbrev T1 (A : Option Addr) (c : Nat) (l : List EventM) : Sp.Tbs := (⟨A, c, l⟩, Sp.noTb, Sp.noTb)
abbrev it1 (at_ : Int) : Rt.ItemM := ⟨at_, { ev2 with tx := 1 }⟩
theorem eqS (a b : ByteArray) : (a.toList == b.toList) = decide (a = b) := by
  rw [Bool.eq_iff_iff, beq_iff_eq, decide_eq_true_eq]
  exact ⟨toList_inj, fun h => by rw [h]⟩
theorem bsEq_eq (a b : ByteArray) : Bt.bsEq a b = decide (a = b) := eqS a b
end Go.Proofs.YthpcahgdobnljaaGreat

/- Plain laws for the law QueueOnce. -/
set_option maxRecDepth 100000
set_option autoImplicit false
set_option linter.unusedVariables false
set_option linter.unusedSimpArgs false
namespace Go.Proofs.YthpcahgdobnljaaGreat
open Go.RX Go Go.RowKit

theorem rs_append {R : List Int} {x z : Int} (h : 1 ≤ x ∧ x ≤ R.length) : rState (R ++ [z]) x = rState R x := by
  unfold rState
  rw [if_neg (by simp; omega), if_neg (by omega), List.getElem?_append_left (by omega)]
theorem rs_end {R : List Int} {y st : Int} (hy : y ∈ pos 1 R) (x : Int) : rState (endR R y st) x = if x = y then st else rState R x := by
  obtain ⟨h1, h2, h3⟩ := pos_mem.1 hy
  unfold rState endR
  rw [List.length_set]
  by_cases h : x < 1 ∨ (R.length : Int) < x
  · rw [if_pos h, if_pos h, if_neg (by omega)]
  · rw [if_neg h, if_neg h, List.getElem?_set]
    by_cases hxy : x = y
    · subst hxy
      rw [if_pos rfl, if_pos rfl, if_pos (by omega)]; rfl
    · rw [if_neg (by omega), if_neg hxy]

abbrev P3 (T : Sp.Tbs) : List EventM := Sp.pre3 T.1 T.2.1 T.2.2 3
theorem P3_put (T : Sp.Tbs) (k : Nat) (hk : k < 3) (A : Option Addr) (c : Nat) (e : EventM) : (P3 (Sp.set3 T k ⟨A, c, (Sp.get3 T k).xs ++ [e]⟩)).Perm (e :: P3 T) := by
  classical
  have hk' : k = 0 ∨ k = 1 ∨ k = 2 := by omega
  rcases hk' with rfl | rfl | rfl <;> exact List.perm_iff_count.2 fun a => by simp only [P3, Sp.pre3, Sp.set3, Sp.get3, Sp.pick3, List.count_append, List.count_cons, List.count_nil]; omega
theorem P3_forget (x : Int) (T : Sp.Tbs) : P3 (Sp.tf x T.1, Sp.tf x T.2.1, Sp.tf x T.2.2) = (P3 T).filter fun e => !decide (e.tx = x) := by
  simp only [P3, Sp.pre3, Sp.tf, List.filter_append]
theorem P3_get {T : Sp.Tbs} {k : Nat} (hk : k < 3) {e : EventM} (h : e ∈ (Sp.get3 T k).xs) : e ∈ P3 T := by
  have hk' : k = 0 ∨ k = 1 ∨ k = 2 := by omega
  rcases hk' with rfl | rfl | rfl <;> (simp only [Sp.get3, Sp.pick3] at h; simp [P3, Sp.pre3, h])
theorem nxt_lt (k : Nat) : Sp.nxt k < 3 := by unfold Sp.nxt; omega

end Go.Proofs.YthpcahgdobnljaaGreat

/- The law QueueOnce: what its run comes to. -/
set_option maxRecDepth 100000
set_option autoImplicit false
set_option linter.unusedVariables false
set_option linter.unusedSimpArgs false
namespace Go.Proofs.YthpcahgdobnljaaGreat
open Go.RX Go Go.RowKit Go.ChangeShapes Go.WideShapes Go.ChangeAt

structure Act15 where
  d_ : Int
  who : Int
  key : Int
  n : Int
def encA : Act15 → List Value := fun x => [.int .u8 x.d_, .int .u8 x.who, .int .u8 x.key, .int .i64 x.n]
theorem encA_is : IsEnc encA 4 := ⟨fun _ => rfl, fun x v hv => by simp [encA] at hv; rcases hv with rfl | rfl | rfl | rfl <;> rfl, by decide⟩
abbrev mkA (x : Act15) : Value := .agg #[.int .u8 x.d_, .int .u8 x.who, .int .u8 x.key, .int .i64 x.n]
def okA (w : World) (x : Act15) : Prop := (Lit.int .u8 x.d_).wf = true ∧ (Lit.int .u8 x.who).wf = true ∧ (Lit.int .u8 x.key).wf = true ∧ (Lit.int .i64 x.n).wf = true
theorem rd_acts {H : Type} {enc : TypeId × Value → H} {w : World} {base : Nat} {sp : Nat → Bool} {held : Bool} {r : Reach} {b0 : Nat} {v : Value} {d : DataW H} {ps : List MemPlace} (hval : Value.okWide Tryz.prog w r b0 22 v) (hd : DataW.Trod enc Tryz.prog w base sp held 22 v d ps) :
    ∃ (A : Option Addr) (c : Nat) (xs : List Act15), v = .slice A xs.length c ∧ RdW w A (xs.flatMap encA) ∧ (∀ x ∈ xs, okA w x) ∧ xs.length ≤ c ∧ c ≤ maxLen :=
  rd_slice encA_is Tryz.underlying22 (by kernel_rfl) (fun cs y fuel h => by
    obtain ⟨hl, hf⟩ := rd_struct tabOk (T := 28) rfl h
    rw [show Tryz.prog.cellsOf 28 = 4 from by kernel_rfl] at hl
    match cs, hl with
    | [v0, v1, v2, v3], _ =>
      obtain ⟨y0, m0, h0⟩ := hf 0 0 5 rfl
      rw [show Tryz.prog.cellsOf 5 = 1 from by kernel_rfl] at h0
      obtain ⟨z0, e0, _, q0⟩ := DataW.trod_int Tryz.underlying5 h0
      simp at e0
      subst e0
      obtain ⟨y1, m1, h1⟩ := hf 1 1 5 rfl
      rw [show Tryz.prog.cellsOf 5 = 1 from by kernel_rfl] at h1
      obtain ⟨z1, e1, _, q1⟩ := DataW.trod_int Tryz.underlying5 h1
      simp at e1
      subst e1
      obtain ⟨y2, m2, h2⟩ := hf 2 2 5 rfl
      rw [show Tryz.prog.cellsOf 5 = 1 from by kernel_rfl] at h2
      obtain ⟨z2, e2, _, q2⟩ := DataW.trod_int Tryz.underlying5 h2
      simp at e2
      subst e2
      obtain ⟨y3, m3, h3⟩ := hf 3 3 2 rfl
      rw [show Tryz.prog.cellsOf 2 = 1 from by kernel_rfl] at h3
      obtain ⟨z3, e3, _, q3⟩ := DataW.trod_int Tryz.underlying2 h3
      simp at e3
      subst e3
      exact ⟨⟨z0, z1, z2, z3⟩, rfl, q0, q1, q2, q3⟩) hval hd

theorem tmod_nat15 (k : Nat) (hk : 0 < k) {n : Int} (h : 0 ≤ n) : ∃ K : Nat, n.tmod k = K ∧ K < k := by
  have h1 := Int.tmod_nonneg (k : Int) h
  have h2 := Int.tmod_lt_of_pos n (b := (k : Int)) (by omega)
  exact ⟨(n.tmod k).toNat, by omega, by omega⟩
end Go.Proofs.YthpcahgdobnljaaGreat

/- Plain laws: tables, cursors, what waits: the queue's and the document's, alike. -/
set_option maxRecDepth 100000
set_option autoImplicit false
set_option linter.unusedVariables false
set_option linter.unusedSimpArgs false
namespace Go.Proofs.YthpcahgdobnljaaGreat.Sp
open Go.RX Go Go.RowKit
/-- Both, alike. -/
structure InvS (i : Nat) (T S : Tbs) (cur : Nat) : Prop where
  cur : cur < 3
  len : len3 T ≤ i
  same : ∀ k, k < 3 → (get3 T k).xs = (get3 S k).xs
theorem len3_eq {T S : Tbs} (h : ∀ k, k < 3 → (get3 T k).xs = (get3 S k).xs) : len3 T = len3 S := by
  have h0 := h 0 (by omega); have h1 := h 1 (by omega); have h2 := h 2 (by omega)
  simp only [get3, pick3] at h0 h1 h2
  simp only [sum3, h0, h1, h2]
theorem pre3_eq {T S : Tbs} (h : ∀ k, k < 3 → (get3 T k).xs = (get3 S k).xs) : pre3 T.1 T.2.1 T.2.2 3 = pre3 S.1 S.2.1 S.2.2 3 := by
  have h0 := h 0 (by omega); have h1 := h 1 (by omega); have h2 := h 2 (by omega)
  simp only [get3, pick3] at h0 h1 h2
  simp only [pre3, h0, h1, h2]
theorem InvS.up {i : Nat} {T S : Tbs} {cur : Nat} (h : InvS i T S cur) : InvS (i + 1) T S cur := ⟨h.cur, by have := h.len; omega, h.same⟩
theorem InvS.put {i : Nat} {T S : Tbs} {cur K : Nat} (h : InvS i T S cur) (hK : K < 3) (A1 : Option Addr) (c1 : Nat) (A2 : Option Addr) (c2 : Nat) (e : EventM) : InvS (i + 1) (set3 T K ⟨A1, c1, (get3 T K).xs ++ [e]⟩) (set3 S K ⟨A2, c2, (get3 S K).xs ++ [e]⟩) cur := by
  refine ⟨h.cur, ?_, fun k hk => ?_⟩
  · have : len3 (set3 T K ⟨A1, c1, (get3 T K).xs ++ [e]⟩) = len3 T + 1 := sum_set3 _ T K _ 1 hK (by simp)
    have := h.len; omega
  · rw [get_set3 T K k _ hK hk, get_set3 S K k _ hK hk]
    split
    · rename_i hkk; subst hkk; simp only [h.same k hk]
    · exact h.same k hk
theorem InvS.clear {i : Nat} {T S : Tbs} {cur K : Nat} (h : InvS i T S cur) (hK : K < 3) : InvS (i + 1) (set3 T K noTb) (set3 S K noTb) cur := by
  refine ⟨h.cur, ?_, fun k hk => ?_⟩
  · have h0 := h.len
    have : K = 0 ∨ K = 1 ∨ K = 2 := by omega
    rcases this with rfl | rfl | rfl <;> simp [sum3, set3, noTb] at h0 ⊢ <;> omega
  · rw [get_set3 T K k _ hK hk, get_set3 S K k _ hK hk]
    split
    · rfl
    · exact h.same k hk
theorem get_tf (T : Tbs) (X : Int) (k : Nat) : (get3 (tf X T.1, tf X T.2.1, tf X T.2.2) k).xs = ntx X (get3 T k).xs := by
  match k with
  | 0 => rfl
  | 1 => rfl
  | k + 2 => rfl
theorem InvS.forget {i : Nat} {T S : Tbs} {cur : Nat} (h : InvS i T S cur) (X : Int) {S2 : Tbs} (hS : ∀ k, k < 3 → (get3 S2 k).xs = ntx X (get3 S k).xs) : InvS (i + 1) (tf X T.1, tf X T.2.1, tf X T.2.2) S2 cur := by
  refine ⟨h.cur, ?_, fun k hk => by rw [get_tf, hS k hk, h.same k hk]⟩
  have h0 := h.len
  have k1 : (tf X T.1).xs.length ≤ T.1.xs.length := List.length_filter_le _ _
  have k2 : (tf X T.2.1).xs.length ≤ T.2.1.xs.length := List.length_filter_le _ _
  have k3 : (tf X T.2.2).xs.length ≤ T.2.2.xs.length := List.length_filter_le _ _
  simp only [sum3] at h0 ⊢; omega
theorem InvS.forgetN {i : Nat} {T S : Tbs} {cur : Nat} (h : InvS i T S cur) (X : Int) {S2 : Tbs} (hS : ∀ k, k < 3 → (get3 S2 k).xs = ntx X (get3 S k).xs) :
    decide (((T.1.xs.length + T.2.1.xs.length + T.2.2.xs.length : Nat) - ((tf X T.1).xs.length + (tf X T.2.1).xs.length + (tf X T.2.2).xs.length : Nat) : Int) = (len3 S : Int) - len3 S2) = true := by
  have e1 := len3_eq h.same
  have e2 := len3_eq (h.forget X hS).same
  simp only [sum3] at e1 e2 ⊢
  rw [← e1, ← e2]
  simp

theorem InvS.mono {i j : Nat} {T S : Tbs} {cur : Nat} (h : InvS i T S cur) (hij : i ≤ j) : InvS j T S cur := ⟨h.cur, Nat.le_trans h.len hij, h.same⟩
theorem InvS.many {i : Nat} {T S : Tbs} {cur K : Nat} (h : InvS i T S cur) (hK : K < 3) (A1 : Option Addr) (c1 : Nat) (A2 : Option Addr) (c2 : Nat) (l : List EventM) : InvS (i + l.length) (set3 T K ⟨A1, c1, (get3 T K).xs ++ l⟩) (set3 S K ⟨A2, c2, (get3 S K).xs ++ l⟩) cur := by
  refine ⟨h.cur, ?_, fun k hk => ?_⟩
  · have : len3 (set3 T K ⟨A1, c1, (get3 T K).xs ++ l⟩) = len3 T + l.length := sum_set3 _ T K _ l.length hK (by simp)
    have := h.len; omega
  · rw [get_set3 T K k _ hK hk, get_set3 S K k _ hK hk]
    split
    · rename_i hkk; subst hkk; simp only [h.same k hk]
    · exact h.same k hk
end Go.Proofs.YthpcahgdobnljaaGreat.Sp
namespace Go.Proofs.YthpcahgdobnljaaGreat.Cu
open Go.RX Go Go.RowKit
structure LikeY (cs : Cs) (ys : List CurV) : Prop where
  perm : (cs.map (·.1)).Perm ys
  rise : Rise ltS CurV.name ys
  nd : (ys.map CurV.name).Nodup
  len : ys.length ≤ 4
theorem names_eq (cs : Cs) : names cs = (cs.map (·.1)).map CurV.name := by simp [names, Function.comp_def]
theorem LikeY.names {cs : Cs} {ys : List CurV} (h : LikeY cs ys) : (Go.Proofs.YthpcahgdobnljaaGreat.Cu.names cs).Nodup := by
  rw [names_eq]; exact (h.perm.map _).nodup_iff.2 h.nd
theorem LikeY.mem {cs : Cs} {ys : List CurV} (h : LikeY cs ys) (k : ByteArray) : k ∈ Go.Proofs.YthpcahgdobnljaaGreat.Cu.names cs ↔ k ∈ ys.map CurV.name := by
  rw [names_eq]; exact (h.perm.map _).mem_iff
theorem LikeY.clen {cs : Cs} {ys : List CurV} (h : LikeY cs ys) : cs.length = ys.length := by have := h.perm.length_eq; simpa using this
theorem LikeY.nil : LikeY [] [] := ⟨List.Perm.nil, List.Pairwise.nil, List.Pairwise.nil, by decide⟩
theorem LikeY.split {cs : Cs} {ys : List CurV} (h : LikeY cs ys) {k : ByteArray} (hk : k ∈ ys.map CurV.name) :
    ∃ cs1 cs2 x q y1 y2, cs = cs1 ++ (x, q) :: cs2 ∧ ys = y1 ++ x :: y2 ∧ x.name = k ∧ ∀ z ∈ y1, z.name ≠ k := by
  obtain ⟨x, hx, rfl⟩ := List.mem_map.1 hk
  obtain ⟨y1, y2, rfl⟩ := List.append_of_mem hx
  have hc := h.perm.mem_iff.2 hx
  obtain ⟨⟨x', q⟩, hc1, hc2⟩ := List.mem_map.1 hc
  obtain ⟨cs1, cs2, rfl⟩ := List.append_of_mem hc1
  obtain rfl : x' = x := hc2
  refine ⟨cs1, cs2, x', q, y1, y2, rfl, rfl, rfl, fun z hz e => ?_⟩
  have hn := h.nd
  rw [List.map_append, List.map_cons, List.nodup_append] at hn
  exact hn.2.2 z.name (List.mem_map_of_mem hz) x'.name (by simp) e
theorem LikeY.set {cs1 cs2 : Cs} {x x' : CurV} {q : Nat} {y1 y2 : List CurV} (h : LikeY (cs1 ++ (x, q) :: cs2) (y1 ++ x :: y2)) (hx : x'.name = x.name) : LikeY (cs1 ++ (x', q) :: cs2) (y1 ++ x' :: y2) := by
  have hmap : (y1 ++ x' :: y2).map CurV.name = (y1 ++ x :: y2).map CurV.name := by simp [hx]
  refine ⟨?_, ?_, by rw [hmap]; exact h.nd, by have := h.len; simp at this ⊢; omega⟩
  · have hp := h.perm
    simp only [List.map_append, List.map_cons] at hp ⊢
    have h1 : (cs1.map (·.1) ++ cs2.map (·.1)).Perm (y1 ++ y2) := List.Perm.cons_inv (a := x) ((List.perm_middle.symm.trans hp).trans List.perm_middle)
    exact List.perm_middle.trans ((h1.cons x').trans List.perm_middle.symm)
  · have hr := h.rise
    unfold Rise at hr ⊢
    have e : ∀ l : List CurV, (l.Pairwise fun a b => ltS b.name a.name = false) ↔ ((l.map CurV.name).Pairwise fun a b => ltS b a = false) := fun l => by rw [List.pairwise_map]
    rw [e] at hr ⊢
    rw [hmap]; exact hr
theorem LikeY.reg {cs : Cs} {ys zs : List CurV} (h : LikeY cs ys) {x : CurV} {q : Nat} (hx : ¬ x.name ∈ ys.map CurV.name) (h4 : ys.length < 4) (hp : (ys ++ [x]).Perm zs) (hr : Rise ltS CurV.name zs) : LikeY (cs ++ [(x, q)]) zs := by
  refine ⟨?_, hr, ?_, ?_⟩
  · rw [List.map_append]
    exact (h.perm.append_right _).trans hp
  · refine (hp.map CurV.name).nodup_iff.1 ?_
    rw [List.map_append, List.nodup_append]
    exact ⟨h.nd, by simp, fun a ha b hb => by
      simp at hb; subst hb; rintro rfl; exact hx ha⟩
  · rw [← hp.length_eq]; simp; omega
theorem LikeY.del {cs1 cs2 : Cs} {x : CurV} {q : Nat} {y1 y2 : List CurV} (h : LikeY (cs1 ++ (x, q) :: cs2) (y1 ++ x :: y2)) : LikeY (delSt x.name (cs1 ++ (x, q) :: cs2)) (y1 ++ y2) := by
  have hn := h.names
  have hd : delSt x.name (cs1 ++ (x, q) :: cs2) = cs1 ++ cs2 := by
    simp only [Go.Proofs.YthpcahgdobnljaaGreat.Cu.names, List.map_append, List.map_cons, List.nodup_append, List.nodup_cons] at hn
    have keep : ∀ l : Cs, (∀ c ∈ l, c.1.name ≠ x.name) → delSt x.name l = l := fun l hl => List.filter_eq_self.2 fun c hc => by simpa using hl c hc
    have a1 := keep cs1 fun c hc e => hn.2.2 c.1.name (List.mem_map_of_mem (f := fun c : CurV × Nat => c.1.name) hc) x.name (by simp) e
    have a2 := keep cs2 fun c hc e => hn.2.1.1 (e ▸ List.mem_map_of_mem (f := fun c : CurV × Nat => c.1.name) hc)
    have : delSt x.name (cs1 ++ (x, q) :: cs2) = delSt x.name cs1 ++ delSt x.name cs2 := by simp [delSt]
    rw [this, a1, a2]
  rw [hd]
  have hsub : (y1 ++ y2).Sublist (y1 ++ x :: y2) := List.Sublist.append_left (List.sublist_cons_self _ _) _
  refine ⟨?_, h.rise.sublist hsub, h.nd.sublist (hsub.map _), by have := hsub.length_le; have := h.len; omega⟩
  have hp := h.perm
  simp only [List.map_append, List.map_cons] at hp ⊢
  exact List.Perm.cons_inv (a := x) ((List.perm_middle.symm.trans hp).trans List.perm_middle)
theorem aget_names (cs : Cs) (k : ByteArray) : (aget k (alOf cs)).isSome = true ↔ k ∈ names cs := by
  rw [← keys_alOf]
  cases h : aget k (alOf cs) with
  | none => simp [aget_none.1 h]
  | some q => simp only [Option.isSome_some, true_iff]; exact List.mem_map.2 ⟨_, aget_mem h, rfl⟩

theorem LikeY.regE {cs : Cs} {ys : List CurV} (h : LikeY cs ys) (k : ByteArray) (n : Int) : regE k n (alOf cs) = regY k n ys := by
  have h1 : ((aget k (alOf cs)).isSome = true) ↔ 0 ≤ fI k ys := by rw [aget_names, h.mem, fI_in]
  have h2 : (alOf cs).length = ys.length := by rw [← h.clen]; simp [alOf]
  unfold Go.Proofs.YthpcahgdobnljaaGreat.Cu.regE regY
  simp only [h1, h2]
theorem LikeY.aget {cs1 cs2 : Cs} {x : CurV} {q : Nat} {ys : List CurV} (h : LikeY (cs1 ++ (x, q) :: cs2) ys) : Go.RX.aget x.name (alOf (cs1 ++ (x, q) :: cs2)) = some q := aget_alOf h.names (c := (x, q)) (by simp)
theorem LikeY.agetN {cs : Cs} {ys : List CurV} (h : LikeY cs ys) {k : ByteArray} (hk : ¬ k ∈ ys.map CurV.name) : Go.RX.aget k (alOf cs) = none := by
  rw [aget_none, keys_alOf, h.mem]; exact hk

end Go.Proofs.YthpcahgdobnljaaGreat.Cu
namespace Go.Proofs.YthpcahgdobnljaaGreat.Rt
open Go.RX Go Go.RowKit
theorem GoodT.drop {i : Nat} {xs : List ItemM} (h : GoodT i xs) (n : Nat) : GoodT i (xs.drop n) :=
  ⟨h.ok.sublist ((List.drop_sublist n xs).map _), riseT_drop h.rise n, by simp; have := h.len; omega⟩
theorem GoodT.left {i : Nat} {xs : List ItemM} (h : GoodT i xs) (o : ByteArray) : GoodT i (leftL o xs) :=
  ⟨h.ok.sublist ((List.filter_sublist (l := xs)).map _), List.Pairwise.sublist (List.filter_sublist (l := xs)) h.rise, Nat.le_trans (List.length_filter_le _ _) h.len⟩
theorem GoodT.mono {i j : Nat} {xs : List ItemM} (h : GoodT i xs) (hij : i ≤ j) : GoodT j xs := ⟨h.ok, h.rise, Nat.le_trans h.len hij⟩

end Go.Proofs.YthpcahgdobnljaaGreat.Rt

/- Plain laws: a queue and the document's, alike: what every act keeps. -/
set_option maxRecDepth 100000
set_option autoImplicit false
set_option linter.unusedVariables false
set_option linter.unusedSimpArgs false
namespace Go.Proofs.YthpcahgdobnljaaGreat
open Go.RX Go Go.RowKit

/-! ### ticks, but for where their numbers stand -/
abbrev tkK (t : Tk.TickM) : Int × Int × List Int × Int := (t.n, t.mx, t.op, t.t)
abbrev KeyS (us ts : List Tk.TickM) : Prop := us.map tkK = ts.map tkK
theorem KeyS.len {us ts : List Tk.TickM} (h : KeyS us ts) : us.length = ts.length := by simpa using congrArg List.length h
theorem KeyS.find {p : Tk.TickM → Bool} (hp : ∀ a b, tkK a = tkK b → p a = p b) : ∀ {us ts : List Tk.TickM}, KeyS us ts → (us.find? p).map tkK = (ts.find? p).map tkK
  | [], [], _ => rfl
  | [], _ :: _, h => by simp [KeyS] at h
  | _ :: _, [], h => by simp [KeyS] at h
  | a :: us, b :: ts, h => by
    have h1 : tkK a = tkK b ∧ KeyS us ts := by simpa [KeyS] using h
    rw [List.find?_cons, List.find?_cons, hp a b h1.1]
    cases p b with
    | true => exact congrArg some h1.1
    | false => exact KeyS.find hp h1.2
theorem isK (q : Int) (a b : Tk.TickM) (h : tkK a = tkK b) : Tk.tkIs q a = Tk.tkIs q b := by
  have : a.n = b.n := congrArg (·.1) h
  simp [Tk.tkIs, this]
theorem aftK (q : Int) (a b : Tk.TickM) (h : tkK a = tkK b) : Tk.tkAft q a = Tk.tkAft q b := by
  have : a.n = b.n := congrArg (·.1) h
  simp [Tk.tkAft, this]
theorem KeyS.fd {us ts : List Tk.TickM} (h : KeyS us ts) {p : Tk.TickM → Bool} (hp : ∀ a b, tkK a = tkK b → p a = p b) : tkK (Tk.fdT p us) = tkK (Tk.fdT p ts) := by
  have := KeyS.find hp h
  unfold Tk.fdT
  cases h1 : us.find? p <;> cases h2 : ts.find? p <;> rw [h1, h2] at this
  · cases this
  · cases this
  · exact Option.some.inj this
theorem KeyS.last {us ts : List Tk.TickM} (h : KeyS us ts) : us.getLast?.map tkK = ts.getLast?.map tkK := by
  rw [← List.getLast?_map, ← List.getLast?_map, h]
theorem KeyS.add {us ts : List Tk.TickM} (h : KeyS us ts) (mx : Int) (op : List Int) (q : Int) : Tk.tkAdd us mx op q = Tk.tkAdd ts mx op q := by
  have hf : Tk.tkFollows us mx op q = Tk.tkFollows ts mx op q := by
    have := h.last
    unfold Tk.tkFollows
    congr 1
    cases h1 : us.getLast? <;> cases h2 : ts.getLast? <;> rw [h1, h2] at this
    · cases this
    · cases this
    · have h3 := Option.some.inj this
      simp only [tkK, Prod.mk.injEq] at h3
      obtain ⟨-, a, b, c⟩ := h3
      simp only [a, b, c]
  unfold Tk.tkAdd
  rw [h.len, hf]
theorem KeyS.snoc {us ts : List Tk.TickM} (h : KeyS us ts) {a b : Tk.TickM} (hab : tkK a = tkK b) : KeyS (us ++ [a]) (ts ++ [b]) := by
  unfold KeyS at h ⊢
  rw [List.map_append, List.map_append, h, List.map_singleton, List.map_singleton, hab]
theorem KeyS.filter {p q : Tk.TickM → Bool} : ∀ {us ts : List Tk.TickM}, KeyS us ts → (∀ a ∈ us, ∀ b ∈ ts, tkK a = tkK b → p a = q b) → KeyS (us.filter p) (ts.filter q)
  | [], [], _, _ => rfl
  | [], _ :: _, h, _ => by simp [KeyS] at h
  | _ :: _, [], h, _ => by simp [KeyS] at h
  | a :: us, b :: ts, h, hp => by
    have h1 : tkK a = tkK b ∧ KeyS us ts := by simpa [KeyS] using h
    have ih := KeyS.filter h1.2 fun x hx y hy => hp x (List.mem_cons_of_mem _ hx) y (List.mem_cons_of_mem _ hy)
    have hab := hp a (List.mem_cons_self ..) b (List.mem_cons_self ..) h1.1
    rw [List.filter_cons, List.filter_cons, hab]
    split
    · show (a :: us.filter p).map tkK = (b :: ts.filter q).map tkK
      rw [List.map_cons, List.map_cons, h1.1]; exact congrArg _ ih
    · exact ih
theorem KeyS.mem {us ts : List Tk.TickM} (h : KeyS us ts) {a : Tk.TickM} (ha : a ∈ us) : ∃ b ∈ ts, tkK a = tkK b := by
  have : tkK a ∈ ts.map tkK := h ▸ List.mem_map_of_mem ha
  obtain ⟨b, hb, e⟩ := List.mem_map.1 this
  exact ⟨b, hb, e.symm⟩
theorem KeyS.fit {us ts : List Tk.TickM} (h : KeyS us ts) (hf : Tk.Fit1 ts) : Tk.Fit1 us := fun a ha => by
  obtain ⟨b, hb, e⟩ := h.mem ha
  simp only [tkK, Prod.mk.injEq] at e
  obtain ⟨-, h2, h3, -⟩ := e
  rw [h2, h3]; exact hf b hb

/-- The numbers of ticks rise; the last one's is the last. -/
structure TkN (ts : List Tk.TickM) (last : Int) : Prop where
  inc : ts.Pairwise fun a b => a.n < b.n
  bd : ∀ t ∈ ts, 1 ≤ t.n ∧ t.n ≤ last
  lst : 0 < last → ∃ t, ts.getLast? = some t ∧ t.n = last
theorem TkN.nil : TkN [] 0 := ⟨List.Pairwise.nil, (fun t ht => by cases ht), fun h => absurd h (by decide)⟩
theorem TkN.put {ts : List Tk.TickM} {last : Int} (h : TkN ts last) (h0 : 0 ≤ last) (t : Tk.TickM) (ht : t.n = last + 1) : TkN (ts ++ [t]) (last + 1) := by
  refine ⟨List.pairwise_append.2 ⟨h.inc, List.pairwise_singleton _ _, fun a ha b hb => ?_⟩, fun a ha => ?_, fun _ => ⟨t, by simp, ht⟩⟩
  · simp at hb; subst hb
    have := (h.bd a ha).2; omega
  · rcases List.mem_append.1 ha with ha | ha
    · have := h.bd a ha; exact ⟨this.1, by omega⟩
    · simp at ha; subst ha; omega
theorem TkN.keep {ts : List Tk.TickM} {last : Int} (h : TkN ts last) {p : Tk.TickM → Bool} (hp : ∀ t ∈ ts, t.n = last → p t = true) : TkN (ts.filter p) last := by
  refine ⟨h.inc.sublist List.filter_sublist, fun t ht => h.bd t (List.mem_filter.1 ht).1, fun h0 => ?_⟩
  obtain ⟨t, h1, h2⟩ := h.lst h0
  have hm := List.mem_of_getLast? h1
  refine ⟨t, ?_, h2⟩
  obtain ⟨l, rfl⟩ : ∃ l, ts = l ++ [t] := List.getLast?_eq_some_iff.1 h1
  rw [List.filter_append, List.filter_cons_of_pos (hp t hm h2)]
  simp
theorem TkN.uniq {ts : List Tk.TickM} {last : Int} (h : TkN ts last) {a b : Tk.TickM} (ha : a ∈ ts) (hb : b ∈ ts) (hab : a.n = b.n) : a = b := by
  obtain ⟨i, hi, rfl⟩ := List.mem_iff_getElem.1 ha
  obtain ⟨j, hj, rfl⟩ := List.mem_iff_getElem.1 hb
  have hp := List.pairwise_iff_getElem.1 h.inc
  rcases Nat.lt_trichotomy i j with hij | rfl | hij
  · have := hp i j hi hj hij; omega
  · rfl
  · have := hp j i hj hi hij; omega
theorem TkN.find {ts : List Tk.TickM} {last : Int} (h : TkN ts last) {t : Tk.TickM} (ht : t ∈ ts) : ts.find? (Tk.tkIs t.n) = some t := by
  cases hf : ts.find? (Tk.tkIs t.n) with
  | none =>
    have := List.find?_eq_none.1 hf t ht
    simp [Tk.tkIs] at this
  | some u =>
    have h1 : u.n = t.n := by simpa [Tk.tkIs] using List.find?_some hf
    exact congrArg some (h.uniq (List.mem_of_find?_eq_some hf) ht h1)

/-! ### cursors -/
theorem foldl_min15 : ∀ (ys : List Cu.CurV) (n : Int), ys.foldl Cu.minF n ≤ n ∧ ∀ x ∈ ys, ys.foldl Cu.minF n ≤ x.last
  | [], n => ⟨Int.le_refl _, fun x hx => by cases hx⟩
  | y :: r, n => by
    obtain ⟨h1, h2⟩ := foldl_min15 r (Cu.minF n y)
    have h3 : Cu.minF n y ≤ n ∧ Cu.minF n y ≤ y.last := by unfold Cu.minF; split <;> omega
    rw [List.foldl_cons]
    refine ⟨by omega, fun x hx => ?_⟩
    rcases List.mem_cons.1 hx with rfl | hx
    · omega
    · exact h2 x hx
theorem low_le {ys : List Cu.CurV} {x : Cu.CurV} (hx : x ∈ ys) : lowL ys ≤ x.last := by
  rw [lowL, if_pos (List.length_pos_of_mem hx)]
  cases ys with
  | nil => cases hx
  | cons y r => exact (foldl_min15 (y :: r) y.last).2 x hx
theorem sameBy_cur {ys zs : List Cu.CurV} (hp : ys.Perm zs) (hn : (ys.map Cu.CurV.name).Nodup) : SameBy Cu.CurV.name ys zs := by
  intro k
  have hf := hp.filter fun x => decide (x.name = k)
  have h1 : ((ys.filter fun x => decide (x.name = k)).map Cu.CurV.name).Nodup := hn.sublist (List.filter_sublist.map _)
  have hall : ∀ x ∈ ys.filter fun x => decide (x.name = k), x.name = k := fun x hx => by simpa using (List.mem_filter.1 hx).2
  generalize (ys.filter fun x => decide (x.name = k)) = F at h1 hall hf ⊢
  match F, h1, hall, hf with
  | [], _, _, hf => exact hf.symm.eq_nil.symm
  | [a], _, _, hf => exact hf.symm.eq_singleton.symm
  | a :: b :: r, h1, hall, _ =>
    have ha := hall a (by simp)
    have hb := hall b (by simp)
    simp [ha, hb] at h1

theorem LikeY.uniq {cs : Cu.Cs} {ys zs : List Cu.CurV} (h : Cu.LikeY cs ys) (hp : zs.Perm (cs.map (·.1))) (hr : Rise ltS Cu.CurV.name zs) : zs = ys :=
  Rise.unique ordS hr h.rise (sameBy_cur (hp.trans h.perm) (((hp.trans h.perm).map Cu.CurV.name).nodup_iff.2 h.nd))

/-! ### all of it -/
def OkTr (e : EventM) : Prop := 0 ≤ e.tries ∧ e.tries ≤ 2147483647
structure PInv (n : Nat) (S : QS) (P : RS) : Prop where
  al : Alike S.s P.R
  rl : P.R.length ≤ n
  o6 : (pos 1 P.R).length ≤ 6
  cur : P.cur = S.cur
  tb : Sp.InvS (20 * n) S.T P.T S.cur
  tk : KeyS P.us S.ts
  tn : TkN S.ts S.last
  fit : Tk.Fit1 S.ts
  lst : P.last = S.last ∧ 0 ≤ S.last ∧ S.last ≤ n
  tl : S.ts.length ≤ 64
  cu : Cu.LikeY S.cs P.ys
  cn : ∀ y ∈ P.ys, (∃ t ∈ S.ts, t.n = y.last) ∧ (0 < y.opn → y.last < y.opn ∧ ∃ t ∈ S.ts, t.n = y.opn) ∧ 0 ≤ y.opn
  xs : P.xs = S.xs
  ok : Rt.OkT S.xs
  ri : Rt.RiseT S.xs
  xl : S.xs.length ≤ 16
  tr : ∀ e ∈ P3 S.T, OkTr e
  tx : ∀ x ∈ S.xs, OkTr x.ev
  nx : P.nx = S.nx ∧ 1 ≤ S.nx ∧ S.nx ≤ n + 1
theorem PInv.up {n : Nat} {S : QS} {P : RS} (h : PInv n S P) : PInv (n + 1) S P :=
  ⟨h.al, by have := h.rl; omega, h.o6, h.cur, h.tb.mono (by omega), h.tk, h.tn, h.fit, ⟨h.lst.1, h.lst.2.1, by have := h.lst.2.2; omega⟩, h.tl, h.cu, h.cn, h.xs, h.ok, h.ri, h.xl, h.tr, h.tx, ⟨h.nx.1, h.nx.2.1, by have := h.nx.2.2; omega⟩⟩
theorem PInv.begin {n : Nat} {S : QS} {P : RS} (h : PInv n S P) (h6 : (pos 1 P.R).length < 6) (A : Option Addr) (c : Nat) : PInv (n + 1) { S with s := begS S.s } { P with RA := A, Rc := c, R := P.R ++ [1] } := by
  have u := h.up
  exact ⟨h.al.begin, by have := h.rl; simp; omega, by rw [pos_append]; simp; omega, u.cur, u.tb, u.tk, u.tn, u.fit, u.lst, u.tl, u.cu, u.cn, u.xs, u.ok, u.ri, u.xl, u.tr, u.tx, u.nx⟩
theorem end_o6 {s : TxS} {R : List Int} {x st : Int} (hal : Alike s (endR R x st)) (hO : s.O.length ≤ 6) : (pos 1 (endR R x st)).length ≤ 6 := by rw [← hal.O]; exact hO
theorem PInv.commit {n : Nat} {S : QS} {P : RS} (h : PInv n S P) {x : Int} (hx : x ∈ pos 1 P.R) : PInv (n + 1) { S with s := comS S.s x } { P with R := endR P.R x 2 } := by
  have u := h.up
  have hl : (endR P.R x 2).length = P.R.length := List.length_set ..
  refine ⟨h.al.commit hx, by rw [hl]; exact u.rl, end_o6 (h.al.commit hx) (Nat.le_trans (List.length_filter_le _ _) (by rw [h.al.O]; exact h.o6)), u.cur, u.tb, u.tk, u.tn, u.fit, u.lst, u.tl, u.cu, u.cn, u.xs, u.ok, u.ri, u.xl, u.tr, u.tx, u.nx⟩
theorem PInv.forget {n : Nat} {S : QS} {P : RS} (h : PInv n S P) (x : Int) {T2 : Sp.Tbs} (hT : ∀ k, k < 3 → (Sp.get3 T2 k).xs = Sp.ntx x (Sp.get3 P.T k).xs) : PInv (n + 1) { S with T := (Sp.tf x S.T.1, Sp.tf x S.T.2.1, Sp.tf x S.T.2.2) } { P with T := T2 } := by
  have u := h.up
  exact ⟨u.al, u.rl, u.o6, u.cur, (h.tb.forget x hT).mono (by omega), u.tk, u.tn, u.fit, u.lst, u.tl, u.cu, u.cn, u.xs, u.ok, u.ri, u.xl, fun e he => h.tr e (List.mem_filter.1 ((P3_forget x S.T) ▸ he)).1, u.tx, u.nx⟩
theorem PInv.abort {n : Nat} {S : QS} {P : RS} (h : PInv n S P) {x : Int} (hx : x ∈ pos 1 P.R) : PInv n { S with s := aboS S.s x } { P with R := endR P.R x 3 } := by
  have hl : (endR P.R x 3).length = P.R.length := List.length_set ..
  exact ⟨h.al.abort hx, by rw [hl]; exact h.rl, end_o6 (h.al.abort hx) (Nat.le_trans (List.length_filter_le _ _) (by rw [h.al.O]; exact h.o6)), h.cur, h.tb, h.tk, h.tn, h.fit, h.lst, h.tl, h.cu, h.cn, h.xs, h.ok, h.ri, h.xl, h.tr, h.tx, h.nx⟩
theorem PInv.cur3 {n : Nat} {S : QS} {P : RS} (h : PInv n S P) : S.cur < 3 ∧ P.cur < 3 := ⟨h.tb.cur, by rw [h.cur]; exact h.tb.cur⟩
theorem PInv.write {n : Nat} {S : QS} {P : RS} (h : PInv n S P) (x tb kd key : Int) (text : ByteArray) (A1 : Option Addr) (c1 : Nat) (A2 : Option Addr) (c2 : Nat) : evW S x tb kd key text = evP P x tb kd key text ∧ PInv (n + 1) { S.put A1 c1 (evW S x tb kd key text) with nx := S.nx + 1 } { P.put A2 c2 (evP P x tb kd key text) with nx := P.nx + 1 } := by
  have u := h.up
  have he : evP P x tb kd key text = evW S x tb kd key text := by simp only [evW, evP, h.nx.1]
  refine ⟨he.symm, ?_⟩
  rw [he]
  have hp := P3_put S.T S.cur h.cur3.1 A1 c1 (evW S x tb kd key text)
  refine ⟨u.al, u.rl, u.o6, u.cur, ?_, u.tk, u.tn, u.fit, u.lst, u.tl, u.cu, u.cn, u.xs, u.ok, u.ri, u.xl, fun e he => ?_, u.tx, ⟨by dsimp only; rw [h.nx.1], by have := h.nx.2.1; dsimp only; omega, by have := h.nx.2.2; dsimp only; omega⟩⟩
  · have := h.tb.put h.cur3.1 A1 c1 A2 c2 (evW S x tb kd key text)
    dsimp only
    rw [h.cur]
    exact this.mono (by omega)
  · rcases List.mem_cons.1 (hp.mem_iff.1 he) with rfl | he
    · exact ⟨Int.le_refl _, by dsimp only; omega⟩
    · exact h.tr e he
theorem PInv.tick {n : Nat} {S : QS} {P : RS} (h : PInv n S P) (hn : n ≤ 1000) (q : Int) (ha : Tk.tkAdd S.ts S.s.next (pos 1 P.R) q = 0) (A1 : Option Addr) (c1 : Nat) (A2 : Option Addr) (c2 : Nat) (A' : Option Addr) (c' : Nat) (B : Option Addr) (d : Nat) : PInv (n + 1) (S.tick A1 c1 A2 c2 P.R q) { P with A := A', c := c', us := P.us ++ [⟨P.last + 1, S.s.next, B, d, pos 1 P.R, q⟩], last := P.last + 1 } := by
  have u := h.up
  have hl := h.lst
  have hnx := h.al.next
  have hrl := h.rl
  have h6 := h.o6
  have h64 : S.ts.length < 64 := by
    unfold Tk.tkAdd at ha
    split at ha
    · exact absurd ha (by decide)
    · omega
  refine ⟨u.al, u.rl, u.o6, u.cur, u.tb, ?_, h.tn.put hl.2.1 _ rfl, ?_, ⟨by dsimp only; rw [hl.1], by dsimp only; omega, by dsimp only; omega⟩, by simp; omega, u.cu, ?_, u.xs, u.ok, u.ri, u.xl, u.tr, u.tx, u.nx⟩
  · exact h.tk.snoc (by simp only [tkK, hl.1])
  · intro t ht
    rcases List.mem_append.1 ht with ht | ht
    · exact h.fit t ht
    · simp at ht; subst ht
      exact ⟨⟨by dsimp only; omega, by dsimp only; omega⟩, by dsimp only; omega⟩
  · intro y hy
    obtain ⟨⟨t, h1, h2⟩, h3, h4⟩ := h.cn y hy
    refine ⟨⟨t, List.mem_append_left _ h1, h2⟩, fun h0 => ?_, h4⟩
    obtain ⟨k1, v, k2, k3⟩ := h3 h0
    exact ⟨k1, v, List.mem_append_left _ k2, k3⟩
end Go.Proofs.YthpcahgdobnljaaGreat

/- Plain laws: a queue and the document's, alike: consumers, retries, tables that turn, ticks that are let go. -/
set_option maxRecDepth 100000
set_option autoImplicit false
set_option linter.unusedVariables false
set_option linter.unusedSimpArgs false
namespace Go.Proofs.YthpcahgdobnljaaGreat
open Go.RX Go Go.RowKit

theorem PInv.register {n : Nat} {S : QS} {P : RS} (h : PInv n S P) (name : ByteArray) (q : Nat) (A : Option Addr) (c : Nat) {zs : List Cu.CurV}
    (hz : (regP P name = 0 ∧ (P.ys ++ [(⟨name, P.last, 0⟩ : Cu.CurV)]).Perm zs ∧ Rise ltS Cu.CurV.name zs) ∨ (regP P name ≠ 0 ∧ zs = P.ys)) : regQ S name = regP P name ∧ PInv (n + 1) (S.reg name q) { P with yA := A, yc := c, ys := zs } := by
  have u := h.up
  have hl := h.lst
  by_cases h0 : S.last = 0
  · have e1 : regP P name = 9 := by rw [regP, if_pos (by rw [hl.1]; exact h0)]
    have e2 : regQ S name = 9 := by rw [regQ, if_pos h0]
    rw [e1] at hz ⊢
    rcases hz with ⟨hz, _⟩ | ⟨_, rfl⟩
    · exact absurd hz (by decide)
    · refine ⟨e2, ?_⟩
      simp only [QS.reg, if_pos h0]
      exact ⟨u.al, u.rl, u.o6, u.cur, u.tb, u.tk, u.tn, u.fit, u.lst, u.tl, u.cu, u.cn, u.xs, u.ok, u.ri, u.xl, u.tr, u.tx, u.nx⟩
  · have e1 : regP P name = Cu.regY name S.last P.ys := by rw [regP, if_neg (by rw [hl.1]; exact h0), hl.1]
    have e2 : regQ S name = Cu.regY name S.last P.ys := by rw [regQ, if_neg h0, h.cu.regE]
    refine ⟨by rw [e1, e2], ?_⟩
    simp only [QS.reg, if_neg h0, Cu.regSt, h.cu.regE]
    rw [e1] at hz
    rcases hz with ⟨hz, hp, hr⟩ | ⟨hz, rfl⟩
    · rw [if_pos hz]
      have hin : ¬ name ∈ P.ys.map Cu.CurV.name ∧ P.ys.length < 4 := by
        unfold Cu.regY at hz
        split at hz
        · exact absurd hz (by decide)
        · split at hz
          · exact absurd hz (by decide)
          · rename_i hf
            split at hz
            · exact absurd hz (by decide)
            · exact ⟨fun hm => hf (Cu.fI_in.2 hm), by omega⟩
      refine ⟨u.al, u.rl, u.o6, u.cur, u.tb, u.tk, u.tn, u.fit, u.lst, u.tl, ?_, fun y hy => ?_, u.xs, u.ok, u.ri, u.xl, u.tr, u.tx, u.nx⟩
      · rw [hl.1] at hp
        exact h.cu.reg (x := ⟨name, S.last, 0⟩) hin.1 hin.2 hp hr
      · rcases List.mem_append.1 (hp.mem_iff.2 hy) with hy | hy
        · exact h.cn y hy
        · simp at hy; subst hy
          obtain ⟨t, h1, h2⟩ := h.tn.lst (by have := hl.2.1; omega)
          exact ⟨⟨t, List.mem_of_getLast? h1, by rw [h2, hl.1]⟩, fun h0 => absurd h0 (by dsimp only; decide), Int.le_refl _⟩
    · rw [if_neg hz]
      exact ⟨u.al, u.rl, u.o6, u.cur, u.tb, u.tk, u.tn, u.fit, u.lst, u.tl, u.cu, u.cn, u.xs, u.ok, u.ri, u.xl, u.tr, u.tx, u.nx⟩
theorem PInv.leave {n : Nat} {S : QS} {P : RS} (h : PInv n S P) {cs1 cs2 : Cu.Cs} {x : Cu.CurV} {q : Nat} {y1 y2 : List Cu.CurV} (hcs : S.cs = cs1 ++ (x, q) :: cs2) (hys : P.ys = y1 ++ x :: y2) (A1 : Option Addr) (c1 : Nat) (A2 : Option Addr) (c2 : Nat) :
    PInv (n + 1) (S.unr x.name) { P with yA := A1, yc := c1, ys := y1 ++ y2, xA := A2, xc := c2, xs := Rt.leftL x.name P.xs } := by
  have u := h.up
  have hcu := h.cu
  rw [hcs, hys] at hcu
  have hag : (aget x.name (Cu.alOf S.cs)).isSome = true := by rw [hcs, hcu.aget]; rfl
  simp only [QS.unr, if_pos hag]
  have hg : Rt.GoodT 16 S.xs := ⟨h.ok, h.ri, h.xl⟩
  have hg2 := hg.left x.name
  refine ⟨u.al, u.rl, u.o6, u.cur, u.tb, u.tk, u.tn, u.fit, u.lst, u.tl, ?_, fun y hy => ?_, by dsimp only; rw [h.xs], hg2.ok, hg2.rise, hg2.len, u.tr, fun z hz => h.tx z (List.mem_filter.1 hz).1, u.nx⟩
  · dsimp only; rw [hcs]; exact hcu.del
  · refine h.cn y ?_
    rw [hys]
    rcases List.mem_append.1 hy with hy | hy
    · exact List.mem_append_left _ hy
    · exact List.mem_append_right _ (List.mem_cons_of_mem _ hy)
theorem PInv.leaveN {n : Nat} {S : QS} {P : RS} (h : PInv n S P) {name : ByteArray} (hk : ¬ name ∈ P.ys.map Cu.CurV.name) : PInv (n + 1) (S.unr name) P := by
  have u := h.up
  have hag : ¬ (aget name (Cu.alOf S.cs)).isSome = true := by rw [h.cu.agetN hk]; simp
  have hd : Cu.delSt name S.cs = S.cs := List.filter_eq_self.2 fun c hc => by
    have : c.1.name ∈ Cu.names S.cs := List.mem_map_of_mem (f := fun c : Cu.CurV × Nat => c.1.name) hc
    rw [h.cu.mem] at this
    simp; rintro rfl; exact hk this
  simp only [QS.unr, if_neg hag, hd]
  exact ⟨u.al, u.rl, u.o6, u.cur, u.tb, u.tk, u.tn, u.fit, u.lst, u.tl, u.cu, u.cn, u.xs, u.ok, u.ri, u.xl, u.tr, u.tx, u.nx⟩
theorem PInv.setC {n : Nat} {S : QS} {P : RS} (h : PInv n S P) {cs1 cs2 : Cu.Cs} {x x' : Cu.CurV} {q : Nat} {y1 y2 : List Cu.CurV} (hcs : S.cs = cs1 ++ (x, q) :: cs2) (hys : P.ys = y1 ++ x :: y2) (hx : x'.name = x.name)
    (hc : (∃ t ∈ S.ts, t.n = x'.last) ∧ (0 < x'.opn → x'.last < x'.opn ∧ ∃ t ∈ S.ts, t.n = x'.opn) ∧ 0 ≤ x'.opn) (A : Option Addr) (c : Nat) :
    PInv (n + 1) { S with cs := cs1 ++ (x', q) :: cs2 } { P with yA := A, yc := c, ys := y1 ++ x' :: y2 } := by
  have u := h.up
  have hcu := h.cu
  rw [hcs, hys] at hcu
  refine ⟨u.al, u.rl, u.o6, u.cur, u.tb, u.tk, u.tn, u.fit, u.lst, u.tl, hcu.set hx, fun y hy => ?_, u.xs, u.ok, u.ri, u.xl, u.tr, u.tx, u.nx⟩
  rcases List.mem_append.1 hy with hy | hy
  · exact h.cn y (by rw [hys]; exact List.mem_append_left _ hy)
  · rcases List.mem_cons.1 hy with rfl | hy
    · exact hc
    · exact h.cn y (by rw [hys]; exact List.mem_append_right _ (List.mem_cons_of_mem _ hy))
theorem triesOk {e : EventM} (h : OkTr e) : 0 ≤ Rt.triesUp e.tries ∧ Rt.triesUp e.tries ≤ 2147483647 := by
  obtain ⟨h1, h2⟩ := h
  unfold Rt.triesUp; split <;> omega
theorem PInv.retry {n : Nat} {S : QS} {P : RS} (h : PInv n S P) {e : EventM} (he : OkTr e) {o : ByteArray} {at_ : Int} {us : List Rt.ItemM} (hA : Rt.AddT S.xs e o at_ us) (A1 : Option Addr) (c1 : Nat) (A2 : Option Addr) (c2 : Nat) :
    PInv (n + 1) { S with rA := A1, rc := c1, xs := us } { P with xA := A2, xc := c2, xs := us } := by
  have u := h.up
  obtain ⟨k1, k2, k3, k4⟩ := hA.ok h.ok h.ri
  refine ⟨u.al, u.rl, u.o6, u.cur, u.tb, u.tk, u.tn, u.fit, u.lst, u.tl, u.cu, u.cn, rfl, k1, k2, ?_, u.tr, fun x hx => ?_, u.nx⟩
  · have hx := h.xl
    by_cases h0 : Rt.addE S.xs e o = 0
    · have := k3 h0
      have h16 : S.xs.length < 16 := by
        unfold Rt.addE at h0
        split at h0
        · exact absurd h0 (by decide)
        · split at h0
          · exact absurd h0 (by decide)
          · split at h0
            · exact absurd h0 (by decide)
            · omega
      dsimp only; omega
    · dsimp only; rw [k4 h0]; exact hx
  · rcases hA with ⟨_, hp, _⟩ | ⟨_, rfl⟩
    · rcases List.mem_append.1 (hp.mem_iff.2 hx) with hx | hx
      · exact h.tx x hx
      · simp at hx; subst hx
        exact triesOk he
    · exact h.tx x hx
theorem dueL_mem {now : Int} {xs : List Rt.ItemM} {e : EventM} (he : e ∈ Rt.dueL now xs) : ∃ x ∈ xs, x.ev = e := by
  obtain ⟨x, hx, rfl⟩ := List.mem_map.1 he
  exact ⟨x, (List.mem_filter.1 hx).1, rfl⟩
theorem P3_many (T : Sp.Tbs) (k : Nat) (hk : k < 3) (A : Option Addr) (c : Nat) (l : List EventM) {e : EventM} (he : e ∈ P3 (Sp.set3 T k ⟨A, c, (Sp.get3 T k).xs ++ l⟩)) : e ∈ P3 T ∨ e ∈ l := by
  have hk' : k = 0 ∨ k = 1 ∨ k = 2 := by omega
  rcases hk' with rfl | rfl | rfl <;> simp [P3, Sp.pre3, Sp.set3, Sp.get3, Sp.pick3] at he ⊢ <;> rcases he with he | he | he | he <;> simp [he]
theorem PInv.maint {n : Nat} {S : QS} {P : RS} (h : PInv n S P) (x now : Int) (A' : Option Addr) (c' : Nat) (A2 : Option Addr) (c2 : Nat) (B' : Option Addr) (d' : Nat) (B2 : Option Addr) (d2 : Nat) :
    PInv (n + 1) (S.mt x now A' c' A2 c2) (P.mt x now B' d' B2 d2) := by
  have u := h.up
  have hdl := Rt.dueL_len now S.xs
  have hx := h.xl
  have hg : Rt.GoodT 16 S.xs := ⟨h.ok, h.ri, h.xl⟩
  have hg2 := hg.drop (Rt.dueL now S.xs).length
  refine ⟨u.al, u.rl, u.o6, u.cur, ?_, u.tk, u.tn, u.fit, u.lst, u.tl, u.cu, u.cn, by dsimp only; rw [h.xs], hg2.ok, hg2.rise, hg2.len, fun e he => ?_, fun z hz => h.tx z (List.mem_of_mem_drop hz), u.nx⟩
  · have := h.tb.many h.cur3.1 A2 c2 B2 d2 (mtL x (Rt.dueL now S.xs))
    dsimp only
    rw [h.cur, h.xs]
    exact this.mono (by rw [mtL_len]; omega)
  · rcases P3_many S.T S.cur h.cur3.1 A2 c2 _ he with he | he
    · exact h.tr e he
    · obtain ⟨d, hd, rfl⟩ := List.mem_map.1 he
      obtain ⟨z, hz, rfl⟩ := dueL_mem hd
      exact h.tx z hz
theorem PInv.turn {n : Nat} {S : QS} {P : RS} (h : PInv n S P) : PInv (n + 1) { S with cur := Sp.nxt S.cur } { P with cur := Sp.nxt P.cur } := by
  have u := h.up
  exact ⟨u.al, u.rl, u.o6, by dsimp only; rw [h.cur], ⟨nxt_lt _, u.tb.len, u.tb.same⟩, u.tk, u.tn, u.fit, u.lst, u.tl, u.cu, u.cn, u.xs, u.ok, u.ri, u.xl, u.tr, u.tx, u.nx⟩
theorem P3_clear (T : Sp.Tbs) (k : Nat) (hk : k < 3) {e : EventM} (he : e ∈ P3 (Sp.set3 T k Sp.noTb)) : e ∈ P3 T := by
  have hk' : k = 0 ∨ k = 1 ∨ k = 2 := by omega
  rcases hk' with rfl | rfl | rfl <;> simp [P3, Sp.pre3, Sp.set3, Sp.noTb] at he ⊢ <;> rcases he with he | he <;> simp [he]
theorem PInv.clear {n : Nat} {S : QS} {P : RS} (h : PInv n S P) : PInv (n + 1) { S with T := Sp.set3 S.T (Sp.nxt S.cur) Sp.noTb } { P with T := Sp.set3 P.T (Sp.nxt P.cur) Sp.noTb } := by
  have u := h.up
  refine ⟨u.al, u.rl, u.o6, u.cur, ?_, u.tk, u.tn, u.fit, u.lst, u.tl, u.cu, u.cn, u.xs, u.ok, u.ri, u.xl, fun e he => h.tr e (P3_clear _ _ (nxt_lt _) he), u.tx, u.nx⟩
  dsimp only
  rw [h.cur]
  exact (h.tb.clear (nxt_lt S.cur)).mono (by omega)
theorem PInv.trim {n : Nat} {S : QS} {P : RS} (h : PInv n S P) (A : Option Addr) (c : Nat) :
    (S.ts.length : Int) - (trimTs S (lowL P.ys)).length = (P.us.length : Int) - (P.us.filter (Tk.keepR (lowL P.ys) P.last)).length ∧
    PInv (n + 1) { S with ts := trimTs S (lowL P.ys) } { P with A := A, c := c, us := P.us.filter (Tk.keepR (lowL P.ys) P.last) } := by
  have u := h.up
  have hk : KeyS (P.us.filter (Tk.keepR (lowL P.ys) P.last)) (trimTs S (lowL P.ys)) := by
    refine KeyS.filter h.tk fun a ha b hb hab => ?_
    have h1 : a.n = b.n := congrArg (·.1) hab
    have h2 := (h.tn.bd b hb).2
    simp only [Tk.keepR, Tk.tkGone, h1, h.lst.1]
    by_cases g1 : lowL P.ys ≤ b.n <;> by_cases g2 : b.n = S.last <;> simp [g1, g2] <;> omega
  have hstay : ∀ {m : Int} {y : Cu.CurV}, y ∈ P.ys → y.last ≤ m → (∃ t ∈ S.ts, t.n = m) → ∃ t ∈ trimTs S (lowL P.ys), t.n = m := fun {m y} hy hm ⟨t, ht, htn⟩ => by
    refine ⟨t, List.mem_filter.2 ⟨ht, ?_⟩, htn⟩
    have := low_le hy
    simp [Tk.tkGone]; left; omega
  refine ⟨by rw [hk.len, h.tk.len], u.al, u.rl, u.o6, u.cur, u.tb, hk, ?_, fun t ht => h.fit t (List.mem_filter.1 ht).1, u.lst, Nat.le_trans (List.length_filter_le _ _) h.tl, u.cu, fun y hy => ?_, u.xs, u.ok, u.ri, u.xl, u.tr, u.tx, u.nx⟩
  · exact h.tn.keep fun t ht hn => by simp [Tk.tkGone, hn]
  · obtain ⟨h1, h2, h3⟩ := h.cn y hy
    refine ⟨hstay hy (Int.le_refl _) h1, fun h0 => ?_, h3⟩
    obtain ⟨k1, k2⟩ := h2 h0
    exact ⟨k1, hstay hy (by omega) k2⟩

/-! ### what both answer -/
theorem PInv.batch {n : Nat} {S : QS} {P : RS} (h : PInv n S P) {y : Cu.CurV} {ys zs : List EventM} (h1 : BatE S y ys) (h2 : BatP P y zs) : zs = ys := by
  obtain ⟨l1, B1, d1, B2, d2, hz, hy⟩ := h1
  obtain ⟨l2, gz, gy⟩ := h2
  have e0 : Sp.pre3 P.T.1 P.T.2.1 P.T.2.2 3 = Sp.pre3 S.T.1 S.T.2.1 S.T.2.2 3 := (Sp.pre3_eq h.tb.same).symm
  rw [e0] at gz
  have e1 : l2 = l1 := Rise.unique ordI gz.2.1 hz.2.1 (gz.1.symm.trans hz.1)
  subst e1
  have k1 := h.tk.fd (isK y.last)
  have k2 := h.tk.fd (isK y.opn)
  simp only [tkK, Prod.mk.injEq] at k1 k2
  have e : l2.filter (Bt.rofP (rState P.R) (snT (Tk.fdT (Tk.tkIs y.last) P.us)) (snT (Tk.fdT (Tk.tkIs y.opn) P.us)) y.name) = l2.filter (Bt.bofP (stE S.s) ⟨(Tk.fdT (Tk.tkIs y.last) S.ts).mx, B1, d1, (Tk.fdT (Tk.tkIs y.last) S.ts).op⟩ ⟨(Tk.fdT (Tk.tkIs y.opn) S.ts).mx, B2, d2, (Tk.fdT (Tk.tkIs y.opn) S.ts).op⟩ y.name) := by
    congr 1; funext e
    rw [Bt.rofP_eq]
    simp only [Bt.bofP, Bt.SnM.sees, snT, k1.2.1, k1.2.2.1, k2.2.1, k2.2.2.1, h.al.cons]
  rw [e] at gy
  exact Rise.unique ordI gy.2.1 hy.2.1 (gy.1.symm.trans hy.1)
theorem needs_key {st : Int → Int} {sn sm : List Bt.SnM} (h : sn.map snk = sm.map snk) (e : EventM) : Bt.needsB st sn e = Bt.needsB st sm e := by
  have : ∀ l : List Bt.SnM, (l.any fun x => !x.sees e.tx) = (l.map snk).any fun p => !snSees p.1 p.2 e.tx := fun l => by
    rw [List.any_map]; rfl
  unfold Bt.needsB
  rw [this sn, this sm, h]
theorem PInv.want {n : Nat} {S : QS} {P : RS} (h : PInv n S P) : (wantP P.us P.ys).map snk = wantL S.ts S.last P.ys := by
  unfold wantP wantL
  rw [List.map_append, List.map_map]
  congr 1
  · refine List.map_congr_left fun y hy => ?_
    have := h.tk.fd (isK y.last)
    simp only [tkK, Prod.mk.injEq] at this
    simp only [Function.comp, snk, snT, tkk, this.2.1, this.2.2.1]
  · have hk := h.tk.last
    by_cases h0 : 0 < S.last
    · obtain ⟨t, ht, hn⟩ := h.tn.lst h0
      have hf := h.tn.find (List.mem_of_getLast? ht)
      rw [hn] at hf
      rw [ht] at hk
      cases hu : P.us.getLast? with
      | none => rw [hu] at hk; cases hk
      | some v =>
        rw [hu] at hk
        have h3 := Option.some.inj hk
        simp only [tkK, Prod.mk.injEq] at h3
        rw [hf, if_pos (show (some t).isSome = true from rfl), Tk.fdT, hf]
        simp only [List.map_cons, List.map_nil, snk, snT, tkk, h3.2.1, h3.2.2.1, Option.getD_some]
    · have hts : S.ts = [] := by
        rw [List.eq_nil_iff_forall_not_mem]
        intro t ht
        have := h.tn.bd t ht; omega
      have hus : P.us = [] := by
        have := h.tk.len
        rw [hts] at this
        exact List.eq_nil_of_length_eq_zero this
      rw [hts, hus]
      rfl
theorem PInv.free {n : Nat} {S : QS} {P : RS} (h : PInv n S P) {b : Bool} (hF : FreeV S b) : Bt.freeB (rState P.R) (wantP P.us P.ys) (Sp.get3 P.T (Sp.nxt P.cur)).xs = b := by
  obtain ⟨ys, sn, hp, hr, hsn, rfl⟩ := hF
  obtain rfl := LikeY.uniq h.cu hp hr
  rw [h.al.cons, h.cur, ← h.tb.same _ (nxt_lt _)]
  unfold Bt.freeB
  congr 2
  funext e
  exact needs_key (h.want.trans hsn.symm) e
end Go.Proofs.YthpcahgdobnljaaGreat
