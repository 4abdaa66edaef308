/- The law HeapTruncates: what its run comes to. -/
import Derived.Test.YtobffgjilojpfaaL07
import Derived.Test.YtobffgjilojpfaaHeapQ
set_option maxRecDepth 100000
set_option autoImplicit false
set_option linter.unusedVariables false
set_option linter.unusedSimpArgs false
namespace Go.Proofs.Ytobffgjilojpfaa
open Go.RX Go Go.RowKit

theorem tmod_btw (n : Int) (k : Int) (hk : 0 < k) : -k < n.tmod k ∧ n.tmod k < k := by
  refine ⟨?_, Int.tmod_lt_of_pos n hk⟩
  by_cases h : 0 ≤ n
  · have := Int.tmod_nonneg k h; omega
  · have h1 := Int.tmod_lt_of_pos (-n) hk
    rw [Int.neg_tmod] at h1; omega
abbrev tE : ByteArray := ⟨#[]⟩
theorem insE_free {st : Int → Int} {v : VwM} {vs : List VerM} {key : Int} (hst : st v.own = 1) (hk : ∀ x ∈ vs, x.key ≠ key) : insE st v vs key = 0 := by
  have h1 : vs.any (findP st v key) = false := List.any_eq_false.2 fun x hx => by simp [findP, hk x hx]
  have h2 : vs.any (insP st v key) = false := List.any_eq_false.2 fun x hx => by simp [insP, hk x hx]
  rw [insE, if_pos hst, h1, h2]; rfl
theorem insVs_cases (st : Int → Int) (v : VwM) (vs : List VerM) (r : RowM) : insVs st v vs r = vs ∨ (vs.any (findP st v r.key) = false ∧ insVs st v vs r = vs ++ [⟨r.key, r.text, v.own, 0⟩]) := by
  unfold insVs
  split
  · rename_i h
    refine .inr ⟨?_, rfl⟩
    unfold insE at h
    cases hh : vs.any (findP st v r.key) with
    | false => rfl
    | true => rw [hh] at h; split at h <;> simp at h
  · exact .inl rfl
theorem SrtS.one {x : RowM} {zs : List RowM} (h : SrtS [x] zs) : zs = [x] := h.unique ⟨SameBy.refl _ _, by simp [Rise], rfl⟩
/-- What the first one has left. -/
structure FstK (n : Nat) (vs : List VerM) : Prop where
  len : vs.length ≤ n
  one : ∀ x ∈ vs, x.born = 1 ∧ x.died = 0
  key : ∀ x ∈ vs, -50 < x.key ∧ x.key < 50
  nd : (vs.map VerM.key).Nodup
theorem FstK.up {n : Nat} {vs : List VerM} (h : FstK n vs) : FstK (n + 1) vs := ⟨by have := h.len; omega, h.one, h.key, h.nd⟩
theorem FstK.ins {st : Int → Int} {v : VwM} {n : Nat} {vs : List VerM} (h : FstK n vs) (hv : v.own = 1) {r : RowM} (hr : -50 < r.key ∧ r.key < 50) : FstK (n + 1) (insVs st v vs r) := by
  rcases insVs_cases st v vs r with e | ⟨hn, e⟩
  · rw [e]; exact h.up
  · rw [e, hv]
    have hl := h.len
    refine ⟨by simp; omega, fun x hx => ?_, fun x hx => ?_, ?_⟩
    · rcases List.mem_append.1 hx with hx | hx
      · exact h.one x hx
      · simp at hx; subst hx; exact ⟨rfl, rfl⟩
    · rcases List.mem_append.1 hx with hx | hx
      · exact h.key x hx
      · simp at hx; subst hx; exact hr
    · rw [List.map_append, List.nodup_append]
      refine ⟨h.nd, by simp, fun a ha b hb => ?_⟩
      simp at hb; subst hb
      obtain ⟨x, hx, rfl⟩ := List.mem_map.1 ha
      intro he
      have := List.any_eq_false.1 hn x hx
      obtain ⟨h1, h2⟩ := h.one x hx
      exact this (by simp [findP, seesP, didP, h1, h2, hv, he])
/-- With what the two others have put. -/
abbrev allK (vs : List VerM) (K L : Int) : List VerM := (vs ++ [⟨K, tE, 3, 0⟩]) ++ [⟨L, tE, 2, 0⟩]
abbrev vw2 (S : Option Addr) (d : Nat) : VwM := ⟨3, S, d, [2], 2⟩
abbrev s4 : TxS := ⟨4, [2, 3], [1]⟩
theorem allK_died {n : Nat} {vs : List VerM} (h : FstK n vs) {K L : Int} : ∀ x ∈ allK vs K L, x.died = 0 := fun x hx => by
  simp at hx
  rcases hx with hx | rfl | rfl
  · exact (h.one x hx).2
  · rfl
  · rfl
theorem trunc_tru {n : Nat} {vs : List VerM} (h : FstK n vs) {K L : Int} {S : Option Addr} {d : Nat} : (allK vs K L).any (truP (stE s4) (vw2 S d)) = false := List.any_eq_false.2 fun x hx => by
  simp [truP, othP, allK_died h x hx, stE]
theorem trunc_nd {n : Nat} {vs : List VerM} (h : FstK n vs) {K L : Int} (hK : 90 < K ∧ K < 110) (hL : 200 ≤ L) : ((allK vs K L).map VerM.key).Nodup := by
  have hin : ∀ a ∈ vs.map VerM.key, a < 50 := fun a ha => by
    obtain ⟨x, hx, rfl⟩ := List.mem_map.1 ha
    exact (h.key x hx).2
  rw [List.map_append, List.nodup_append]
  refine ⟨?_, by simp, fun a ha b hb => ?_⟩
  · rw [List.map_append, List.nodup_append]
    refine ⟨h.nd, by simp, fun a ha b hb => ?_⟩
    simp at hb; subst hb
    have := hin a ha; omega
  · simp at hb; subst hb
    rw [List.map_append] at ha
    rcases List.mem_append.1 ha with ha | ha
    · have := hin a ha; omega
    · simp at ha; subst ha; omega
theorem strict_of {st : Int → Int} {v : VwM} {vs : List VerM} {ys : List RowM} (hn : (vs.map VerM.key).Nodup) (hy : SrtS (seenL st v vs) ys) {i j : Nat} {a b : RowM} (ha : ys[i]? = some a) (hb : ys[j]? = some b) (hij : i < j) : a.key < b.key := by
  have h1 : ((seenL st v vs).map RowM.key).Nodup := by
    have e : (seenL st v vs).map RowM.key = (vs.filter (seesP st v)).map VerM.key := by rw [seenL, List.map_map]; rfl
    rw [e]
    exact List.Nodup.sublist (List.Sublist.map _ List.filter_sublist) hn
  have h2 : (ys.map RowM.key).Nodup := (sameBy_keys hy.1).nodup_iff.1 h1
  have h3 := List.pairwise_iff_getElem.1 hy.2.1
  have h4 := List.pairwise_iff_getElem.1 (List.pairwise_map.1 h2)
  obtain ⟨e1, rfl⟩ := List.getElem?_eq_some_iff.1 ha
  obtain ⟨e2, rfl⟩ := List.getElem?_eq_some_iff.1 hb
  have h5 := h3 i j e1 e2 hij
  have h6 := h4 i j e1 e2 hij
  simp [ltI] at h5
  omega
theorem trunc_left {n : Nat} {vs : List VerM} (h : FstK n vs) {K L : Int} {S S' : Option Addr} {d d' : Nat} :
    seenL (stE ⟨4, [], [1, 2, 3]⟩) ⟨4, S', d', [], 0⟩ ((allK vs K L).map (endV (stE s4) (vw2 S d))) = [⟨K, tE⟩] := by
  have h0 : (vs.map (endV (stE s4) (vw2 S d))).filter (seesP (stE ⟨4, [], [1, 2, 3]⟩) ⟨4, S', d', [], 0⟩) = [] := List.filter_eq_nil_iff.2 fun y hy => by
    obtain ⟨x, hx, rfl⟩ := List.mem_map.1 hy
    obtain ⟨k, t, b, e⟩ := x
    obtain ⟨rfl, rfl⟩ : b = 1 ∧ e = 0 := h.one _ hx
    simp [endV, seesP, didP, snSees, stE]
  rw [seenL, List.map_append, List.map_append, List.filter_append, List.filter_append, h0]
  simp [endV, seesP, didP, snSees, stE, rowOf]
set_option maxHeartbeats 16000000 in
theorem l07_HeapTruncates (A0 : Option Addr) (c0 : Nat) (keys : List Int) (mine other : Int) (w0 : World) (hr : RdW w0 A0 (keys.flatMap (encI .i64))) (h1 : 0 ≤ mine ∧ mine ≤ 255) :
    Calls Try.prog 3 #[.slice A0 keys.length c0, .int .u8 mine, .int .i64 other] w0 fun e w' => e = .returned (.bool true) ∧ BelowD w0.heap.size w0 w' := by
  refine enterP (tab := tab) Try.func3 rfl Try.ntmps3 rfl (args := [_, _, _]) rfl ?_
  refine VC_sound tabOk 100 ?_
  refine Go_ops rfl (OpTo_pcall (v := .bool true) rfl rfl rfl rfl rfl (by kernel_rfl) (fun w hm _ => l07_clash w) ?_)
  refine VC_sound tabOk 100 ?_
  refine ⟨fun h => by first | (simp at h; done) | (simp at h; omega) | (simp_all; done), fun _ => ?_⟩
  refine ⟨fun hc => ?_, fun hc => ?_⟩
  · refine Go_ops rfl (OpTo_pcall (v := .bool true) rfl rfl rfl rfl rfl (by kernel_rfl) (fun w hm _ => l07_clash w) ?_)
    refine VC_sound tabOk 100 ?_
    rfl
  have hl30 : keys.length ≤ 30 := by have := of_decide_eq_false hc; omega
  show Go _ _ _ _
  refine Go_ops rfl (OpTo_ncall rfl rfl rfl rfl rfl (by kernel_rfl) (fun w hm _ => txn_new w) ?_)
  rintro _ _ ⟨m, b1, b2, rfl, rfl⟩
  refine VC_sound tabOk 100 ?_
  show Go _ _ _ _
  refine Go_ops rfl (OpTo_ncall rfl rfl rfl rfl rfl (by kernel_rfl) (fun w hm _ => hp_new _ w) ?_)
  rintro _ _ ⟨h, rfl, rfl⟩
  refine VC_sound tabOk 100 ?_
  refine Go_res (txB m b1 b2 ⟨1, [], []⟩ ++ hpR h m none 0 []) (fun _ h => (h.own_nil (enc := encV) (k := 4) (T := 76) none).sel [2, 3, 4, 1, 0] rfl) ?_
  show Go _ _ _ _
  refine Go_ops rfl (OpTo_mcall (txB m b1 b2 ⟨1, [], []⟩) (hpR h m none 0 []) (List.Perm.of_eq rfl) rfl rfl rfl rfl rfl (by kernel_rfl) (fun w hb hm hio hsp k => txn_begin_ok m b1 b2 ⟨1, [], []⟩ ⟨by decide, by decide⟩ (by decide) (by simp) w _ k) ?_)
  rintro _ _ ⟨rfl, rfl⟩
  refine VC_sound tabOk 100 ?_
  show Go _ _ _ _
  refine Go_ops rfl (OpTo_mcall (txB m b1 b2 ⟨2, [1], []⟩) (hpR h m none 0 []) (List.Perm.of_eq rfl) rfl rfl rfl rfl rfl (by kernel_rfl) (fun w hb hm hio hsp k => txn_now m b1 b2 ⟨2, [1], []⟩ (by decide) w _ k) ?_)
  rintro _ _ ⟨S1, d1, ks1, rfl, hp1, hr1, rfl⟩
  obtain rfl := List.Perm.eq_singleton hp1
  refine VC_sound tabOk 100 ?_
  intro b11 _
  (repeat (first | refine Or.inl ⟨rfl, rfl, ?_⟩ | refine Or.inl ⟨rfl, ?_⟩ | refine Or.inr ?_))
  refine Go_loop (σ := Nat × Option Addr × Nat × List VerM) (fun u => [(0, .v (.slice A0 keys.length c0)), (1, .v (.int .u8 mine)), (2, .v (.int .i64 other)), (7, .v (.pointer (some ⟨m, 0, none⟩))), (8, .v (.pointer (some ⟨h, 0, none⟩))), (9, .v (.int .i64 1)), (11, .v (.pointer (some ⟨b11, 0, none⟩))), (12, .v (.int .i64 u.1))]) (fun u => hpX h m b1 b2 ⟨2, [1], []⟩ u.2.1 u.2.2.1 u.2.2.2 ++ [.blk b11 35 (VwM.cs ⟨2, S1, d1, [1], 1⟩), own (encI .i64) 1 2 S1 d1 [1]]) (fun u => u.1 ≤ keys.length ∧ FstK u.1 u.2.2.2) (fun u => keys.length - u.1) (0, none, 0, []) ⟨Nat.zero_le _, Nat.le_refl _, by simp, by simp, by simp⟩ ⟨rfl, rfl, rfl, rfl, rfl, rfl, rfl, rfl, trivial⟩ (fun _ h => h.sel [5, 6, 2, 3, 4, 0, 1] rfl) ?_
  rintro ⟨i, A, c, vs⟩ ⟨hi, hF⟩
  dsimp only at hi hF ⊢
  have hvl := hF.len
  by_cases hlt : i < keys.length
  · obtain ⟨bk, ok, rfl⟩ := RdW.some (RX.encI_is .i64) hr (ne_nil_of_lt hlt)
    obtain ⟨k0, hgk⟩ : ∃ k0, keys[i]? = some k0 := ⟨_, List.getElem?_eq_getElem hlt⟩
    refine VC_sound tabOk 100 ?_
    refine ⟨fun _ => ?_, fun h => by first | (simp at h; done) | (simp at h; omega) | (simp_all; done)⟩
    show Go _ _ _ _
    refine Go_any mixed [8] [(0, false), (2, false), (3, false), (4, false), (1, false), (5, false), (6, false), (7, false), (8, true)] rfl (by kernel_rfl) (by kernel_rfl) [.blk b11 35 (VwM.cs ⟨2, S1, d1, [1], 1⟩)] (fun w => RdW w (some ⟨bk, ok, none⟩) (keys.flatMap (encI .i64))) (fun w w' hk h => h.old hk) (fun w hm _ => ⟨Holds.of_idx [5] hm, hr.mod hm⟩) ?_
    refine VC_sound tabOk 100 ?_
    refine ⟨⟨by omega, by omega⟩, ?_⟩
    (repeat (first | refine Or.inl ⟨rfl, rfl, ?_⟩ | refine Or.inl ⟨rfl, ?_⟩ | refine Or.inr ?_))
    refine Go_first (v := .int .i64 k0) rfl rfl rfl rfl (fun w _ hw => rxLoadRow tabOk rfl (RX.encI_is .i64) rfl (fun h => rfl) hw hgk (by simp only [addA]; rfl) rfl) ?_
    refine VC_sound tabOk 100 ?_
    refine ⟨by decide, _, rfl, ?_⟩
    refine Go_aloneM rfl rfl rfl (OpTo_mcall (hpX h m b1 b2 ⟨2, [1], []⟩ A c vs) [.blk b11 35 (VwM.cs ⟨2, S1, d1, [1], 1⟩), own (encI .i64) 1 2 S1 d1 [1]] (List.Perm.of_eq rfl) rfl rfl rfl rfl rfl (by kernel_rfl) (fun w hb hm hio hsp k => hp_insert h m b1 b2 ⟨2, [1], []⟩ A c vs ⟨2, S1, d1, [1], 1⟩ ⟨k0.tmod 50, tE⟩ (by omega) (by simp) w _ k (RdF.of_split hsp fun Rs w h => h.own_behind (i := 1) rfl)) ?_)
    rintro _ _ ⟨rfl, A', c', rfl⟩
    refine VC_sound tabOk 100 ?_
    refine ⟨_, wrap_i64 (n := (i : Int) + 1) (by omega) (by omega), ?_⟩
    exact Go_fin (i + 1, A', c', _) ⟨by dsimp only; omega, hF.ins rfl (tmod_btw k0 50 (by decide))⟩ (by dsimp only; omega) ⟨rfl, rfl, rfl, rfl, rfl, rfl, rfl, rfl, trivial⟩ (fun _ h => h)
  have he : i = keys.length := by omega
  subst he
  refine VC_sound tabOk 100 ?_
  refine ⟨fun h => by first | (simp at h; done) | (simp at h; omega) | (simp_all; done), fun _ => ?_⟩
  refine Go_sel [2, 3, 4, 0, 1] rfl ?_
  show Go _ _ _ _
  show Go _ _ _ _
  refine Go_ops rfl (OpTo_mcall (txB m b1 b2 ⟨2, [1], []⟩) (hpR h m A c vs) (List.Perm.of_eq rfl) rfl rfl rfl rfl rfl (by kernel_rfl) (fun w hb hm hio hsp k => txn_commit_ok m b1 b2 ⟨2, [1], []⟩ 1 (by simp) w _ k) ?_)
  rintro _ _ ⟨rfl, rfl⟩
  rw [show (⟨2, del 1 [1], ins 1 []⟩ : TxS) = ⟨2, [], [1]⟩ from by simp [del, ins]]
  refine VC_sound tabOk 100 ?_
  show Go _ _ _ _
  refine Go_ops rfl (OpTo_mcall (txB m b1 b2 ⟨2, [], [1]⟩) (hpR h m A c vs) (List.Perm.of_eq rfl) rfl rfl rfl rfl rfl (by kernel_rfl) (fun w hb hm hio hsp k => txn_begin_ok m b1 b2 ⟨2, [], [1]⟩ ⟨by decide, by decide⟩ (by decide) (by simp) w _ k) ?_)
  rintro _ _ ⟨rfl, rfl⟩
  refine VC_sound tabOk 100 ?_
  show Go _ _ _ _
  refine Go_ops rfl (OpTo_mcall (txB m b1 b2 ⟨3, [2], [1]⟩) (hpR h m A c vs) (List.Perm.of_eq rfl) rfl rfl rfl rfl rfl (by kernel_rfl) (fun w hb hm hio hsp k => txn_now m b1 b2 ⟨3, [2], [1]⟩ (by decide) w _ k) ?_)
  rintro _ _ ⟨S2, d2, ks2, rfl, hp2, hr2, rfl⟩
  obtain rfl := List.Perm.eq_singleton hp2
  refine VC_sound tabOk 100 ?_
  intro b15 _
  (repeat (first | refine Or.inl ⟨rfl, rfl, ?_⟩ | refine Or.inl ⟨rfl, ?_⟩ | refine Or.inr ?_))
  refine Go_sel [2, 3, 4, 5, 6, 0, 1] rfl ?_
  show Go _ _ _ _
  show Go _ _ _ _
  refine Go_ops rfl (OpTo_mcall (txB m b1 b2 ⟨3, [2], [1]⟩) (hpR h m A c vs ++ [.blk b15 35 (VwM.cs (vw2 S2 d2)), own (encI .i64) 1 2 S2 d2 [2]]) (List.Perm.of_eq rfl) rfl rfl rfl rfl rfl (by kernel_rfl) (fun w hb hm hio hsp k => txn_begin_ok m b1 b2 ⟨3, [2], [1]⟩ ⟨by decide, by decide⟩ (by decide) (by simp) w _ k) ?_)
  rintro _ _ ⟨rfl, rfl⟩
  refine VC_sound tabOk 100 ?_
  show Go _ _ _ _
  refine Go_ops rfl (OpTo_mcall (txB m b1 b2 s4) (hpR h m A c vs ++ [.blk b15 35 (VwM.cs (vw2 S2 d2)), own (encI .i64) 1 2 S2 d2 [2]]) (List.Perm.of_eq rfl) rfl rfl rfl rfl rfl (by kernel_rfl) (fun w hb hm hio hsp k => txn_now m b1 b2 s4 (by decide) w _ k) ?_)
  rintro _ _ ⟨S3, d3, ks, rfl, hp3, hr3, rfl⟩
  have hkl : ks.length = 2 := hp3.length_eq
  refine VC_sound tabOk 100 ?_
  intro b18 _
  (repeat (first | refine Or.inl ⟨rfl, rfl, ?_⟩ | refine Or.inl ⟨rfl, ?_⟩ | refine Or.inr ?_))
  (repeat (first | refine Or.inl ⟨rfl, rfl, ?_⟩ | refine Or.inl ⟨rfl, ?_⟩ | refine Or.inr ?_))
  have hK := tmod_btw other 9 (by decide)
  generalize hK0 : other.tmod 9 = K0 at hK
  refine ⟨by decide, _, hK0.symm, ?_⟩
  refine ⟨_, wrap_i64 (n := 100 + K0) (by omega) (by omega), ?_⟩
  refine Go_sel [5, 6, 2, 3, 4, 0, 1, 7, 8] rfl ?_
  show Go _ _ _ _
  show Go _ _ _ _
  refine Go_ops rfl (OpTo_mcall (hpX h m b1 b2 s4 A c vs) [.blk b18 35 (VwM.cs ⟨4, S3, d3, ks, 3⟩), own (encI .i64) 1 2 S3 d3 ks, .blk b15 35 (VwM.cs (vw2 S2 d2)), own (encI .i64) 1 2 S2 d2 [2]] (List.Perm.of_eq rfl) rfl rfl rfl rfl rfl (by kernel_rfl) (fun w hb hm hio hsp k => hp_insert h m b1 b2 s4 A c vs ⟨4, S3, d3, ks, 3⟩ ⟨100 + K0, tE⟩ (by omega) (by dsimp only; omega) w _ k (RdF.of_split hsp fun Rs w h => h.own_behind (i := 1) rfl)) ?_)
  rintro _ _ ⟨rfl, A2, c2, rfl⟩
  have e1 : insE (stE s4) ⟨4, S3, d3, ks, 3⟩ vs (100 + K0) = 0 := insE_free (show stE s4 3 = 1 from by decide) fun x hx => by have := (hF.key x hx).2; omega
  obtain ⟨V1, hV1⟩ : ∃ V1 : List VerM, V1 = vs ++ [⟨100 + K0, tE, 3, 0⟩] := ⟨_, rfl⟩
  have ev1 : insVs (stE s4) ⟨4, S3, d3, ks, 3⟩ vs ⟨100 + K0, tE⟩ = V1 := by rw [insVs, if_pos e1, hV1]
  have hV1l : V1.length ≤ 31 := by rw [hV1]; simp; omega
  rw [ev1]
  refine VC_sound tabOk 100 ?_
  (repeat (first | refine Or.inl ⟨rfl, rfl, ?_⟩ | refine Or.inl ⟨rfl, ?_⟩ | refine Or.inr ?_))
  refine ⟨_, wrap_i64 (n := mine) (by omega) (by omega), ?_⟩
  refine ⟨_, wrap_i64 (n := 200 + mine) (by omega) (by omega), ?_⟩
  show Go _ _ _ _
  refine Go_ops rfl (OpTo_mcall (hpX h m b1 b2 s4 A2 c2 V1) [.blk b18 35 (VwM.cs ⟨4, S3, d3, ks, 3⟩), own (encI .i64) 1 2 S3 d3 ks, .blk b15 35 (VwM.cs (vw2 S2 d2)), own (encI .i64) 1 2 S2 d2 [2]] (List.Perm.of_eq rfl) rfl rfl rfl rfl rfl (by kernel_rfl) (fun w hb hm hio hsp k => hp_insert h m b1 b2 s4 A2 c2 V1 (vw2 S2 d2) ⟨200 + mine, tE⟩ (by omega) (by simp) w _ k (RdF.of_split hsp fun Rs w h => h.own_behind (i := 3) rfl)) ?_)
  rintro _ _ ⟨rfl, A3, c3, rfl⟩
  have e2 : insE (stE s4) (vw2 S2 d2) V1 (200 + mine) = 0 := insE_free (show stE s4 2 = 1 from by decide) fun x hx => by
    rw [hV1] at hx
    rcases List.mem_append.1 hx with hx | hx
    · have := (hF.key x hx).2; omega
    · simp at hx; subst hx; dsimp only; omega
  have ev2 : insVs (stE s4) (vw2 S2 d2) V1 ⟨200 + mine, tE⟩ = allK vs (100 + K0) (200 + mine) := by rw [insVs, if_pos e2, hV1]
  rw [ev2]
  have hal : (allK vs (100 + K0) (200 + mine)).length ≤ 32 := by simp; omega
  have hnd := trunc_nd hF (K := 100 + K0) (L := 200 + mine) (by omega) (by omega)
  have htr : (allK vs (100 + K0) (200 + mine)).any (truP (stE s4) (vw2 S2 d2)) = false := trunc_tru hF
  have hlf := fun (S' : Option Addr) (d' : Nat) => trunc_left hF (K := 100 + K0) (L := 200 + mine) (S := S2) (d := d2) (S' := S') (d' := d')
  generalize allK vs (100 + K0) (200 + mine) = V at hal hnd htr hlf ⊢
  refine VC_sound tabOk 100 ?_
  (repeat (first | refine Or.inl ⟨rfl, rfl, ?_⟩ | refine Or.inl ⟨rfl, ?_⟩ | refine Or.inr ?_))
  show Go _ _ _ _
  refine Go_ops rfl (OpTo_ncall rfl rfl rfl rfl rfl (by kernel_rfl) (fun w hm _ => hp_scan h m b1 b2 s4 A3 c3 V (vw2 S2 d2) w (HpAt.of hm 0 rfl rfl rfl rfl rfl) (hm.own_rd (i := 8) rfl) (by simp) (by omega)) ?_)
  rintro _ _ ⟨ys, hy, A4, c4, rfl, rfl⟩
  refine VC_sound tabOk 100 ?_
  (repeat (first | refine Or.inl ⟨rfl, rfl, ?_⟩ | refine Or.inl ⟨rfl, ?_⟩ | refine Or.inr ?_))
  refine Go_sel [1, 2, 3, 4, 5, 8, 9, 0] rfl ?_
  show Go _ _ _ _
  show Go _ _ _ _
  refine Go_ops rfl (OpTo_mcall (hpX h m b1 b2 s4 A3 c3 V) [.blk b15 35 (VwM.cs (vw2 S2 d2)), own (encI .i64) 1 2 S2 d2 [2], own encR 2 38 A4 c4 ys] (List.Perm.of_eq rfl) rfl rfl rfl rfl rfl (by kernel_rfl) (fun w hb hm hio hsp k => hp_truncate h m b1 b2 s4 A3 c3 V (vw2 S2 d2) (by omega) (by simp) w _ k (RdF.of_split hsp fun Rs w h => h.own_behind (i := 1) rfl)) ?_)
  rintro _ _ (⟨hx, _⟩ | ⟨_, ht, _⟩ | ⟨_, ht, zs, A5, c5, hz, rfl, rfl⟩)
  · exact absurd (show stE s4 2 = 1 from by decide) hx
  · rw [htr] at ht; cases ht
  obtain rfl := hy.unique hz
  refine VC_sound tabOk 100 ?_
  refine Go_sel [3, 4, 5, 1, 2, 0, 8] rfl ?_
  show Go _ _ _ _
  show Go _ _ _ _
  refine Go_ops rfl (OpTo_mcall (txB m b1 b2 s4) (hpR h m A3 c3 (V.map (endV (stE s4) (vw2 S2 d2))) ++ [own encR 2 38 A5 c5 ys, own encR 2 38 A4 c4 ys]) (List.Perm.of_eq rfl) rfl rfl rfl rfl rfl (by kernel_rfl) (fun w hb hm hio hsp k => txn_commit_ok m b1 b2 s4 2 (by simp) w _ k) ?_)
  rintro _ _ ⟨rfl, rfl⟩
  rw [show (⟨s4.next, del 2 s4.O, ins 2 s4.D⟩ : TxS) = ⟨4, [3], [1, 2]⟩ from by simp [del, ins]]
  refine VC_sound tabOk 100 ?_
  show Go _ _ _ _
  refine Go_ops rfl (OpTo_mcall (txB m b1 b2 ⟨4, [3], [1, 2]⟩) (hpR h m A3 c3 (V.map (endV (stE s4) (vw2 S2 d2))) ++ [own encR 2 38 A5 c5 ys, own encR 2 38 A4 c4 ys]) (List.Perm.of_eq rfl) rfl rfl rfl rfl rfl (by kernel_rfl) (fun w hb hm hio hsp k => txn_commit_ok m b1 b2 ⟨4, [3], [1, 2]⟩ 3 (by simp) w _ k) ?_)
  rintro _ _ ⟨rfl, rfl⟩
  rw [show (⟨4, del 3 [3], ins 3 [1, 2]⟩ : TxS) = ⟨4, [], [1, 2, 3]⟩ from by simp [del, ins]]
  refine VC_sound tabOk 100 ?_
  show Go _ _ _ _
  refine Go_ops rfl (OpTo_mcall (txB m b1 b2 ⟨4, [], [1, 2, 3]⟩) (hpR h m A3 c3 (V.map (endV (stE s4) (vw2 S2 d2))) ++ [own encR 2 38 A5 c5 ys, own encR 2 38 A4 c4 ys]) (List.Perm.of_eq rfl) rfl rfl rfl rfl rfl (by kernel_rfl) (fun w hb hm hio hsp k => txn_now m b1 b2 ⟨4, [], [1, 2, 3]⟩ (by decide) w _ k) ?_)
  rintro _ _ ⟨S4, d4, ks4, rfl, hp4, hr4, rfl⟩
  obtain rfl := List.Perm.eq_nil hp4
  refine VC_sound tabOk 100 ?_
  show Go _ _ _ _
  refine Go_ops rfl (OpTo_ncall rfl rfl rfl rfl rfl (by kernel_rfl) (fun w hm _ => hp_scan h m b1 b2 ⟨4, [], [1, 2, 3]⟩ A3 c3 (V.map (endV (stE s4) (vw2 S2 d2))) ⟨4, S4, d4, [], 0⟩ w (by have := hm.sel [4, 5, 1, 2, 3] rfl; exact HpAt.of this 0 rfl rfl rfl rfl rfl) (hm.own_rd (i := 0) rfl) (by simp) (by simp; omega)) ?_)
  rintro _ _ ⟨zs, hz2, A6, c6, rfl, rfl⟩
  rw [hlf] at hz2
  obtain rfl := hz2.one
  have hyl : ys.length ≤ 32 := by
    rw [hy.2.2, seenL, List.length_map]
    exact Nat.le_trans (List.length_filter_le _ _) hal
  refine Go_with _ (fun w hm _ => hm.own_some (i := 0) rfl (by simp)) ?_
  rintro ⟨b6, o6, rfl⟩
  refine VC_sound tabOk 100 ?_
  refine Go_loop (σ := Nat) (fun i => [(2, .v (.int .i64 other)), (19, .v (.slice A4 ys.length c4)), (20, .v (.slice A5 ys.length c5)), (21, .v (.int .i64 0)), (22, .v (.slice (some ⟨b6, o6, none⟩) 1 c6)), (23, .v (.int .i64 i))]) (fun _ => [own encR 2 38 (some ⟨b6, o6, none⟩) c6 [⟨100 + K0, tE⟩], own encR 2 38 A5 c5 ys, own encR 2 38 A4 c4 ys]) (fun i => 1 ≤ i ∧ (i ≤ ys.length ∨ i = 1)) (fun i => ys.length + 1 - i) 1 ⟨by decide, .inr rfl⟩ ⟨rfl, rfl, rfl, rfl, rfl, rfl, trivial⟩ (fun _ h => h.sel [0, 7, 8] rfl) ?_
  rintro i ⟨hi1, hi⟩
  dsimp only at hi1 hi ⊢
  by_cases hlt : i < ys.length
  · refine Go_with _ (fun w hm _ => hm.own_some (i := 1) rfl (ne_nil_of_lt hlt)) ?_
    rintro ⟨ba, oa, rfl⟩
    obtain ⟨y, hgy⟩ : ∃ a, ys[i - 1]? = some a := ⟨_, List.getElem?_eq_getElem (by omega)⟩
    obtain ⟨x, hgx⟩ : ∃ a, ys[i]? = some a := ⟨_, List.getElem?_eq_getElem hlt⟩
    have hidx : ((i : Int) - 1).toNat = i - 1 := by omega
    have hyx := strict_of hnd hy hgy hgx (by omega)
    refine VC_sound tabOk 100 ?_
    refine ⟨fun _ => ?_, fun h => by first | (simp at h; done) | (simp at h; omega) | (simp_all; done)⟩
    show Go _ _ _ _
    refine Go_any mixed [] [(0, false), (1, false), (2, false), (3, false), (4, false), (6, false), (7, false), (8, false), (9, false), (5, false), (10, false), (11, false)] rfl (by kernel_rfl) (by kernel_rfl) [] (fun w => RdW w (some ⟨ba, oa, none⟩) (ys.flatMap encR)) (fun w w' hk h => h.old hk) (fun w hm _ => ⟨trivial, by exact Mod.own_rd (k := 2) (T := 38) (c := c5) (i := 1) hm rfl⟩) ?_
    refine VC_sound tabOk 100 ?_
    refine ⟨_, wrap_i64 (n := (i : Int) - 1) (by omega) (by omega), ?_⟩
    refine ⟨⟨by omega, by omega⟩, ?_⟩
    refine ⟨⟨by omega, by omega⟩, ?_⟩
    refine Go_first (v := .int .i64 y.key) rfl rfl rfl rfl (fun w _ hw => rxLoadPart tabOk rfl encR_is hw hgy (off := 0) rfl (by simp only [addA, hidx])) ?_
    refine VC_sound tabOk 100 ?_
    refine Go_first (v := .int .i64 x.key) rfl rfl rfl rfl (fun w _ hw => rxLoadPart tabOk rfl encR_is hw hgx (off := 0) rfl (by simp only [addA]; rfl)) ?_
    refine VC_sound tabOk 100 ?_
    refine ⟨fun h => by first | (simp at h; done) | (simp at h; omega) | (simp_all; done), fun _ => ?_⟩
    refine ⟨_, wrap_i64 (n := (i : Int) + 1) (by omega) (by omega), ?_⟩
    exact Go_fin (i + 1) ⟨by omega, by omega⟩ (by omega) ⟨rfl, rfl, rfl, rfl, rfl, rfl, trivial⟩ (fun _ h => h)
  refine VC_sound tabOk 100 ?_
  refine ⟨fun h => by first | (simp at h; done) | (simp at h; omega) | (simp_all; done), fun _ => ?_⟩
  refine ⟨fun _ => ?_, fun h => by first | (simp at h; done) | (simp at h; omega) | (simp_all; done)⟩
  refine Go_ops rfl (OpTo_pcall (v := .bool true) rfl rfl rfl rfl rfl (by kernel_rfl) (fun w hm _ => l07_rows A5 A4 c5 c4 ys w (hm.own_rd (i := 1) rfl) (hm.own_rd (i := 2) rfl) (by omega)) ?_)
  refine VC_sound tabOk 100 ?_
  refine ⟨fun _ => ?_, fun h => by simp at h⟩
  refine ⟨fun _ => ?_, fun h => by first | (simp at h; done) | (simp at h; omega) | (simp_all; done)⟩
  refine ⟨⟨by omega, by omega⟩, ?_⟩
  refine Go_ops rfl (OpTo_loadPart tabOk encR_is (n := 0) (j := 0) (.int .i64 (100 + K0)) rfl rfl rfl (fun w hm _ => hm.own_rd (i := 0) rfl) rfl rfl (by simp only [addA]; rfl) ?_)
  refine VC_sound tabOk 100 ?_
  refine ⟨by decide, _, hK0.symm, ?_⟩
  refine ⟨_, wrap_i64 (n := 100 + K0) (by omega) (by omega), ?_⟩
  exact congrArg Value.bool (by simp)
end Go.Proofs.Ytobffgjilojpfaa
