/- The law RelReads: what its run comes to. -/
import Derived.Test.YtbhlkninmbafcaaL08e
set_option maxRecDepth 100000
set_option autoImplicit false
set_option linter.unusedVariables false
set_option linter.unusedSimpArgs false
namespace Go.Proofs.Ytbhlkninmbafcaa
open Go.RX Go Go.RowKit Go.ChangeShapes Go.WideShapes Go.ChangeAt

theorem tmod_nat8c (k : Nat) (hk : 0 < k) {n : Int} (h : 0 ≤ n) : ∃ K : Nat, n.tmod k = K ∧ K < k := by
  have h1 := Int.tmod_nonneg (k : Int) h
  have h2 := Int.tmod_lt_of_pos n (b := (k : Int)) (by omega)
  exact ⟨(n.tmod k).toNat, by omega, by omega⟩
theorem relC_at {br : Nat} {Ap : Option Addr} {cp : Nat} {ps : List (Option Addr)} {m b1 b2 : Nat} {s : TxS} {v : VwM} {hs : List Hp} {T : Nat} {H : Hp} (hT : hs[T]? = some H) {hfs : List PH} {w : World} (hm : Mod hfs (relC br Ap cp ps m b1 b2 s v hs) w) : HpAt w H.h m b1 b2 s H.A H.c H.vs :=
  HpAt.of (hm.permRs (can_at hT)) 0 rfl rfl rfl rfl rfl

/-! ### no key is seen twice -/
def Uniq (st : Int → Int) (v : VwM) (vs : List VerM) : Prop := ((vs.filter (seesP st v)).map VerM.key).Nodup
theorem Uniq.app {st : Int → Int} {v : VwM} (ho : 0 < v.own) {vs : List VerM} (h : Uniq st v vs) {k : Int} (hn : k ∉ (vs.filter (seesP st v)).map VerM.key) (t : ByteArray) : Uniq st v (vs ++ [⟨k, t, v.own, 0⟩]) := by
  have hs : seesP st v ⟨k, t, v.own, 0⟩ = true := by simp [seesP, didP, ho]
  rw [Uniq, List.filter_append, List.filter_cons, if_pos hs, List.filter_nil, List.map_append, List.nodup_append]
  refine ⟨h, by simp, fun a ha b hb => ?_⟩
  simp at hb; subst hb
  rintro rfl
  exact hn ha
theorem Uniq.ins {st : Int → Int} {v : VwM} (ho : 0 < v.own) {vs : List VerM} (h : Uniq st v vs) (r : RowM) : Uniq st v (insVs st v vs r) := by
  unfold insVs
  split
  · rename_i he
    refine h.app ho (fun hk => ?_) r.text
    obtain ⟨x, hx, hxk⟩ := List.mem_map.1 hk
    obtain ⟨hx, hs⟩ := List.mem_filter.1 hx
    have hany : vs.any (findP st v r.key) = true := List.any_eq_true.2 ⟨x, hx, by simp [findP, hxk, hs]⟩
    rw [insE, hany] at he
    split at he <;> simp at he
  · exact h
theorem Uniq.kill {st : Int → Int} {v : VwM} (ho : 0 < v.own) {vs vs' : List VerM} (h : Uniq st v vs) {key e : Int} (hk : killR st v vs key e vs') : Uniq st v vs' ∧ (e = 0 → key ∉ (vs'.filter (seesP st v)).map VerM.key) := by
  rcases hk with ⟨_, rfl, rfl⟩ | ⟨_, _, rfl, rfl⟩ | ⟨_, i, x, hx, hf, _, ⟨_, rfl, rfl⟩ | ⟨_, rfl, rfl⟩⟩
  · exact ⟨h, fun h => by cases h⟩
  · exact ⟨h, fun h => by cases h⟩
  · exact ⟨h, fun h => by cases h⟩
  obtain ⟨hi, hxi⟩ := List.getElem?_eq_some_iff.1 hx
  have hk : x.key = key ∧ seesP st v x = true := by simpa [findP] using hf
  have es : vs = vs.take i ++ x :: vs.drop (i + 1) := by rw [← hxi]; simp
  have e2 : vs.set i ⟨x.key, x.text, x.born, v.own⟩ = vs.take i ++ (⟨x.key, x.text, x.born, v.own⟩ : VerM) :: vs.drop (i + 1) := by rw [List.set_eq_take_append_cons_drop, if_pos hi]
  rw [Uniq, es, List.filter_append, List.filter_cons, if_pos hk.2, List.map_append, List.map_cons] at h
  have h2 := (List.perm_middle.nodup_iff).1 h
  rw [List.nodup_cons] at h2
  rw [Uniq, e2, List.filter_append, List.filter_cons, if_neg (by rw [seesP_own ho]; simp), List.map_append]
  exact ⟨h2.2, fun _ => by rw [← hk.1]; exact h2.1⟩
theorem Uniq.run {st : Int → Int} {v : VwM} (ho : 0 < v.own) {vs vs' : List VerM} (h : Uniq st v vs) {k e : Int} {r : RowM} {ys : List RowM} (hq : runR st v vs k r e ys vs') : Uniq st v vs' := by
  rcases hq with ⟨_, _, _, rfl⟩ | ⟨_, _, vs1, hk, rfl⟩ | ⟨_, _, hk⟩ | ⟨_, hq⟩ | ⟨_, rfl, _⟩ | ⟨_, rfl, _⟩
  · exact h.ins ho r
  · obtain ⟨h1, h2⟩ := h.kill ho hk
    split
    · rename_i he; exact h1.app ho (h2 he) r.text
    · exact h1
  · exact (h.kill ho hk).1
  · rcases hq with ⟨_, _, _, rfl⟩ | ⟨_, _, _, _, rfl⟩ | ⟨_, _, _, _, rfl⟩
    · exact h
    · exact h
    · have h0 : (vs.map (endV st v)).filter (seesP st v) = [] := List.filter_eq_nil_iff.2 fun y hy => by
        obtain ⟨x, _, rfl⟩ := List.mem_map.1 hy
        unfold endV
        split
        · rw [seesP_own ho]; simp
        · assumption
      rw [Uniq, h0]; simp
  · exact h
  · exact h
theorem Uniq.act {st : Int → Int} {v : VwM} (ho : 0 < v.own) {ps : List (Option Addr)} {vs vs' : List VerM} (h : Uniq st v vs) {k t e : Int} {r : RowM} {ys : List RowM} (hq : actR st v ps vs k t r e ys vs') : Uniq st v vs' := by
  rcases hq with ⟨_, hq⟩ | ⟨_, _, _, rfl⟩
  · exact h.run ho hq
  · exact h
/-- What Get tells is what Scan tells of the key. -/
theorem get_scan {st : Int → Int} {v : VwM} {hs : List Hp} {T : Nat} {H : Hp} (hT : hs[T]? = some H) {r : RowM} {e : Int} {gs ys : List RowM} {vs' : List VerM} (hu : Uniq st v H.vs) (hy : SrtS (seenL st v H.vs) ys) (h : actR st v (psH hs) H.vs 5 T r e gs vs') :
    vs' = H.vs ∧ (ys.filter fun y => decide (y.key = r.key)) = gs ∧ ((gs = [] ∧ e = 4) ∨ ∃ y, gs = [y] ∧ e = 0) := by
  have hr : rightP 5 (psH hs) T r.text.size = true := by rw [rightP, psH_at hT]; simp [longP]
  have hf : (ys.filter fun y => decide (y.key = r.key)) = ((H.vs.filter (seesP st v)).filter fun x => decide (x.key = r.key)).map rowOf := by
    rw [← hy.1 r.key, seenL, List.filter_map]; rfl
  rcases h with ⟨_, h⟩ | ⟨h, _⟩
  · rcases h with ⟨h, _⟩ | ⟨h, _⟩ | ⟨h, _⟩ | ⟨h, _⟩ | ⟨_, h1, h2⟩ | ⟨h, _⟩
    all_goals first | (exact absurd h (by decide)) | skip
    rcases h2 with ⟨hn, rfl, rfl⟩ | ⟨x, hx, rfl, rfl⟩
    · refine ⟨h1, ?_, .inl ⟨rfl, rfl⟩⟩
      rw [hf, List.filter_eq_nil_iff.2, List.map_nil]
      intro x hx
      obtain ⟨hx, hs⟩ := List.mem_filter.1 hx
      have := List.find?_eq_none.1 hn x hx
      simp [findP, hs] at this
      simpa using this
    · refine ⟨h1, ?_, .inr ⟨rowOf x, rfl, rfl⟩⟩
      have hxm := List.mem_of_find?_eq_some hx
      have hxp := List.find?_some hx
      have hk : x.key = r.key ∧ seesP st v x = true := by simpa [findP] using hxp
      have hmem : x ∈ H.vs.filter (seesP st v) := List.mem_filter.2 ⟨hxm, hk.2⟩
      obtain ⟨a, b, hab⟩ := List.append_of_mem hmem
      rw [Uniq, hab, List.map_append, List.map_cons] at hu
      have h2 := (List.perm_middle.nodup_iff).1 hu
      rw [List.nodup_cons, List.mem_append] at h2
      rw [hf, hab, List.filter_append, List.filter_cons, if_pos (by simpa using hk.1)]
      have ha : (a.filter fun x => decide (x.key = r.key)) = [] := List.filter_eq_nil_iff.2 fun y hy he => h2.1 (.inl (List.mem_map.2 ⟨y, hy, by have := of_decide_eq_true he; omega⟩))
      have hb : (b.filter fun x => decide (x.key = r.key)) = [] := List.filter_eq_nil_iff.2 fun y hy he => h2.1 (.inr (List.mem_map.2 ⟨y, hy, by have := of_decide_eq_true he; omega⟩))
      rw [ha, hb]; rfl
  · rw [hr] at h; cases h
/-- What all tables have. -/
structure Tabs3 (st : Int → Int) (v : VwM) (n : Nat) (hs : List Hp) : Prop where
  len : hs.length = 3
  vs : ∀ (j : Nat) (H : Hp), hs[j]? = some H → H.vs.length ≤ n ∧ Uniq st v H.vs
theorem Tabs3.set {st : Int → Int} {v : VwM} {n n' : Nat} {hs : List Hp} (h : Tabs3 st v n hs) (hn : n ≤ n') {T : Nat} {H' : Hp} (hl : H'.vs.length ≤ n') (hu : Uniq st v H'.vs) : Tabs3 st v n' (hs.set T H') := by
  refine ⟨by rw [List.length_set]; exact h.len, fun j H2 hj => ?_⟩
  rw [List.getElem?_set] at hj
  split at hj
  · split at hj
    · simp at hj; subst hj; exact ⟨hl, hu⟩
    · cases hj
  · have := h.vs j H2 hj
    exact ⟨by omega, this.2⟩

set_option maxHeartbeats 16000000 in
theorem l08_RelReads (A0 : Option Addr) (c0 : Nat) (l : List ActM) (kind key table : Int) (w0 : World) (hr : RdW w0 A0 (l.flatMap encA)) (hok : ∀ z ∈ l, okA w0 z) (hl : l.length ≤ 9223372036854775807) (h1 : 0 ≤ kind ∧ kind ≤ 255) (h2 : 0 ≤ key ∧ key ≤ 255) (h3 : 0 ≤ table ∧ table ≤ 255) :
    Calls Try.prog 8 #[.slice A0 l.length c0, .int .u8 kind, .int .u8 key, .int .u8 table] w0 fun e w' => e = .returned (.bool true) ∧ BelowD w0.heap.size w0 w' := by
  obtain ⟨T, hT, hT3⟩ := tmod_nat8c 3 (by decide) h3.1
  obtain ⟨K6, hK6, hK66⟩ := tmod_nat8c 6 (by decide) h2.1
  refine enterP (tab := tab) Try.func8 rfl Try.ntmps8 rfl (args := [_, _, _, _]) rfl ?_
  refine VC_sound tabOk 100 ?_
  refine Go_ops rfl (OpTo_pcall (v := .bool true) rfl rfl rfl rfl rfl (by kernel_rfl) (fun w hm _ => l8_row w) ?_)
  refine VC_sound tabOk 100 ?_
  refine ⟨fun h => by first | (simp at h; done) | (simp at h; omega) | (simp_all; done), fun _ => ?_⟩
  refine Go_ops rfl (OpTo_pcall (v := .bool (smallP8 l)) rfl rfl rfl rfl rfl (by kernel_rfl) (fun w hm _ => l08_small A0 c0 l w (hr.mod hm) hl) ?_)
  refine VC_sound tabOk 100 ?_
  refine ⟨fun hc => ?_, fun hc => ?_⟩
  · refine Go_ops rfl (OpTo_pcall (v := .bool true) rfl rfl rfl rfl rfl (by kernel_rfl) (fun w hm _ => l8_row w) ?_)
    refine VC_sound tabOk 100 ?_
    rfl
  have hl80 : l.length ≤ 80 := smallP8_len (by simpa using hc)
  show Go _ _ _ _
  refine Go_ops rfl (OpTo_ncall rfl rfl rfl rfl rfl (by kernel_rfl) (fun w hm _ => txn_new w) ?_)
  rintro _ _ ⟨m, b1, b2, rfl, rfl⟩
  refine VC_sound tabOk 100 ?_
  show Go _ _ _ _
  refine Go_ops rfl (OpTo_ncall rfl rfl rfl rfl rfl (by kernel_rfl) (fun w hm _ => rel_newH m 3 w (by decide)) ?_)
  rintro _ _ ⟨br, Ap, cp, hs0, rfl, hlen0, hvs0, rfl⟩
  have hl0 : hs0.length = 3 := hlen0
  refine VC_sound tabOk 100 ?_
  refine Go_res (txB m b1 b2 ⟨1, [], []⟩ ++ (relR br Ap cp (psH hs0) ++ hsR m hs0)) (fun _ h => h.permRs List.perm_append_comm) ?_
  show Go _ _ _ _
  refine Go_ops rfl (OpTo_mcall (txB m b1 b2 ⟨1, [], []⟩) (relR br Ap cp (psH hs0) ++ hsR m hs0) (List.Perm.of_eq rfl) rfl rfl rfl rfl rfl (by kernel_rfl) (fun w hb hm hio hsp k => txn_begin_ok m b1 b2 ⟨1, [], []⟩ ⟨by decide, by decide⟩ (by decide) (by simp) w _ k) ?_)
  rintro _ _ ⟨rfl, rfl⟩
  refine VC_sound tabOk 100 ?_
  show Go _ _ _ _
  refine Go_ops rfl (OpTo_mcall (txB m b1 b2 ⟨2, [1], []⟩) (relR br Ap cp (psH hs0) ++ hsR m hs0) (List.Perm.of_eq rfl) rfl rfl rfl rfl rfl (by kernel_rfl) (fun w hb hm hio hsp k => txn_now m b1 b2 ⟨2, [1], []⟩ (by decide) w _ k) ?_)
  rintro _ _ ⟨S1, d1, ks1, rfl, hp1, hr1, rfl⟩
  obtain rfl := List.Perm.eq_singleton hp1
  refine VC_sound tabOk 100 ?_
  intro b13 _
  (repeat (first | refine Or.inl ⟨rfl, rfl, ?_⟩ | refine Or.inl ⟨rfl, ?_⟩ | refine Or.inr ?_))
  obtain ⟨ps, hps0⟩ : ∃ ps, psH hs0 = ps := ⟨_, rfl⟩
  have hF0 : Tabs3 (stE ⟨2, [1], []⟩) ⟨2, S1, d1, [1], 1⟩ 0 hs0 := ⟨hl0, fun j H hj => by rw [hvs0 H (List.mem_of_getElem? hj)]; simp [Uniq]⟩
  refine Go_loop (σ := Nat × List Hp) (fun u => [(0, .v (.slice A0 l.length c0)), (1, .v (.int .u8 kind)), (2, .v (.int .u8 key)), (3, .v (.int .u8 table)), (10, .v (.pointer (some ⟨br, 0, none⟩))), (13, .v (.pointer (some ⟨b13, 0, none⟩))), (14, .v (.int .i64 u.1))]) (fun u => [.blk b13 50 (VwM.cs ⟨2, S1, d1, [1], 1⟩)] ++ relC br Ap cp ps m b1 b2 ⟨2, [1], []⟩ ⟨2, S1, d1, [1], 1⟩ u.2) (fun u => u.1 ≤ l.length ∧ psH u.2 = ps ∧ Tabs3 (stE ⟨2, [1], []⟩) ⟨2, S1, d1, [1], 1⟩ u.1 u.2) (fun u => l.length - u.1) (0, hs0) ⟨Nat.zero_le _, hps0, hF0⟩ ⟨rfl, rfl, rfl, rfl, rfl, rfl, rfl, trivial⟩ (fun w h => by subst hps0; exact (show Mod _ ([.blk b13 50 (VwM.cs ⟨2, S1, d1, [1], 1⟩), own (encI .i64) 1 2 S1 d1 [1]] ++ (txB m b1 b2 ⟨2, [1], []⟩ ++ (relR br Ap cp (psH hs0) ++ hsR m hs0))) w from h).permRs (by classical exact List.perm_iff_count.2 fun a => by simp only [txB, relR, List.set_cons_zero, List.set_cons_succ, List.eraseIdx_cons_succ, List.eraseIdx_cons_zero, List.cons_append, List.nil_append, List.count_cons, List.count_append, List.count_nil]; omega)) ?_
  clear hF0
  rintro ⟨i, hs⟩ ⟨hi, hps, hF⟩
  dsimp only at hi hps hF ⊢
  have hlen := hF.len
  by_cases hlt : i < l.length
  · obtain ⟨bk, ok, rfl⟩ := RdW.some encA_is hr (ne_nil_of_lt hlt)
    obtain ⟨a, hga⟩ : ∃ a, l[i]? = some a := ⟨_, List.getElem?_eq_getElem hlt⟩
    have hoa := hok a (List.mem_of_getElem? hga)
    obtain ⟨K, hK, hK4⟩ := tmod_nat8c 4 (by decide) (bounds_u8 hoa.2.2.1).1
    obtain ⟨J, hJ, hJ3⟩ := tmod_nat8c 3 (by decide) (bounds_u8 hoa.2.1).1
    obtain ⟨H, hH⟩ : ∃ H, hs[J]? = some H := ⟨_, List.getElem?_eq_getElem (by omega)⟩
    obtain ⟨hHl, hHu⟩ := hF.vs J H hH
    refine VC_sound tabOk 100 ?_
    refine ⟨fun _ => ?_, fun h => by first | (simp at h; done) | (simp at h; omega) | (simp_all; done)⟩
    show Go _ _ _ _
    refine Go_any mixed [29] [(0, false), (2, false), (3, false), (4, false), (5, false), (9, false), (10, false), (11, false), (12, false), (16, false), (17, false), (18, false), (19, false), (22, false), (23, false), (24, false), (25, false), (1, false), (6, false), (7, false), (8, false), (13, false), (14, false), (15, false), (20, false), (21, false), (26, false), (27, false), (28, false), (29, true)] rfl (by kernel_rfl) (by kernel_rfl) [.blk b13 50 (VwM.cs ⟨2, S1, d1, [1], 1⟩)] (fun w => RdW w (some ⟨bk, ok, none⟩) (l.flatMap encA)) (fun w w' hk h => h.old hk) (fun w hm _ => ⟨Holds.of_idx [0] hm, hr.mod hm⟩) ?_
    refine VC_sound tabOk 100 ?_
    refine ⟨⟨by omega, by omega⟩, ?_⟩
    refine ⟨⟨by omega, by omega⟩, ?_⟩
    refine ⟨⟨by omega, by omega⟩, ?_⟩
    refine ⟨⟨by omega, by omega⟩, ?_⟩
    (repeat (first | refine Or.inl ⟨rfl, rfl, ?_⟩ | refine Or.inl ⟨rfl, ?_⟩ | refine Or.inr ?_))
    refine Go_first (v := .int .u8 a.kind) rfl rfl rfl rfl (fun w _ hw => rxLoadPart tabOk rfl encA_is hw hga (off := 2) rfl (by first | (simp only [addA]; rfl) | rfl)) ?_
    refine VC_sound tabOk 100 ?_
    refine ⟨by decide, _, hK.symm, ?_⟩
    refine ⟨_, wrap_u8 (n := 1 + (K : Int)) (by omega) (by omega), ?_⟩
    (repeat (first | refine Or.inl ⟨rfl, rfl, ?_⟩ | refine Or.inl ⟨rfl, ?_⟩ | refine Or.inr ?_))
    refine Go_first (v := .int .u8 a.who) rfl rfl rfl rfl (fun w _ hw => rxLoadPart tabOk rfl encA_is hw hga (off := 1) rfl (by first | (simp only [addA]; rfl) | rfl)) ?_
    refine VC_sound tabOk 100 ?_
    refine ⟨by decide, _, hJ.symm, ?_⟩
    refine ⟨_, wrap_i64 (n := (J : Int)) (by omega) (by omega), ?_⟩
    (repeat (first | refine Or.inl ⟨rfl, rfl, ?_⟩ | refine Or.inl ⟨rfl, ?_⟩ | refine Or.inr ?_))
    refine Go_first (v := .int .i64 a.key) rfl rfl rfl rfl (fun w _ hw => rxLoadPart tabOk rfl encA_is hw hga (off := 4) rfl (by first | (simp only [addA]; rfl) | rfl)) ?_
    refine VC_sound tabOk 100 ?_
    refine ⟨by decide, _, rfl, ?_⟩
    (repeat (first | refine Or.inl ⟨rfl, rfl, ?_⟩ | refine Or.inl ⟨rfl, ?_⟩ | refine Or.inr ?_))
    refine Go_first (v := .string a.text) rfl rfl rfl rfl (fun w _ hw => rxLoadPart tabOk rfl encA_is hw hga (off := 5) rfl (by first | (simp only [addA]; rfl) | rfl)) ?_
    refine VC_sound tabOk 100 ?_
    refine Go_aloneM rfl rfl rfl (OpTo_mcall (relC br Ap cp ps m b1 b2 ⟨2, [1], []⟩ ⟨2, S1, d1, [1], 1⟩ hs) [.blk b13 50 (VwM.cs ⟨2, S1, d1, [1], 1⟩)] List.perm_append_comm rfl rfl rfl rfl rfl (by kernel_rfl) (fun w hb hm hio hsp kk => rel_runA br Ap cp ps m b1 b2 ⟨2, [1], []⟩ ⟨2, S1, d1, [1], 1⟩ hs (1 + (K : Int)) J ⟨a.key.tmod 5, a.text⟩ (by assumption) hH (by omega) (by simp) w _ kk) ?_)
    rintro _ _ ⟨e, ys, A2, c2, vs', A', c', hq, rfl, rfl⟩
    have hq1 := act_len hq
    have hq2 := hHu.act (v := ⟨2, S1, d1, [1], 1⟩) (show (0 : Int) < 1 from by decide) hq
    refine VC_sound tabOk 100 ?_
    refine ⟨_, wrap_i64 (n := (i : Int) + 1) (by omega) (by omega), ?_⟩
    exact Go_fin (i + 1, hs.set J ⟨H.h, A', c', vs'⟩) ⟨by dsimp only; omega, by dsimp only; rw [psH_set hH]; exact hps, hF.set (by omega) (by dsimp only; omega) hq2⟩ (by dsimp only; omega) ⟨rfl, rfl, rfl, rfl, rfl, rfl, rfl, trivial⟩ (fun w h => (h.dropAt 0).permRs List.perm_append_comm)
  have he : i = l.length := by omega
  subst he
  obtain ⟨H, hH⟩ : ∃ H, hs[T]? = some H := ⟨_, List.getElem?_eq_getElem (by omega)⟩
  obtain ⟨hHl, hHu⟩ := hF.vs T H hH
  refine VC_sound tabOk 100 ?_
  refine ⟨fun h => by first | (simp at h; done) | (simp at h; omega) | (simp_all; done), fun _ => ?_⟩
  refine ⟨by decide, _, hT.symm, ?_⟩
  refine ⟨_, wrap_i64 (n := (T : Int)) (by omega) (by omega), ?_⟩
  (repeat (first | refine Or.inl ⟨rfl, rfl, ?_⟩ | refine Or.inl ⟨rfl, ?_⟩ | refine Or.inr ?_))
  show Go _ _ _ _
  refine Go_ops rfl (OpTo_mcall (relC br Ap cp ps m b1 b2 ⟨2, [1], []⟩ ⟨2, S1, d1, [1], 1⟩ hs) [.blk b13 50 (VwM.cs ⟨2, S1, d1, [1], 1⟩)] List.perm_append_comm rfl rfl rfl rfl rfl (by kernel_rfl) (fun w hb hm hio hsp kk => rel_runA br Ap cp ps m b1 b2 ⟨2, [1], []⟩ ⟨2, S1, d1, [1], 1⟩ hs 6 T ⟨0, ⟨#[]⟩⟩ (by assumption) hH (by omega) (by simp) w _ kk) ?_)
  rintro _ _ ⟨e, ys, A2, c2, vs', A', c', hq, rfl, rfl⟩
  obtain ⟨rfl, hy, rfl⟩ := act_scan hH (by rw [hps]; exact hq)
  have hyl : ys.length ≤ 80 := by
    rw [hy.2.2, seenL, List.length_map]
    exact Nat.le_trans (List.length_filter_le _ _) (by omega)
  have hH2 : (hs.set T ⟨H.h, A', c', H.vs⟩)[T]? = some ⟨H.h, A', c', H.vs⟩ := List.getElem?_set_self (by omega)
  have hps2 : psH (hs.set T ⟨H.h, A', c', H.vs⟩) = ps := by rw [psH_set hH]; exact hps
  obtain ⟨hs2, hhs2⟩ : ∃ hs2, hs2 = hs.set T ⟨H.h, A', c', H.vs⟩ := ⟨_, rfl⟩
  rw [← hhs2] at hH2 hps2 ⊢
  have hl2 : hs2.length = 3 := by rw [hhs2, List.length_set]; exact hlen
  clear hhs2
  have hha : heapAt ps T = some ⟨H.h, 0, none⟩ := by have := psH_at hH2; rw [← hps2]; exact this
  refine VC_sound tabOk 100 ?_
  refine Go_res ([own encR 2 26 A2 c2 ys, .blk b13 50 (VwM.cs ⟨2, S1, d1, [1], 1⟩)] ++ (relC br Ap cp ps m b1 b2 ⟨2, [1], []⟩ ⟨2, S1, d1, [1], 1⟩ hs2)) (fun _ h => h.permRs (List.Perm.cons _ List.perm_append_comm)) ?_
  refine Go_ops rfl (OpTo_pcall (v := .pointer (some ⟨H.h, 0, none⟩)) rfl rfl rfl rfl rfl (by kernel_rfl) (fun w hm _ => by have := rel_heap br Ap cp ps T w (hm.blk_at (i := 5) rfl) (hm.own_rd (i := 6) rfl); rw [hha] at this; exact this) ?_)
  refine VC_sound tabOk 100 ?_
  refine Go_ops rfl (OpTo_pcall (v := .int .i64 H.vs.length) rfl rfl rfl rfl rfl (by kernel_rfl) (fun w hm _ => hp_len H.h m b1 b2 ⟨2, [1], []⟩ A' c' H.vs w (relC_at hH2 (hm.drop (a := [own encR 2 26 A2 c2 ys, .blk b13 50 (VwM.cs ⟨2, S1, d1, [1], 1⟩)])))) ?_)
  refine VC_sound tabOk 100 ?_
  (repeat (first | refine Or.inl ⟨rfl, rfl, ?_⟩ | refine Or.inl ⟨rfl, ?_⟩ | refine Or.inr ?_))
  refine ⟨by decide, _, hK6.symm, ?_⟩
  refine ⟨_, wrap_i64 (n := (K6 : Int)) (by omega) (by omega), ?_⟩
  show Go _ _ _ _
  refine Go_ops rfl (OpTo_mcall (relC br Ap cp ps m b1 b2 ⟨2, [1], []⟩ ⟨2, S1, d1, [1], 1⟩ hs2) [own encR 2 26 A2 c2 ys, .blk b13 50 (VwM.cs ⟨2, S1, d1, [1], 1⟩)] List.perm_append_comm rfl rfl rfl rfl rfl (by kernel_rfl) (fun w hb hm hio hsp kk => rel_runA br Ap cp ps m b1 b2 ⟨2, [1], []⟩ ⟨2, S1, d1, [1], 1⟩ hs2 5 T ⟨(K6 : Int), ⟨#[]⟩⟩ (by assumption) hH2 (by dsimp only; omega) (by simp) w _ kk) ?_)
  rintro _ _ ⟨e, gs, A3, c3, vs', A9, c9, hq, rfl, rfl⟩
  obtain ⟨rfl, hg, hge⟩ := get_scan hH2 hHu hy (by rw [hps2]; exact hq)
  dsimp only at hg
  have hH3 : (hs2.set T ⟨H.h, A9, c9, H.vs⟩)[T]? = some ⟨H.h, A9, c9, H.vs⟩ := List.getElem?_set_self (by omega)
  have hps3 : psH (hs2.set T ⟨H.h, A9, c9, H.vs⟩) = ps := by
    have := psH_set hH2 A9 c9 H.vs
    rw [← hps2]; exact this
  obtain ⟨hs3, hhs3⟩ : ∃ hs3, hs3 = hs2.set T ⟨H.h, A9, c9, H.vs⟩ := ⟨_, rfl⟩
  have hl3 : hs3.length = 3 := by rw [hhs3, List.length_set]; exact hl2
  rw [← hhs3] at hH3 hps3 ⊢
  clear hhs3
  refine Go_res ([own encR 2 26 A3 c3 gs, own encR 2 26 A2 c2 ys, .blk b13 50 (VwM.cs ⟨2, S1, d1, [1], 1⟩)] ++ (relC br Ap cp ps m b1 b2 ⟨2, [1], []⟩ ⟨2, S1, d1, [1], 1⟩ hs3)) (fun _ h => h.permRs (List.Perm.cons _ List.perm_append_comm)) ?_
  refine VC_sound tabOk 100 ?_
  (repeat (first | refine Or.inl ⟨rfl, rfl, ?_⟩ | refine Or.inl ⟨rfl, ?_⟩ | refine Or.inr ?_))
  refine ⟨_, wrap_i64 (n := kind) (by omega) (by omega), ?_⟩
  show Go _ _ _ _
  refine Go_ops rfl (OpTo_mcall (relC br Ap cp ps m b1 b2 ⟨2, [1], []⟩ ⟨2, S1, d1, [1], 1⟩ hs3) [own encR 2 26 A3 c3 gs, own encR 2 26 A2 c2 ys, .blk b13 50 (VwM.cs ⟨2, S1, d1, [1], 1⟩)] List.perm_append_comm rfl rfl rfl rfl rfl (by kernel_rfl) (fun w hb hm hio hsp kk => rel_runA br Ap cp ps m b1 b2 ⟨2, [1], []⟩ ⟨2, S1, d1, [1], 1⟩ hs3 6 T ⟨kind, ⟨#[]⟩⟩ (by assumption) hH3 (by dsimp only; omega) (by simp) w _ kk) ?_)
  rintro _ _ ⟨e4, zs, A4, c4, vs', A8, c8, hq, rfl, rfl⟩
  obtain ⟨rfl, hz, rfl⟩ := act_scan hH3 (by rw [hps3]; exact hq)
  obtain rfl := hy.unique hz
  have hH4 : (hs3.set T ⟨H.h, A8, c8, H.vs⟩)[T]? = some ⟨H.h, A8, c8, H.vs⟩ := List.getElem?_set_self (by omega)
  have hps4 : psH (hs3.set T ⟨H.h, A8, c8, H.vs⟩) = ps := by
    have := psH_set hH3 A8 c8 H.vs
    rw [← hps3]; exact this
  obtain ⟨hs4, hhs4⟩ : ∃ hs4, hs4 = hs3.set T ⟨H.h, A8, c8, H.vs⟩ := ⟨_, rfl⟩
  rw [← hhs4] at hH4 hps4 ⊢
  clear hhs4
  obtain ⟨cnt, hcnt⟩ : ∃ cnt : Nat → Nat, ∀ i, cnt i = ((ys.take i).filter fun y => decide (y.key = (K6 : Int))).length := ⟨_, fun _ => rfl⟩
  have hcl : ∀ i, cnt i ≤ ys.length := fun i => by
    rw [hcnt]
    exact Nat.le_trans (List.length_filter_le _ _) (by simp; omega)
  refine VC_sound tabOk 100 ?_
  refine Go_loop (σ := Nat) (fun i => [(2, .v (.int .u8 key)), (10, .v (.pointer (some ⟨br, 0, none⟩))), (15, .v (.int .i64 T)), (16, .v (.slice A2 ys.length c2)), (18, .v (.int .i64 H.vs.length)), (19, .v (.slice A3 gs.length c3)), (20, .v (.int .i64 e)), (21, .v (.slice A4 ys.length c4)), (22, .v (.int .i64 0)), (23, .v (.int .i64 (cnt i))), (24, .v (.int .i64 i))]) (fun _ => [own encR 2 26 A3 c3 gs, own encR 2 26 A2 c2 ys, own encR 2 26 A4 c4 ys] ++ (relC br Ap cp ps m b1 b2 ⟨2, [1], []⟩ ⟨2, S1, d1, [1], 1⟩ hs4)) (fun i => i ≤ ys.length) (fun i => ys.length - i) 0 (Nat.zero_le _) ⟨rfl, rfl, rfl, rfl, rfl, rfl, rfl, rfl, rfl, by rw [hcnt]; rfl, rfl, trivial⟩ (fun w h => ((show Mod _ (own encR 2 26 A4 c4 ys :: ((relC br Ap cp ps m b1 b2 ⟨2, [1], []⟩ ⟨2, S1, d1, [1], 1⟩ hs4) ++ [own encR 2 26 A3 c3 gs, own encR 2 26 A2 c2 ys, .blk b13 50 (VwM.cs ⟨2, S1, d1, [1], 1⟩)])) w from h).permRs (b := .blk b13 50 (VwM.cs ⟨2, S1, d1, [1], 1⟩) :: ([own encR 2 26 A3 c3 gs, own encR 2 26 A2 c2 ys, own encR 2 26 A4 c4 ys] ++ (relC br Ap cp ps m b1 b2 ⟨2, [1], []⟩ ⟨2, S1, d1, [1], 1⟩ hs4))) (by classical exact List.perm_iff_count.2 fun a => by simp only [txB, relR, List.set_cons_zero, List.set_cons_succ, List.eraseIdx_cons_succ, List.eraseIdx_cons_zero, List.cons_append, List.nil_append, List.count_cons, List.count_append, List.count_nil]; omega)).dropAt 0) ?_
  intro i hi
  dsimp only at hi ⊢
  by_cases hlt : i < ys.length
  · refine Go_with _ (fun w hm _ => hm.own_some (i := 1) rfl (ne_nil_of_lt hlt)) ?_
    rintro ⟨ba, oa, rfl⟩
    obtain ⟨y, hgy⟩ : ∃ y, ys[i]? = some y := ⟨_, List.getElem?_eq_getElem hlt⟩
    have hstep : cnt (i + 1) = cnt i + if y.key = (K6 : Int) then 1 else 0 := by
      rw [hcnt, hcnt, List.take_add_one, hgy, List.filter_append, List.length_append]
      congr 1
      by_cases hk : y.key = (K6 : Int) <;> simp [hk]
    have hc1 := hcl i
    refine VC_sound tabOk 100 ?_
    refine ⟨fun _ => ?_, fun h => by first | (simp at h; done) | (simp at h; omega) | (simp_all; done)⟩
    refine ⟨⟨by omega, by omega⟩, ?_⟩
    refine Or.inr (findR_E ?_)
    refine Go_ops rfl (OpTo_loadPart tabOk encR_is (n := i) (j := 0) (.int .i64 y.key) rfl rfl rfl (fun w hm _ => hm.own_rd (i := 1) rfl) hgy rfl (by simp only [addA]; rfl) ?_)
    refine VC_sound tabOk 100 ?_
    refine ⟨by decide, _, hK6.symm, ?_⟩
    refine ⟨_, wrap_i64 (n := (K6 : Int)) (by omega) (by omega), ?_⟩
    refine ⟨fun hk => ?_, fun hk => ?_⟩
    · have hk' : y.key = (K6 : Int) := by simpa using hk
      have hgs : gs = [y] := by
        have hm : y ∈ gs := by rw [← hg]; exact List.mem_filter.2 ⟨List.mem_of_getElem? hgy, by simpa using hk'⟩
        rcases hge with ⟨h0, _⟩ | ⟨z, h0, _⟩
        · rw [h0] at hm; cases hm
        · rw [h0] at hm ⊢; simp at hm; rw [hm]
      rw [if_pos hk'] at hstep
      subst hgs
      refine ⟨_, wrap_i64 (n := (cnt i : Int) + 1) (by omega) (by omega), ?_⟩
      refine Go_with _ (fun w hm _ => hm.own_some (i := 0) rfl (by simp)) ?_
      rintro ⟨bg, og, rfl⟩
      show Go _ _ _ _
      refine Go_any mixed [] [(0, false), (1, false), (2, false), (3, false), (4, false), (5, false), (7, false), (8, false), (9, false), (6, false), (10, false), (11, false), (12, false)] rfl (by kernel_rfl) (by kernel_rfl) [] (fun w => RdW w (some ⟨bg, og, none⟩) ([y].flatMap encR) ∧ RdW w (some ⟨ba, oa, none⟩) (ys.flatMap encR)) (fun w w' hk h => ⟨h.1.old hk, h.2.old hk⟩) (fun w hm _ => ⟨trivial, by exact Mod.own_rd (k := 2) (T := 26) (c := c3) (i := 0) hm rfl, by exact Mod.own_rd (k := 2) (T := 26) (c := c2) (i := 1) hm rfl⟩) ?_
      refine VC_sound tabOk 100 ?_
      refine ⟨fun h => by first | (simp at h; done) | (simp at h; omega) | (simp_all; done), fun _ => ?_⟩
      refine ⟨⟨by omega, by simp⟩, ?_⟩
      refine ⟨⟨by omega, by omega⟩, ?_⟩
      refine Go_first (v := mkR y) rfl rfl rfl rfl (fun w _ hw => rxLoadRow tabOk rfl encR_is rfl (fun h => by first | rfl | cases h) hw.1 (n := 0) rfl (by simp only [addA]; rfl) rfl) ?_
      refine VC_sound tabOk 100 ?_
      refine Go_first (v := mkR y) rfl rfl rfl rfl (fun w _ hw => rxLoadRow tabOk rfl encR_is rfl (fun h => by first | rfl | cases h) hw.2 hgy (by simp only [addA]; rfl) rfl) ?_
      refine VC_sound tabOk 100 ?_
      refine Go_firstB (.bool (!rowEq y y)) rfl rfl rfl rfl rfl (fun w => row_neq y y _ _ w) ?_
      rw [rowEq_self]
      refine VC_sound tabOk 100 ?_
      refine ⟨fun h => by first | (simp at h; done) | (simp at h; omega) | (simp_all; done), fun _ => ?_⟩
      refine ⟨_, wrap_i64 (n := (i : Int) + 1) (by omega) (by omega), ?_⟩
      exact Go_fin (i + 1) (by omega) (by omega) ⟨rfl, rfl, rfl, rfl, rfl, rfl, rfl, rfl, rfl, by rw [hstep]; rfl, rfl, trivial⟩ (fun _ h => h)
    · have hk' : ¬ y.key = (K6 : Int) := by simpa using hk
      rw [if_neg hk'] at hstep
      refine ⟨_, wrap_i64 (n := (i : Int) + 1) (by omega) (by omega), ?_⟩
      exact Go_fin (i + 1) (by omega) (by omega) ⟨rfl, rfl, rfl, rfl, rfl, rfl, rfl, rfl, rfl, by rw [hstep]; rfl, rfl, trivial⟩ (fun _ h => h)
  have he : i = ys.length := by omega
  subst he
  have hce : cnt ys.length = gs.length := by rw [hcnt, List.take_length, hg]
  rw [hce]
  have hha4 : heapAt ps T = some ⟨H.h, 0, none⟩ := hha
  refine VC_sound tabOk 100 ?_
  refine ⟨fun h => by first | (simp at h; done) | (simp at h; omega) | (simp_all; done), fun _ => ?_⟩
  refine ⟨fun _ => ?_, fun h => by first | (simp at h; done) | (simp at h; omega) | (simp_all; done)⟩
  refine Go_ops rfl (OpTo_pcall (v := .bool true) rfl rfl rfl rfl rfl (by kernel_rfl) (fun w hm _ => r07_rows A2 A4 c2 c4 ys w (hm.own_rd (i := 1) rfl) (hm.own_rd (i := 2) rfl) (by omega)) ?_)
  refine VC_sound tabOk 100 ?_
  refine ⟨fun _ => ?_, fun h => by simp at h⟩
  refine Go_ops rfl (OpTo_pcall (v := .pointer (some ⟨H.h, 0, none⟩)) rfl rfl rfl rfl rfl (by kernel_rfl) (fun w hm _ => by have := rel_heap br Ap cp ps T w (hm.blk_at (i := 6) rfl) (hm.own_rd (i := 7) rfl); rw [hha] at this; exact this) ?_)
  refine VC_sound tabOk 100 ?_
  refine Go_ops rfl (OpTo_pcall (v := .int .i64 H.vs.length) rfl rfl rfl rfl rfl (by kernel_rfl) (fun w hm _ => hp_len H.h m b1 b2 ⟨2, [1], []⟩ A8 c8 H.vs w (relC_at hH4 (hm.drop (a := [own encR 2 26 A3 c3 gs, own encR 2 26 A2 c2 ys, own encR 2 26 A4 c4 ys])))) ?_)
  rcases hge with ⟨rfl, rfl⟩ | ⟨y, rfl, rfl⟩
  · refine VC_sound tabOk 100 ?_
    refine ⟨fun _ => ?_, fun h => by first | (simp at h; done) | (simp at h; omega) | (simp_all; done)⟩
    refine ⟨fun _ => ?_, fun h => by first | (simp at h; done) | (simp at h; omega) | (simp_all; done)⟩
    refine ⟨fun h => by first | (simp at h; done) | (simp at h; omega) | (simp_all; done), fun _ => ?_⟩
    refine ⟨fun _ => ?_, fun h => by first | (simp at h; done) | (simp at h; omega) | (simp_all; done)⟩
    exact congrArg Value.bool (by simp)
  · refine VC_sound tabOk 100 ?_
    refine ⟨fun _ => ?_, fun h => by first | (simp at h; done) | (simp at h; omega) | (simp_all; done)⟩
    refine ⟨fun _ => ?_, fun h => by first | (simp at h; done) | (simp at h; omega) | (simp_all; done)⟩
    refine ⟨fun _ => ?_, fun h => by first | (simp at h; done) | (simp at h; omega) | (simp_all; done)⟩
    rfl
end Go.Proofs.Ytbhlkninmbafcaa
