/- The law RelPlays: what its run comes to. -/
import Derived.Test.YtbhlkninmbafcaaGreatL08h
set_option maxRecDepth 100000
set_option autoImplicit false
set_option linter.unusedVariables false
set_option linter.unusedSimpArgs false
namespace Go.Proofs.YtbhlkninmbafcaaGreat
open Go.RX Go Go.RowKit Go.ChangeShapes Go.WideShapes Go.ChangeAt

theorem tmod_nat8p (k : Nat) (hk : 0 < k) {n : Int} (h : 0 ≤ n) : ∃ K : Nat, n.tmod k = K ∧ K < k := by
  have h1 := Int.tmod_nonneg (k : Int) h
  have h2 := Int.tmod_lt_of_pos n (b := (k : Int)) (by omega)
  exact ⟨(n.tmod k).toNat, by omega, by omega⟩
theorem tmod_btw8 (n : Int) (k : Int) (hk : 0 < k) : -k < n.tmod k ∧ n.tmod k < k := by
  refine ⟨?_, Int.tmod_lt_of_pos n hk⟩
  by_cases h : 0 ≤ n
  · have := Int.tmod_nonneg k h; omega
  · have h1 := Int.tmod_lt_of_pos (-n) hk
    rw [Int.neg_tmod] at h1; omega
/-- The views that were taken. -/
def VwsI (n : Nat) (vws : List VwM) (L : List (Option Addr × List Value)) : Prop := vws.length ≤ n ∧ ∀ v ∈ vws, (v.S, v.op.flatMap (encI .i64)) ∈ L ∧ v.op.length ≤ 1000
theorem VwsI.up {n : Nat} {vws : List VwM} {L : List (Option Addr × List Value)} (h : VwsI n vws L) : VwsI (n + 1) vws L := ⟨by have := h.1; omega, h.2⟩
theorem VwsI.put {n : Nat} {vws : List VwM} {L : List (Option Addr × List Value)} (h : VwsI n vws L) {v : VwM} (hv : v.op.length ≤ 1000) : VwsI (n + 1) (vws ++ [v]) ((v.S, v.op.flatMap (encI .i64)) :: L) := by
  refine ⟨by have := h.1; simp; omega, fun u hu => ?_⟩
  rcases List.mem_append.1 hu with hu | hu
  · exact ⟨List.mem_cons_of_mem _ (h.2 u hu).1, (h.2 u hu).2⟩
  · simp at hu; subst hu; exact ⟨List.mem_cons_self, hv⟩

theorem opsOf_len8 (k : Int) (r : RowM) (rows : List RowM) : (opsOf k r rows).length ≤ rows.length + 1 := by
  unfold opsOf; split
  · simp
  split
  · simp
  split <;> simp
theorem runR_ys {st : Int → Int} {v : VwM} {vs vs' : List VerM} {k e : Int} {r : RowM} {ys : List RowM} (h : runR st v vs k r e ys vs') : ys.length ≤ vs.length + 1 := by
  have hsl := seenL_len st v vs
  rcases h with ⟨_, _, rfl, _⟩ | ⟨_, rfl, _⟩ | ⟨_, rfl, _⟩ | ⟨_, h⟩ | ⟨_, _, h⟩ | ⟨_, _, _, h⟩
  · simp
  · simp
  · simp
  · rcases h with ⟨_, _, rfl, _⟩ | ⟨_, _, _, rfl, _⟩ | ⟨_, _, _, h, _⟩
    · simp
    · simp
    · have := h.2.2; omega
  · rcases h with ⟨_, _, rfl⟩ | ⟨x, _, _, rfl⟩ <;> simp
  · have := h.2.2; omega
theorem anyR_ys {st : Int → Int} {v : VwM} {hs hs' : List Hp} {k t e : Int} {r : RowM} {ys : List RowM} {n : Nat} (hn : ∀ H ∈ hs, H.vs.length ≤ n) (h : anyR st v hs k t r e ys hs') : ys.length ≤ n + 1 := by
  rcases h with ⟨_, T, H, A', c', vs', rfl, hT, hq, _⟩ | ⟨_, _, rfl, _⟩
  · have := runR_ys hq
    have := hn H (List.mem_of_getElem? hT)
    omega
  · simp

set_option maxHeartbeats 32000000 in
theorem l08_RelPlays (tables : Int) (A0 : Option Addr) (c0 : Nat) (l : List ActM) (w0 : World) (hr : RdW w0 A0 (l.flatMap encA)) (hok : ∀ z ∈ l, okA w0 z) (hl : l.length ≤ 9223372036854775807) :
    Calls Tryz.prog 3 #[.int .i64 tables, .slice A0 l.length c0] w0 fun e w' => e = .returned (.bool true) ∧ BelowD w0.heap.size w0 w' := by
  refine enterP (tab := tab) Tryz.func3 rfl Tryz.ntmps3 rfl (args := [_, _]) rfl ?_
  refine VC_sound tabOk 100 ?_
  refine Go_ops rfl (OpTo_pcall (v := .bool true) rfl rfl rfl rfl rfl (by kernel_rfl) (fun w hm _ => l8_row w) ?_)
  refine VC_sound tabOk 100 ?_
  refine ⟨fun h => by first | (simp at h; done) | (simp at h; omega) | (simp_all; done), fun _ => ?_⟩
  refine Go_ops rfl (OpTo_pcall (v := .bool (smallP8 l)) rfl rfl rfl rfl rfl (by kernel_rfl) (fun w hm _ => l08_small A0 c0 l w (hr.mod hm) hl) ?_)
  refine VC_sound tabOk 100 ?_
  refine ⟨fun hc => ?_, fun hc => ?_⟩
  · refine Go_ops rfl (OpTo_pcall (v := .bool true) rfl rfl rfl rfl rfl (by kernel_rfl) (fun w hm _ => l8_row w) ?_)
    refine VC_sound tabOk 100 ?_
    rfl
  have hl80 : l.length ≤ 80 := smallP8_len (by simpa using hc)
  show Go _ _ _ _
  refine Go_ops rfl (OpTo_ncall rfl rfl rfl rfl rfl (by kernel_rfl) (fun w hm _ => txn_new w) ?_)
  rintro _ _ ⟨m, b1, b2, rfl, rfl⟩
  refine VC_sound tabOk 100 ?_
  intro r6 _
  have hn6 := tmod_btw8 tables 6 (by decide)
  refine ⟨by decide, _, rfl, ?_⟩
  generalize tables.tmod 6 = n at hn6
  show Go _ _ _ _
  refine Go_ops rfl (OpTo_ncall rfl rfl rfl rfl rfl (by kernel_rfl) (fun w hm _ => rel_newH m n w (by omega)) ?_)
  rintro _ _ ⟨br, Ap, cp, hs0, rfl, hlen0, hvs0, rfl⟩
  refine VC_sound tabOk 100 ?_
  show Go _ _ _ _
  refine Go_ops rfl (OpTo_ncall rfl rfl rfl rfl rfl (by kernel_rfl) (fun w hm _ => q_new r6 n w (by omega)) ?_)
  rintro _ _ ⟨b8, Aq, cq, hq0, rfl, hlenq, hvq, rfl⟩
  have h14 : 1 ≤ tabs n ∧ tabs n ≤ 4 := by unfold tabs; omega
  have hpl := psH_len hs0
  have hpq := psH_len hq0
  refine VC_sound tabOk 100 ?_
  refine Go_res ([.blk br 78 [.slice Ap (psH hs0).length cp], own encP 1 79 Ap cp (psH hs0), .blk b8 39 [.slice Aq (psH hq0).length cq], own encP 1 81 Aq cq (psH hq0)] ++ ((txB m b1 b2 ⟨1, [], []⟩ ++ hsR m hs0) ++ (refB r6 none 0 [] ++ hsQ r6 hq0))) (fun w h => ((show Mod _ ((.blk b8 39 [.slice Aq (psH hq0).length cq] :: own encP 1 81 Aq cq (psH hq0) :: hsQ r6 hq0) ++ ((relR br Ap cp (psH hs0) ++ hsR m hs0) ++ (.blk r6 30 [.slice none 0 0] :: txB m b1 b2 ⟨1, [], []⟩))) w from h).own_nil (enc := encU) (k := 1) (T := 5) none).permRs (by classical exact List.perm_iff_count.2 fun a => by simp only [relD, qlD, refB, relR, txB, List.length_nil, List.set_cons_zero, List.set_cons_succ, List.eraseIdx_cons_succ, List.eraseIdx_cons_zero, List.cons_append, List.nil_append, List.count_cons, List.count_append, List.count_nil]; omega)) ?_
  show Go _ _ _ _
  refine Go_any mixed [] [(0, false), (2, false), (3, false), (4, false), (5, false), (6, false), (1, true), (7, false)] rfl (by kernel_rfl) (by kernel_rfl) [.blk b8 39 [.slice Aq (psH hq0).length cq]] (fun _ => True) (fun _ _ _ h => h) (fun w hm _ => ⟨Holds.of_idx [2] hm, trivial⟩) ?_
  refine VC_sound tabOk 100 ?_
  (repeat (first | refine Or.inl ⟨rfl, rfl, ?_⟩ | refine Or.inl ⟨rfl, ?_⟩ | refine Or.inr ?_))
  refine Go_aloneL rfl rfl (OpTo_pcall (v := .int .i64 (psH hs0).length) rfl rfl rfl rfl rfl (by kernel_rfl) (fun w hm _ => rel_tables br Ap (psH hs0).length cp w (hm.blk_at (i := 0) rfl)) ?_)
  refine And.intro (fun w hm _ => ⟨Holds.of_idx [2] hm, trivial⟩) ?_
  refine VC_sound tabOk 100 ?_
  refine ⟨fun h => by simp [hpl, hpq, hlen0, hlenq] at h, fun _ => ?_⟩
  obtain ⟨psr, hpsr⟩ : ∃ psr, psH hs0 = psr := ⟨_, rfl⟩
  obtain ⟨psq, hpsq⟩ : ∃ psq, psH hq0 = psq := ⟨_, rfl⟩
  have hS0 : SameH 0 hs0 hq0 := by
    have e1 : ∀ (hs : List Hp), (∀ H ∈ hs, H.vs = []) → hs.map Hp.vs = List.replicate hs.length [] := fun hs h => List.eq_replicate_iff.2 ⟨by simp, fun b hb => by obtain ⟨H, hH, rfl⟩ := List.mem_map.1 hb; exact h H hH⟩
    exact ⟨by rw [e1 hs0 hvs0, e1 hq0 hvq, hlen0, hlenq], by omega, fun H hH => by rw [hvs0 H hH]; simp⟩
  refine Go_loop (σ := Nat × TxS × List Hp × Option Addr × Nat × List Int × List Hp × Option Addr × Nat × List VwM × List (Option Addr × List Value)) (fun ⟨i, s, hs, Ar, cr, R, hq, Av, cv, vws, L⟩ => [(1, .v (.slice A0 l.length c0)), (5, .v (.pointer (some ⟨m, 0, none⟩))), (6, .v (.pointer (some ⟨r6, 0, none⟩))), (8, .v (.pointer (some ⟨br, 0, none⟩))), (9, .v (.pointer (some ⟨b8, 0, none⟩))), (10, .v (.slice Av vws.length cv)), (11, .v (.int .i64 i))]) (fun ⟨i, s, hs, Ar, cr, R, hq, Av, cv, vws, L⟩ => [own encW 3 50 Av cv vws, ro L] ++ (relD br Ap cp psr m b1 b2 s hs ++ qlD b8 Aq cq psq r6 Ar cr R hq)) (fun ⟨i, s, hs, Ar, cr, R, hq, Av, cv, vws, L⟩ => i ≤ l.length ∧ psH hs = psr ∧ psH hq = psq ∧ SameH i hs hq ∧ Alike s R ∧ R.length ≤ i ∧ (pos 1 R).length ≤ 6 ∧ VwsI i vws L) (fun u => l.length - u.1) (0, ⟨1, [], []⟩, hs0, none, 0, [], hq0, none, 0, [], []) ⟨Nat.zero_le _, hpsr, hpsq, hS0, Alike.start, Nat.le_refl _, by simp [posF], Nat.le_refl _, by simp⟩ ⟨rfl, rfl, rfl, rfl, rfl, rfl, rfl, trivial⟩ (fun w h => by subst hpsr hpsq; exact (((show Mod _ ([.blk br 78 [.slice Ap (psH hs0).length cp], own encP 1 79 Ap cp (psH hs0), .blk b8 39 [.slice Aq (psH hq0).length cq], own encP 1 81 Aq cq (psH hq0)] ++ ((txB m b1 b2 ⟨1, [], []⟩ ++ hsR m hs0) ++ (refB r6 none 0 [] ++ hsQ r6 hq0))) w from h).ro_nil).own_nil (enc := encW) (k := 3) (T := 50) none).permRs (by classical exact List.perm_iff_count.2 fun a => by simp only [relD, qlD, refB, relR, txB, List.length_nil, List.set_cons_zero, List.set_cons_succ, List.eraseIdx_cons_succ, List.eraseIdx_cons_zero, List.cons_append, List.nil_append, List.count_cons, List.count_append, List.count_nil]; omega)) ?_
  rintro ⟨i, s, hs, Ar, cr, R, hq, Av, cv, vws, L⟩ ⟨hi, hps, hpsq1, hS, hal, hRl, hO6, hW⟩
  dsimp only at hi hps hpsq1 hS hal hRl hO6 hW ⊢
  have hsl := hS.len
  have hst := hal.cons
  have hnx := hal.next
  by_cases hlt : i < l.length
  rotate_left
  · have he : i = l.length := by omega
    subst he
    refine VC_sound tabOk 100 ?_
    refine ⟨fun h => by first | (simp at h; done) | (simp at h; omega) | (simp_all; done), fun _ => ?_⟩
    show Go _ _ _ _
    refine Go_ops rfl (OpTo_mcall (txB m b1 b2 s) ([own encW 3 50 Av cv vws, ro L] ++ (([.blk br 78 [.slice Ap psr.length cp], own encP 1 79 Ap cp psr] ++ hsR m hs) ++ qlD b8 Aq cq psq r6 Ar cr R hq)) (by classical exact List.perm_iff_count.2 fun a => by simp only [relD, qlD, refB, relR, txB, List.length_nil, List.set_cons_zero, List.set_cons_succ, List.eraseIdx_cons_succ, List.eraseIdx_cons_zero, List.cons_append, List.nil_append, List.count_cons, List.count_append, List.count_nil]; omega) rfl rfl rfl rfl rfl (by kernel_rfl) (fun w hb hm hio hsp k => txn_now m b1 b2 s (by rw [hal.O]; omega) w _ k) ?_)
    rintro _ _ ⟨S1, d1, ks, rfl, hp1, hr1, rfl⟩
    have hks : ks = pos 1 R := open_is (by rw [← hal.O]; exact hp1) hr1
    subst hps hpsq1
    refine VC_sound tabOk 100 ?_
    show Go _ _ _ _
    refine Go_ops rfl (OpTo_mcall (relD br Ap cp (psH hs) m b1 b2 s hs) ([own (encI .i64) 1 2 S1 d1 ks, own encW 3 50 Av cv vws, ro L] ++ qlD b8 Aq cq (psH hq) r6 Ar cr R hq) (by classical exact List.perm_iff_count.2 fun a => by simp only [relD, qlD, refB, relR, txB, List.length_nil, List.set_cons_zero, List.set_cons_succ, List.eraseIdx_cons_succ, List.eraseIdx_cons_zero, List.cons_append, List.nil_append, List.count_cons, List.count_append, List.count_nil]; omega) rfl rfl rfl rfl rfl (by kernel_rfl) (fun w hb hm hio hsp k => rel_vacuum br Ap cp m b1 b2 s hs s.next S1 d1 ks ⟨by omega, by omega⟩ (fun H hH => by have := hS.ub H hH; omega) (by rw [hks]; omega) w _ k (RdF.of_split hsp fun Rs w h => h.own_behind (i := 0) rfl)) ?_)
    rintro _ _ ⟨rfl, hs2, rfl⟩
    refine Go_res ([own (encI .i64) 1 2 S1 d1 ks, own encW 3 50 Av cv vws, ro L] ++ (qlD b8 Aq cq (psH hq) r6 Ar cr R hq ++ relD br Ap cp (psH hs) m b1 b2 s hs2)) (fun w h => h.permRs (by classical exact List.perm_iff_count.2 fun a => by simp only [relD, qlD, refB, relR, txB, List.length_nil, List.set_cons_zero, List.set_cons_succ, List.eraseIdx_cons_succ, List.eraseIdx_cons_zero, List.cons_append, List.nil_append, List.count_cons, List.count_append, List.count_nil]; omega)) ?_
    refine VC_sound tabOk 100 ?_
    show Go _ _ _ _
    refine Go_ops rfl (OpTo_ncall rfl rfl rfl rfl rfl (by kernel_rfl) (fun w hm _ => r06_now r6 Ar cr R w (hm.blk_at (i := 3) rfl) (hm.own_rd (i := 4) rfl) (by omega)) ?_)
    rintro _ _ ⟨S2, d2, rfl, rfl⟩
    refine VC_sound tabOk 100 ?_
    show Go _ _ _ _
    refine Go_ops rfl (OpTo_mcall (qlD b8 Aq cq (psH hq) r6 Ar cr R hq) ([own (encI .i64) 1 2 S2 d2 (pos 1 R), own (encI .i64) 1 2 S1 d1 ks, own encW 3 50 Av cv vws, ro L] ++ relD br Ap cp (psH hs) m b1 b2 s hs2) (by classical exact List.perm_iff_count.2 fun a => by simp only [relD, qlD, refB, relR, txB, List.length_nil, List.set_cons_zero, List.set_cons_succ, List.eraseIdx_cons_succ, List.eraseIdx_cons_zero, List.cons_append, List.nil_append, List.count_cons, List.count_append, List.count_nil]; omega) rfl rfl rfl rfl rfl (by kernel_rfl) (fun w hb hm hio hsp k => q_vacuum b8 Aq cq r6 Ar cr R hq ((R.length : Int) + 1) S2 d2 (pos 1 R) (by omega) ⟨by rw [hS.len2]; omega, by rw [hS.len2]; omega⟩ (fun H hH => by have := hS.ub2 H hH; omega) (by omega) w _ k (RdF.of_split hsp fun Rs w h => h.own_behind (i := 0) rfl)) ?_)
    rintro _ _ ⟨rfl, hq2, rfl⟩
    have hval : vsum (stE s) s.next ks (hs.map Hp.vs) = vsum (rState R) ((R.length : Int) + 1) (pos 1 R) (hq.map Hp.vs) := by rw [hst, hnx, hks, hS.vs]
    refine VC_sound tabOk 100 ?_
    exact congrArg Value.bool (by rw [hval]; simp)
  obtain ⟨bk, ok, rfl⟩ := RdW.some encA_is hr (ne_nil_of_lt hlt)
  obtain ⟨a, hga⟩ : ∃ a, l[i]? = some a := ⟨_, List.getElem?_eq_getElem hlt⟩
  have hoa := hok a (List.mem_of_getElem? hga)
  obtain ⟨D8, hD8, hD88⟩ := tmod_nat8p 8 (by decide) (bounds_u8 hoa.1).1
  refine VC_sound tabOk 100 ?_
  refine ⟨fun _ => ?_, fun h => by first | (simp at h; done) | (simp at h; omega) | (simp_all; done)⟩
  refine ⟨⟨by omega, by omega⟩, ?_⟩
  refine Or.inr (findR_E ?_)
  refine Go_ops rfl (OpTo_loadRow tabOk encA_is (mkA a) rfl rfl rfl rfl rfl (fun h => by first | rfl | cases h) (fun w hm _ => hr.mod hm) hga (by simp only [addA]; rfl) ?_)
  refine VC_sound tabOk 5 ?_
  intro b12 _
  (repeat (first | refine Or.inl ⟨rfl, rfl, ?_⟩ | refine Or.inl ⟨rfl, ?_⟩ | refine Or.inr ?_))
  show Go _ (KI.code (Code.region _ _ _) :: _) _ _
  refine Go_cut (σ := Unit) (fun _ => [(1, .v (.slice (some ⟨bk, ok, none⟩) l.length c0)), (5, .v (.pointer (some ⟨m, 0, none⟩))), (6, .v (.pointer (some ⟨r6, 0, none⟩))), (8, .v (.pointer (some ⟨br, 0, none⟩))), (9, .v (.pointer (some ⟨b8, 0, none⟩))), (10, .v (.slice Av vws.length cv)), (11, .v (.int .i64 i)), (12, .v (.pointer (some ⟨b12, 0, none⟩))), (70, .v (.bool (decide ((D8 : Int) = 0) || decide ((vws.length : Int) = 0))))]) (fun _ => .blk b12 41 (encA a) :: ([own encW 3 50 Av cv vws, ro L] ++ (relD br Ap cp psr m b1 b2 s hs ++ qlD b8 Aq cq psq r6 Ar cr R hq))) (fun _ => True) ?_ ?_
  · refine VC_sound tabOk 100 ?_
    (repeat (first | refine Or.inl ⟨rfl, rfl, ?_⟩ | refine Or.inl ⟨rfl, ?_⟩ | refine Or.inr ?_))
    refine ⟨by decide, _, hD8.symm, ?_⟩
    refine ⟨fun g => ?_, fun g => ?_⟩
    · exact Go_put () trivial ⟨rfl, rfl, rfl, rfl, rfl, rfl, rfl, rfl, congrArg Value.bool (by simp only [g, Bool.true_or]), trivial⟩ (fun _ h => h)
    · exact Go_put () trivial ⟨rfl, rfl, rfl, rfl, rfl, rfl, rfl, rfl, congrArg Value.bool (by simp only [g, Bool.false_or]), trivial⟩ (fun _ h => h)
  rintro _ _
  cases gq : (decide ((D8 : Int) = 0) || decide ((vws.length : Int) = 0)) with
  | true =>
    refine VC_sound tabOk 100 ?_
    refine ⟨fun _ => ?_, fun h => by first | (simp at h; done) | (simp at h; omega) | (simp_all; done)⟩
    by_cases h6 : (pos 1 R).length < 6
    · refine Go_ops rfl (OpTo_mcall (txB m b1 b2 s) (.blk b12 41 (encA a) :: ([own encW 3 50 Av cv vws, ro L] ++ (([.blk br 78 [.slice Ap psr.length cp], own encP 1 79 Ap cp psr] ++ hsR m hs) ++ qlD b8 Aq cq psq r6 Ar cr R hq))) (by classical exact List.perm_iff_count.2 fun a => by simp only [relD, qlD, refB, relR, txB, List.length_nil, List.set_cons_zero, List.set_cons_succ, List.eraseIdx_cons_succ, List.eraseIdx_cons_zero, List.cons_append, List.nil_append, List.count_cons, List.count_append, List.count_nil]; omega) rfl rfl rfl rfl rfl (by kernel_rfl) (fun w hb hm hio hsp k => txn_begin_ok m b1 b2 s ⟨by rw [hal.O]; exact h6, by omega⟩ (by omega) hal.notO w _ k) ?_)
      rintro _ _ ⟨rfl, rfl⟩
      refine VC_sound tabOk 100 ?_
      show Go _ _ _ _
      refine Go_ops rfl (OpTo_mcall (refB r6 Ar cr R) (.blk b12 41 (encA a) :: ([own encW 3 50 Av cv vws, ro L] ++ (relD br Ap cp psr m b1 b2 (begS s) hs ++ ([.blk b8 39 [.slice Aq psq.length cq], own encP 1 81 Aq cq psq] ++ hsQ r6 hq)))) (by classical exact List.perm_iff_count.2 fun a => by simp only [relD, qlD, refB, relR, txB, List.length_nil, List.set_cons_zero, List.set_cons_succ, List.eraseIdx_cons_succ, List.eraseIdx_cons_zero, List.cons_append, List.nil_append, List.count_cons, List.count_append, List.count_nil]; omega) rfl rfl rfl rfl rfl (by kernel_rfl) (fun w hb hm hio hsp k => r06_begin_ok r6 Ar cr R ⟨h6, by omega⟩ w _ k) ?_)
      rintro _ _ ⟨A1, c1, rfl, rfl⟩
      refine VC_sound tabOk 100 ?_
      refine ⟨fun h => by first | (simp at h; done) | (simp at h; omega) | (simp_all; done), fun _ => ?_⟩
      refine ⟨fun _ => ?_, fun h => by first | (simp at h; done) | (simp at h; omega) | (simp_all; done)⟩
      show Go _ _ _ _
      refine Go_ops rfl (OpTo_ncall rfl rfl rfl rfl rfl (by kernel_rfl) (fun w hm _ => r06_now r6 A1 c1 (R ++ [1]) w (hm.blk_at (i := 0) rfl) (hm.own_rd (i := 1) rfl) (by simp; omega)) ?_)
      rintro _ _ ⟨S9, d9, rfl, rfl⟩
      have hp9 : (pos 1 (R ++ [1])).length ≤ 6 := by rw [pos_append]; simp; omega
      obtain ⟨v9, hv9⟩ : ∃ v9 : VwM, v9 = ⟨((R ++ [1]).length : Int) + 1, S9, d9, pos 1 (R ++ [1]), s.next⟩ := ⟨_, rfl⟩
      refine VC_sound tabOk 100 ?_
      intro b91 _
      show Go _ _ _ _
      refine Go_ops rfl (OpTo_append tabOk encW_is (ys := [(⟨((R ++ [1]).length : Int) + 1, S9, d9, pos 1 (R ++ [1]), s.next⟩ : VwM)]) (i := 5) rfl rfl rfl rfl rfl rfl rfl rfl rfl rfl rfl (fun w hm _ => hm.blk_rd (i := 0) rfl) (by have := hW.1; simp; omega) (by have := hW.1; simp; omega) (fun A5 c5 => ?_))
      refine VC_sound tabOk 100 ?_
      refine ⟨_, wrap_i64 (n := (i : Int) + 1) (by omega) (by omega), ?_⟩
      rw [← hv9]
      have hWv := hW.put (v := v9) (by rw [hv9]; dsimp only; omega)
      refine Go_fin (i + 1, begS s, hs, A1, c1, R ++ [1], hq, A5, c5, vws ++ [v9], (v9.S, v9.op.flatMap (encI .i64)) :: L) ⟨by omega, hps, hpsq1, hS.up, hal.begin, by simp; omega, hp9, hWv⟩ (by dsimp only; omega) ⟨rfl, rfl, rfl, rfl, rfl, ?_, rfl, trivial⟩ (fun w h => ?_)
      · show Value.slice _ _ _ = Value.slice _ _ _
        congr 1
        simp
      · subst hv9
        have h2 := h.dropAt 0
        have h3 := show Mod _ (own (encI .i64) 1 2 S9 d9 (pos 1 (R ++ [1])) :: (refB r6 A1 c1 (R ++ [1]) ++ (.blk b12 41 (encA a) :: ([own encW 3 50 A5 c5 (vws ++ [(⟨((R ++ [1]).length : Int) + 1, S9, d9, pos 1 (R ++ [1]), s.next⟩ : VwM)]), ro L] ++ (relD br Ap cp psr m b1 b2 (begS s) hs ++ ([.blk b8 39 [.slice Aq psq.length cq], own encP 1 81 Aq cq psq] ++ hsQ r6 hq)))))) w from h2
        have h4 := (h3.permRs (b := own (encI .i64) 1 2 S9 d9 (pos 1 (R ++ [1])) :: ro L :: (.blk b12 41 (encA a) :: own encW 3 50 A5 c5 (vws ++ [(⟨((R ++ [1]).length : Int) + 1, S9, d9, pos 1 (R ++ [1]), s.next⟩ : VwM)]) :: (refB r6 A1 c1 (R ++ [1]) ++ (relD br Ap cp psr m b1 b2 (begS s) hs ++ ([.blk b8 39 [.slice Aq psq.length cq], own encP 1 81 Aq cq psq] ++ hsQ r6 hq))))) (by classical exact List.perm_iff_count.2 fun a => by simp only [relD, qlD, refB, relR, txB, List.length_nil, List.set_cons_zero, List.set_cons_succ, List.eraseIdx_cons_succ, List.eraseIdx_cons_zero, List.cons_append, List.nil_append, List.count_cons, List.count_append, List.count_nil]; omega)).ro_add
        exact (h4.permRs (b := .blk b12 41 (encA a) :: ([own encW 3 50 A5 c5 (vws ++ [(⟨((R ++ [1]).length : Int) + 1, S9, d9, pos 1 (R ++ [1]), s.next⟩ : VwM)]), ro ((S9, (pos 1 (R ++ [1])).flatMap (encI .i64)) :: L)] ++ (relD br Ap cp psr m b1 b2 (begS s) hs ++ qlD b8 Aq cq psq r6 A1 c1 (R ++ [1]) hq))) (by classical exact List.perm_iff_count.2 fun a => by simp only [relD, qlD, refB, relR, txB, List.length_nil, List.set_cons_zero, List.set_cons_succ, List.eraseIdx_cons_succ, List.eraseIdx_cons_zero, List.cons_append, List.nil_append, List.count_cons, List.count_append, List.count_nil]; omega)).dropAt 0
    · refine Go_ops rfl (OpTo_mcall (txB m b1 b2 s) (.blk b12 41 (encA a) :: ([own encW 3 50 Av cv vws, ro L] ++ (([.blk br 78 [.slice Ap psr.length cp], own encP 1 79 Ap cp psr] ++ hsR m hs) ++ qlD b8 Aq cq psq r6 Ar cr R hq))) (by classical exact List.perm_iff_count.2 fun a => by simp only [relD, qlD, refB, relR, txB, List.length_nil, List.set_cons_zero, List.set_cons_succ, List.eraseIdx_cons_succ, List.eraseIdx_cons_zero, List.cons_append, List.nil_append, List.count_cons, List.count_append, List.count_nil]; omega) rfl rfl rfl rfl rfl (by kernel_rfl) (fun w hb hm hio hsp k => txn_begin_full m b1 b2 s (.inl (by rw [hal.O]; omega)) w _ k) ?_)
      rintro _ _ ⟨rfl, rfl⟩
      refine VC_sound tabOk 100 ?_
      show Go _ _ _ _
      refine Go_ops rfl (OpTo_mcall (refB r6 Ar cr R) (.blk b12 41 (encA a) :: ([own encW 3 50 Av cv vws, ro L] ++ (relD br Ap cp psr m b1 b2 s hs ++ ([.blk b8 39 [.slice Aq psq.length cq], own encP 1 81 Aq cq psq] ++ hsQ r6 hq)))) (by classical exact List.perm_iff_count.2 fun a => by simp only [relD, qlD, refB, relR, txB, List.length_nil, List.set_cons_zero, List.set_cons_succ, List.eraseIdx_cons_succ, List.eraseIdx_cons_zero, List.cons_append, List.nil_append, List.count_cons, List.count_append, List.count_nil]; omega) rfl rfl rfl rfl rfl (by kernel_rfl) (fun w hb hm hio hsp k => r06_begin_no r6 Ar cr R (by omega) (by omega) w _ k) ?_)
      rintro _ _ ⟨rfl, rfl⟩
      refine VC_sound tabOk 100 ?_
      refine ⟨fun h => by first | (simp at h; done) | (simp at h; omega) | (simp_all; done), fun _ => ?_⟩
      refine ⟨fun h => by first | (simp at h; done) | (simp at h; omega) | (simp_all; done), fun _ => ?_⟩
      refine ⟨_, wrap_i64 (n := (i : Int) + 1) (by omega) (by omega), ?_⟩
      exact Go_fin (i + 1, s, hs, Ar, cr, R, hq, Av, cv, vws, L) ⟨by omega, hps, hpsq1, hS.up, hal, (by show R.length ≤ i + 1; omega), hO6, hW.up⟩ (by dsimp only; omega) ⟨rfl, rfl, rfl, rfl, rfl, rfl, rfl, trivial⟩ (fun w h => (h.permRs (b := .blk b12 41 (encA a) :: ([own encW 3 50 Av cv vws, ro L] ++ (relD br Ap cp psr m b1 b2 s hs ++ qlD b8 Aq cq psq r6 Ar cr R hq))) (by classical exact List.perm_iff_count.2 fun a => by simp only [relD, qlD, refB, relR, txB, List.length_nil, List.set_cons_zero, List.set_cons_succ, List.eraseIdx_cons_succ, List.eraseIdx_cons_zero, List.cons_append, List.nil_append, List.count_cons, List.count_append, List.count_nil]; omega)).dropAt 0)
  | false =>
    simp only [Bool.or_eq_false_iff, decide_eq_false_iff_not] at gq
    have hvl : 0 < vws.length := by omega
    have hWl := hW.1
    refine Go_with _ (fun w hm _ => hm.own_some (i := 1) rfl (ne_nil_of_lt hvl)) ?_
    rintro ⟨bv, ov, rfl⟩
    have hwho := bounds_u8 hoa.2.1
    have hm1 := Int.tmod_nonneg (vws.length : Int) hwho.1
    have hm2 := Int.tmod_lt_of_pos a.who (b := (vws.length : Int)) (by omega)
    obtain ⟨J, hJ⟩ : ∃ J : Nat, (vws.length : Int) - 1 - a.who.tmod vws.length = J := ⟨((vws.length : Int) - 1 - a.who.tmod vws.length).toNat, by omega⟩
    obtain ⟨v, hgv⟩ : ∃ v, vws[J]? = some v := ⟨_, List.getElem?_eq_getElem (by omega)⟩
    have hvm := hW.2 v (List.mem_of_getElem? hgv)
    refine VC_sound tabOk 100 ?_
    refine ⟨fun h => by first | (simp at h; done) | (simp at h; omega) | (simp_all; done), fun _ => ?_⟩
    refine ⟨_, wrap_i64 (n := (vws.length : Int) - 1) (by omega) (by omega), ?_⟩
    (repeat (first | refine Or.inl ⟨rfl, rfl, ?_⟩ | refine Or.inl ⟨rfl, ?_⟩ | refine Or.inr ?_))
    refine ⟨_, wrap_i64 (n := a.who) (by omega) (by omega), ?_⟩
    refine ⟨by omega, _, rfl, ?_⟩
    refine ⟨_, wrap_i64 (n := (vws.length : Int) - 1 - a.who.tmod vws.length) (by omega) (by omega), ?_⟩
    rw [hJ]
    refine ⟨⟨by omega, by omega⟩, ?_⟩
    refine Or.inr (findR_E ?_)
    refine Go_ops rfl (OpTo_loadRow tabOk encW_is (v.v) rfl rfl rfl rfl rfl (fun h => by first | rfl | cases h) (fun w hm _ => hm.own_rd (i := 1) rfl) hgv (by simp only [addA]; rfl) ?_)
    refine VC_sound tabOk 100 ?_
    intro b17 _
    (repeat (first | refine Or.inl ⟨rfl, rfl, ?_⟩ | refine Or.inl ⟨rfl, ?_⟩ | refine Or.inr ?_))
    intro b18 _
    (repeat (first | refine Or.inl ⟨rfl, rfl, ?_⟩ | refine Or.inl ⟨rfl, ?_⟩ | refine Or.inr ?_))
    refine ⟨by decide, _, hD8.symm, ?_⟩
    refine ⟨fun g1 => ?_, fun g1 => ?_⟩
    · -- it commits
      refine Go_res (.blk b18 51 v.cs :: .blk b17 50 v.cs :: .blk b12 41 (encA a) :: ([own encW 3 50 (some ⟨bv, ov, none⟩) cv vws, ro L] ++ (relD br Ap cp psr m b1 b2 s hs ++ qlD b8 Aq cq psq r6 Ar cr R hq))) (fun _ h => h) ?_
      show Go _ _ _ _
      refine Go_any mixed [] [(0, false), (1, false), (4, false), (5, false), (2, false), (6, false), (3, true), (7, true), (8, false)] rfl (by kernel_rfl) (by kernel_rfl) [.blk b17 50 v.cs] (fun _ => True) (fun _ _ _ h => h) (fun w hm _ => ⟨Holds.of_idx [1] hm, trivial⟩) ?_
      refine VC_sound tabOk 100 ?_
      (repeat (first | refine Or.inl ⟨rfl, rfl, ?_⟩ | refine Or.inl ⟨rfl, ?_⟩ | refine Or.inr ?_))
      by_cases hx : rState R v.own = 1
      · have hp := (rState_one v.own).1 hx
        have hO : v.own ∈ s.O := by rw [hal.O]; exact hp
        refine Go_aloneL rfl rfl (OpTo_mcall (txB m b1 b2 s) (.blk b18 51 v.cs :: .blk b17 50 v.cs :: .blk b12 41 (encA a) :: ([own encW 3 50 (some ⟨bv, ov, none⟩) cv vws, ro L] ++ (([.blk br 78 [.slice Ap psr.length cp], own encP 1 79 Ap cp psr] ++ hsR m hs) ++ qlD b8 Aq cq psq r6 Ar cr R hq))) (by classical exact List.perm_iff_count.2 fun a => by simp only [relD, qlD, refB, relR, txB, List.length_nil, List.set_cons_zero, List.set_cons_succ, List.eraseIdx_cons_succ, List.eraseIdx_cons_zero, List.cons_append, List.nil_append, List.count_cons, List.count_append, List.count_nil]; omega) rfl rfl rfl rfl rfl (by kernel_rfl) (fun w hb hm hio hsp k => txn_commit_ok m b1 b2 s v.own hO w _ k) ?_)
        rintro _ _ ⟨rfl, rfl⟩
        refine And.intro (fun w hm _ => ⟨Holds.of_idx [0] (hm.permRs (b := .blk b17 50 v.cs :: (.blk b18 51 v.cs :: .blk b12 41 (encA a) :: ([own encW 3 50 (some ⟨bv, ov, none⟩) cv vws, ro L] ++ (relD br Ap cp psr m b1 b2 ⟨s.next, del v.own s.O, ins v.own s.D⟩ hs ++ qlD b8 Aq cq psq r6 Ar cr R hq)))) (by classical exact List.perm_iff_count.2 fun a => by simp only [relD, qlD, refB, relR, txB, List.length_nil, List.set_cons_zero, List.set_cons_succ, List.eraseIdx_cons_succ, List.eraseIdx_cons_zero, List.cons_append, List.nil_append, List.count_cons, List.count_append, List.count_nil]; omega)), trivial⟩) ?_
        refine Go_res (.blk b17 50 v.cs :: (.blk b18 51 v.cs :: .blk b12 41 (encA a) :: ([own encW 3 50 (some ⟨bv, ov, none⟩) cv vws, ro L] ++ (relD br Ap cp psr m b1 b2 ⟨s.next, del v.own s.O, ins v.own s.D⟩ hs ++ qlD b8 Aq cq psq r6 Ar cr R hq)))) (fun w h => h.permRs (by classical exact List.perm_iff_count.2 fun a => by simp only [relD, qlD, refB, relR, txB, List.length_nil, List.set_cons_zero, List.set_cons_succ, List.eraseIdx_cons_succ, List.eraseIdx_cons_zero, List.cons_append, List.nil_append, List.count_cons, List.count_append, List.count_nil]; omega)) ?_
        refine VC_sound tabOk 100 ?_
        (repeat (first | refine Or.inl ⟨rfl, rfl, ?_⟩ | refine Or.inl ⟨rfl, ?_⟩ | refine Or.inr ?_))
        refine Go_aloneL rfl rfl (OpTo_mcall (refB r6 Ar cr R) (.blk b17 50 v.cs :: (.blk b18 51 v.cs :: .blk b12 41 (encA a) :: ([own encW 3 50 (some ⟨bv, ov, none⟩) cv vws, ro L] ++ (relD br Ap cp psr m b1 b2 ⟨s.next, del v.own s.O, ins v.own s.D⟩ hs ++ ([.blk b8 39 [.slice Aq psq.length cq], own encP 1 81 Aq cq psq] ++ hsQ r6 hq))))) (by classical exact List.perm_iff_count.2 fun a => by simp only [relD, qlD, refB, relR, txB, List.length_nil, List.set_cons_zero, List.set_cons_succ, List.eraseIdx_cons_succ, List.eraseIdx_cons_zero, List.cons_append, List.nil_append, List.count_cons, List.count_append, List.count_nil]; omega) rfl rfl rfl rfl rfl (by kernel_rfl) (fun w hb hm hio hsp k => r06_end r6 Ar cr R v.own 2 (by omega) w _ k) ?_)
        rintro _ _ (⟨_, rfl, rfl⟩ | ⟨hn, _⟩)
        rotate_left
        · exact absurd hx hn
        refine And.intro (fun w hm _ => ⟨Holds.of_idx [0] (hm.permRs (b := .blk b17 50 v.cs :: (.blk b18 51 v.cs :: .blk b12 41 (encA a) :: ([own encW 3 50 (some ⟨bv, ov, none⟩) cv vws, ro L] ++ (relD br Ap cp psr m b1 b2 ⟨s.next, del v.own s.O, ins v.own s.D⟩ hs ++ qlD b8 Aq cq psq r6 Ar cr (endR R v.own 2) hq)))) (by classical exact List.perm_iff_count.2 fun a => by simp only [relD, qlD, refB, relR, txB, List.length_nil, List.set_cons_zero, List.set_cons_succ, List.eraseIdx_cons_succ, List.eraseIdx_cons_zero, List.cons_append, List.nil_append, List.count_cons, List.count_append, List.count_nil]; omega)), trivial⟩) ?_
        refine VC_sound tabOk 100 ?_
        refine ⟨fun h => by first | (simp at h; done) | (simp at h; omega) | (simp_all; done), fun _ => ?_⟩
        refine ⟨_, wrap_i64 (n := (i : Int) + 1) (by omega) (by omega), ?_⟩
        exact Go_fin (i + 1, ⟨s.next, del v.own s.O, ins v.own s.D⟩, hs, Ar, cr, endR R v.own 2, hq, some ⟨bv, ov, none⟩, cv, vws, L) ⟨by omega, hps, hpsq1, hS.up, hal.commit hp, by dsimp only; rw [List.length_set]; omega, by have h := (hal.commit hp).O; dsimp only at h ⊢; rw [← h]; exact Nat.le_trans (List.length_filter_le _ _) (by rw [hal.O]; exact hO6), hW.up⟩ (by dsimp only; omega) ⟨rfl, rfl, rfl, rfl, rfl, rfl, rfl, trivial⟩ (fun w h => (((h.permRs (b := .blk b18 51 v.cs :: .blk b17 50 v.cs :: .blk b12 41 (encA a) :: ([own encW 3 50 (some ⟨bv, ov, none⟩) cv vws, ro L] ++ (relD br Ap cp psr m b1 b2 ⟨s.next, del v.own s.O, ins v.own s.D⟩ hs ++ qlD b8 Aq cq psq r6 Ar cr (endR R v.own 2) hq))) (by classical exact List.perm_iff_count.2 fun a => by simp only [relD, qlD, refB, relR, txB, List.length_nil, List.set_cons_zero, List.set_cons_succ, List.eraseIdx_cons_succ, List.eraseIdx_cons_zero, List.cons_append, List.nil_append, List.count_cons, List.count_append, List.count_nil]; omega)).dropAt 0).dropAt 0).dropAt 0)
      · have hO : ¬ v.own ∈ s.O := by rw [hal.O]; exact fun h => hx ((rState_one v.own).2 h)
        refine Go_aloneL rfl rfl (OpTo_mcall (txB m b1 b2 s) (.blk b18 51 v.cs :: .blk b17 50 v.cs :: .blk b12 41 (encA a) :: ([own encW 3 50 (some ⟨bv, ov, none⟩) cv vws, ro L] ++ (([.blk br 78 [.slice Ap psr.length cp], own encP 1 79 Ap cp psr] ++ hsR m hs) ++ qlD b8 Aq cq psq r6 Ar cr R hq))) (by classical exact List.perm_iff_count.2 fun a => by simp only [relD, qlD, refB, relR, txB, List.length_nil, List.set_cons_zero, List.set_cons_succ, List.eraseIdx_cons_succ, List.eraseIdx_cons_zero, List.cons_append, List.nil_append, List.count_cons, List.count_append, List.count_nil]; omega) rfl rfl rfl rfl rfl (by kernel_rfl) (fun w hb hm hio hsp k => txn_commit_no m b1 b2 s v.own hO w _ k) ?_)
        rintro _ _ ⟨rfl, rfl⟩
        refine And.intro (fun w hm _ => ⟨Holds.of_idx [0] (hm.permRs (b := .blk b17 50 v.cs :: (.blk b18 51 v.cs :: .blk b12 41 (encA a) :: ([own encW 3 50 (some ⟨bv, ov, none⟩) cv vws, ro L] ++ (relD br Ap cp psr m b1 b2 s hs ++ qlD b8 Aq cq psq r6 Ar cr R hq)))) (by classical exact List.perm_iff_count.2 fun a => by simp only [relD, qlD, refB, relR, txB, List.length_nil, List.set_cons_zero, List.set_cons_succ, List.eraseIdx_cons_succ, List.eraseIdx_cons_zero, List.cons_append, List.nil_append, List.count_cons, List.count_append, List.count_nil]; omega)), trivial⟩) ?_
        refine Go_res (.blk b17 50 v.cs :: (.blk b18 51 v.cs :: .blk b12 41 (encA a) :: ([own encW 3 50 (some ⟨bv, ov, none⟩) cv vws, ro L] ++ (relD br Ap cp psr m b1 b2 s hs ++ qlD b8 Aq cq psq r6 Ar cr R hq)))) (fun w h => h.permRs (by classical exact List.perm_iff_count.2 fun a => by simp only [relD, qlD, refB, relR, txB, List.length_nil, List.set_cons_zero, List.set_cons_succ, List.eraseIdx_cons_succ, List.eraseIdx_cons_zero, List.cons_append, List.nil_append, List.count_cons, List.count_append, List.count_nil]; omega)) ?_
        refine VC_sound tabOk 100 ?_
        (repeat (first | refine Or.inl ⟨rfl, rfl, ?_⟩ | refine Or.inl ⟨rfl, ?_⟩ | refine Or.inr ?_))
        refine Go_aloneL rfl rfl (OpTo_mcall (refB r6 Ar cr R) (.blk b17 50 v.cs :: (.blk b18 51 v.cs :: .blk b12 41 (encA a) :: ([own encW 3 50 (some ⟨bv, ov, none⟩) cv vws, ro L] ++ (relD br Ap cp psr m b1 b2 s hs ++ ([.blk b8 39 [.slice Aq psq.length cq], own encP 1 81 Aq cq psq] ++ hsQ r6 hq))))) (by classical exact List.perm_iff_count.2 fun a => by simp only [relD, qlD, refB, relR, txB, List.length_nil, List.set_cons_zero, List.set_cons_succ, List.eraseIdx_cons_succ, List.eraseIdx_cons_zero, List.cons_append, List.nil_append, List.count_cons, List.count_append, List.count_nil]; omega) rfl rfl rfl rfl rfl (by kernel_rfl) (fun w hb hm hio hsp k => r06_end r6 Ar cr R v.own 2 (by omega) w _ k) ?_)
        rintro _ _ (⟨hn, _⟩ | ⟨_, rfl, rfl⟩)
        · exact absurd hn hx
        refine And.intro (fun w hm _ => ⟨Holds.of_idx [0] (hm.permRs (b := .blk b17 50 v.cs :: (.blk b18 51 v.cs :: .blk b12 41 (encA a) :: ([own encW 3 50 (some ⟨bv, ov, none⟩) cv vws, ro L] ++ (relD br Ap cp psr m b1 b2 s hs ++ qlD b8 Aq cq psq r6 Ar cr R hq)))) (by classical exact List.perm_iff_count.2 fun a => by simp only [relD, qlD, refB, relR, txB, List.length_nil, List.set_cons_zero, List.set_cons_succ, List.eraseIdx_cons_succ, List.eraseIdx_cons_zero, List.cons_append, List.nil_append, List.count_cons, List.count_append, List.count_nil]; omega)), trivial⟩) ?_
        refine VC_sound tabOk 100 ?_
        refine ⟨fun h => by first | (simp at h; done) | (simp at h; omega) | (simp_all; done), fun _ => ?_⟩
        refine ⟨_, wrap_i64 (n := (i : Int) + 1) (by omega) (by omega), ?_⟩
        exact Go_fin (i + 1, s, hs, Ar, cr, R, hq, some ⟨bv, ov, none⟩, cv, vws, L) ⟨by omega, hps, hpsq1, hS.up, hal, (by show R.length ≤ i + 1; omega), hO6, hW.up⟩ (by dsimp only; omega) ⟨rfl, rfl, rfl, rfl, rfl, rfl, rfl, trivial⟩ (fun w h => (((h.permRs (b := .blk b18 51 v.cs :: .blk b17 50 v.cs :: .blk b12 41 (encA a) :: ([own encW 3 50 (some ⟨bv, ov, none⟩) cv vws, ro L] ++ (relD br Ap cp psr m b1 b2 s hs ++ qlD b8 Aq cq psq r6 Ar cr R hq))) (by classical exact List.perm_iff_count.2 fun a => by simp only [relD, qlD, refB, relR, txB, List.length_nil, List.set_cons_zero, List.set_cons_succ, List.eraseIdx_cons_succ, List.eraseIdx_cons_zero, List.cons_append, List.nil_append, List.count_cons, List.count_append, List.count_nil]; omega)).dropAt 0).dropAt 0).dropAt 0)
    -- a statement
    obtain ⟨K6, hK6, hK66⟩ := tmod_nat8p 6 (by decide) (bounds_u8 hoa.2.2.1).1
    (repeat (first | refine Or.inl ⟨rfl, rfl, ?_⟩ | refine Or.inl ⟨rfl, ?_⟩ | refine Or.inr ?_))
    refine ⟨by decide, _, hK6.symm, ?_⟩
    refine ⟨_, wrap_u8 (n := 1 + (K6 : Int)) (by omega) (by omega), ?_⟩
    (repeat (first | refine Or.inl ⟨rfl, rfl, ?_⟩ | refine Or.inl ⟨rfl, ?_⟩ | refine Or.inr ?_))
    refine ⟨by decide, _, rfl, ?_⟩
    (repeat (first | refine Or.inl ⟨rfl, rfl, ?_⟩ | refine Or.inl ⟨rfl, ?_⟩ | refine Or.inr ?_))
    refine ⟨by decide, _, rfl, ?_⟩
    (repeat (first | refine Or.inl ⟨rfl, rfl, ?_⟩ | refine Or.inl ⟨rfl, ?_⟩ | refine Or.inr ?_))
    intro b19 _
    (repeat (first | refine Or.inl ⟨rfl, rfl, ?_⟩ | refine Or.inl ⟨rfl, ?_⟩ | refine Or.inr ?_))
    refine Go_join (E := ?jE) (k := ?jk) (σ := Int × Int × Nat) (fun u => [(1, .v (.slice (some ⟨bk, ok, none⟩) l.length c0)), (5, .v (.pointer (some ⟨m, 0, none⟩))), (6, .v (.pointer (some ⟨r6, 0, none⟩))), (8, .v (.pointer (some ⟨br, 0, none⟩))), (9, .v (.pointer (some ⟨b8, 0, none⟩))), (10, .v (.slice (some ⟨bv, ov, none⟩) vws.length cv)), (11, .v (.int .i64 i)), (17, .v (.pointer (some ⟨b17, 0, none⟩))), (19, .v (.pointer (some ⟨b19, 0, none⟩))), (20, .v (.pointer (some ⟨u.2.2, 0, none⟩))), (155, .v (.pointer (some ⟨br, 0, none⟩))), (156, .v v.v), (157, .v (mkSt u.1 u.2.1 ⟨a.key.tmod 5, a.text⟩))]) (fun u => .blk u.2.2 58 [.int .u8 u.1, .int .i64 u.2.1, .int .i64 (a.key.tmod 5), .string a.text] :: .blk b19 57 [.int .u8 u.1, .int .i64 u.2.1, .int .i64 (a.key.tmod 5), .string a.text] :: .blk b18 51 v.cs :: .blk b17 50 v.cs :: .blk b12 41 (encA a) :: ([own encW 3 50 (some ⟨bv, ov, none⟩) cv vws, ro L] ++ (relD br Ap cp psr m b1 b2 s hs ++ qlD b8 Aq cq psq r6 Ar cr R hq))) (fun u => 0 ≤ u.1) ?jm ?jr
    case jm =>
      intro J
      refine ⟨fun g5 => ?_, fun g5 => ?_⟩
      · refine Go_any mixed [] [(0, false), (2, false), (1, false), (4, false), (3, false), (5, true), (6, false), (7, true)] rfl (by kernel_rfl) (by kernel_rfl) [.blk b12 41 (encA a)] (fun _ => True) (fun _ _ _ h => h) (fun w hm _ => ⟨Holds.of_idx [3] hm, trivial⟩) ?_
        refine VC_sound tabOk 100 ?_
        (repeat (first | refine Or.inl ⟨rfl, rfl, ?_⟩ | refine Or.inl ⟨rfl, ?_⟩ | refine Or.inr ?_))
        refine Go_aloneL rfl rfl (OpTo_do tabOk ?_)
        (repeat (first | refine Or.inl ⟨rfl, rfl, ?_⟩ | refine Or.inl ⟨rfl, ?_⟩ | refine Or.inr ?_))
        refine And.intro (fun w hm _ => ⟨Holds.of_idx [3] hm, trivial⟩) ?_
        refine VC_sound tabOk 100 ?_
        refine Go_aloneL rfl rfl (OpTo_do tabOk ?_)
        (repeat (first | refine Or.inl ⟨rfl, rfl, ?_⟩ | refine Or.inl ⟨rfl, ?_⟩ | refine Or.inr ?_))
        refine And.intro (fun w hm _ => ⟨Holds.of_idx [3] hm, trivial⟩) ?_
        refine VC_sound tabOk 100 ?_
        (repeat (first | refine Or.inl ⟨rfl, rfl, ?_⟩ | refine Or.inl ⟨rfl, ?_⟩ | refine Or.inr ?_))
        intro b20 _
        (repeat (first | refine Or.inl ⟨rfl, rfl, ?_⟩ | refine Or.inl ⟨rfl, ?_⟩ | refine Or.inr ?_))
        refine J (a.kind, a.table, b20) (bounds_u8 hoa.2.2.1).1 _ _ ?_ ?_
        · exact ⟨rfl, rfl, rfl, rfl, rfl, rfl, rfl, rfl, rfl, rfl, rfl, rfl, rfl, trivial⟩
        · exact fun _ h => h
      · (repeat (first | refine Or.inl ⟨rfl, rfl, ?_⟩ | refine Or.inl ⟨rfl, ?_⟩ | refine Or.inr ?_))
        intro b20 _
        (repeat (first | refine Or.inl ⟨rfl, rfl, ?_⟩ | refine Or.inl ⟨rfl, ?_⟩ | refine Or.inr ?_))
        refine J (1 + (K6 : Int), a.table.tmod 4, b20) (by show (0 : Int) ≤ 1 + (K6 : Int); omega) _ _ ?_ ?_
        · exact ⟨rfl, rfl, rfl, rfl, rfl, rfl, rfl, rfl, rfl, rfl, rfl, rfl, rfl, trivial⟩
        · exact fun _ h => h
    case jr =>
      rintro ⟨k, t, b20⟩ hk0
      dsimp only at hk0 ⊢
      subst hps hpsq1
      show Go _ _ _ _
      refine Go_ops rfl (OpTo_mcall (relD br Ap cp (psH hs) m b1 b2 s hs) (.blk b20 58 [.int .u8 k, .int .i64 t, .int .i64 (a.key.tmod 5), .string a.text] :: .blk b19 57 [.int .u8 k, .int .i64 t, .int .i64 (a.key.tmod 5), .string a.text] :: .blk b18 51 v.cs :: .blk b17 50 v.cs :: .blk b12 41 (encA a) :: ([own encW 3 50 (some ⟨bv, ov, none⟩) cv vws, ro L] ++ qlD b8 Aq cq (psH hq) r6 Ar cr R hq)) (by classical exact List.perm_iff_count.2 fun a => by simp only [relD, qlD, refB, relR, txB, List.length_nil, List.set_cons_zero, List.set_cons_succ, List.eraseIdx_cons_succ, List.eraseIdx_cons_zero, List.cons_append, List.nil_append, List.count_cons, List.count_append, List.count_nil]; omega) rfl rfl rfl rfl rfl (by kernel_rfl) (fun w hb hm hio hsp kk => rel_runB br Ap cp m b1 b2 s v hs k t ⟨a.key.tmod 5, a.text⟩ (fun H hH => by have := hS.ub H hH; omega) (by have := hvm.2; omega) w _ kk (RdF.of_split hsp fun Rs w h => h.ro_behind (i := 6) rfl hvm.1)) ?_)
      rintro _ _ ⟨e1, ys1, A2, c2, hs1, hq1, rfl, rfl⟩
      refine Go_res (own encR 2 55 A2 c2 ys1 :: .blk b20 58 [.int .u8 k, .int .i64 t, .int .i64 (a.key.tmod 5), .string a.text] :: .blk b19 57 [.int .u8 k, .int .i64 t, .int .i64 (a.key.tmod 5), .string a.text] :: .blk b18 51 v.cs :: .blk b17 50 v.cs :: .blk b12 41 (encA a) :: ([own encW 3 50 (some ⟨bv, ov, none⟩) cv vws, ro L] ++ (relD br Ap cp (psH hs) m b1 b2 s hs1 ++ qlD b8 Aq cq (psH hq) r6 Ar cr R hq))) (fun w h => h.permRs (by classical exact List.perm_iff_count.2 fun a => by simp only [relD, qlD, refB, relR, txB, List.length_nil, List.set_cons_zero, List.set_cons_succ, List.eraseIdx_cons_succ, List.eraseIdx_cons_zero, List.cons_append, List.nil_append, List.count_cons, List.count_append, List.count_nil]; omega)) ?_
      refine VC_sound tabOk 100 ?_
      (repeat (first | refine Or.inl ⟨rfl, rfl, ?_⟩ | refine Or.inl ⟨rfl, ?_⟩ | refine Or.inr ?_))
      show Go _ _ _ _
      refine Go_ops rfl (OpTo_mcall (qlD b8 Aq cq (psH hq) r6 Ar cr R hq) (own encR 2 55 A2 c2 ys1 :: .blk b20 58 [.int .u8 k, .int .i64 t, .int .i64 (a.key.tmod 5), .string a.text] :: .blk b19 57 [.int .u8 k, .int .i64 t, .int .i64 (a.key.tmod 5), .string a.text] :: .blk b18 51 v.cs :: .blk b17 50 v.cs :: .blk b12 41 (encA a) :: ([own encW 3 50 (some ⟨bv, ov, none⟩) cv vws, ro L] ++ relD br Ap cp (psH hs) m b1 b2 s hs1)) (by classical exact List.perm_iff_count.2 fun a => by simp only [relD, qlD, refB, relR, txB, List.length_nil, List.set_cons_zero, List.set_cons_succ, List.eraseIdx_cons_succ, List.eraseIdx_cons_zero, List.cons_append, List.nil_append, List.count_cons, List.count_append, List.count_nil]; omega) rfl rfl rfl rfl rfl (by kernel_rfl) (fun w hb hm hio hsp kk => q_runB b8 Aq cq r6 Ar cr R v hq k t ⟨a.key.tmod 5, a.text⟩ (by omega) hk0 ⟨by rw [hS.len2]; omega, by rw [hS.len2]; omega⟩ (fun H hH => by have := hS.ub2 H hH; omega) (by have := hvm.2; omega) w _ kk (RdF.of_split hsp fun Rs w h => h.ro_behind (i := 7) rfl hvm.1)) ?_)
      rintro _ _ ⟨e2, ys2, A3, c3, hs2, hq2, rfl, rfl⟩
      rw [hst] at hq1
      obtain ⟨rfl, rfl, hS2, hp1, hp2⟩ := anyR_same hS hk0 hq1 hq2
      have hyl : ys1.length ≤ i + 1 := anyR_ys (fun H hH => hS.ub H hH) hq1
      refine Go_res (own encR 2 55 A3 c3 ys1 :: own encR 2 55 A2 c2 ys1 :: .blk b20 58 [.int .u8 k, .int .i64 t, .int .i64 (a.key.tmod 5), .string a.text] :: .blk b19 57 [.int .u8 k, .int .i64 t, .int .i64 (a.key.tmod 5), .string a.text] :: .blk b18 51 v.cs :: .blk b17 50 v.cs :: .blk b12 41 (encA a) :: ([own encW 3 50 (some ⟨bv, ov, none⟩) cv vws, ro L] ++ (relD br Ap cp (psH hs) m b1 b2 s hs1 ++ qlD b8 Aq cq (psH hq) r6 Ar cr R hs2))) (fun w h => h.permRs (by classical exact List.perm_iff_count.2 fun a => by simp only [relD, qlD, refB, relR, txB, List.length_nil, List.set_cons_zero, List.set_cons_succ, List.eraseIdx_cons_succ, List.eraseIdx_cons_zero, List.cons_append, List.nil_append, List.count_cons, List.count_append, List.count_nil]; omega)) ?_
      refine VC_sound tabOk 100 ?_
      show Go _ _ _ _
      refine Go_any mixed [] [(0, false), (1, false), (2, false), (3, false), (4, false), (5, false), (6, true), (7, false), (8, false), (9, false), (11, false), (14, false), (10, false), (13, false), (12, true), (15, true), (16, true), (17, false), (18, false)] rfl (by kernel_rfl) (by kernel_rfl) [.blk b20 58 [.int .u8 k, .int .i64 t, .int .i64 (a.key.tmod 5), .string a.text], .blk b19 57 [.int .u8 k, .int .i64 t, .int .i64 (a.key.tmod 5), .string a.text]] (fun _ => True) (fun _ _ _ h => h) (fun w hm _ => ⟨Holds.of_idx [2, 3] hm, trivial⟩) ?_
      refine VC_sound tabOk 100 ?_
      refine ⟨fun h => by first | (simp at h; done) | (simp at h; omega) | (simp_all; done), fun _ => ?_⟩
      refine Go_aloneL rfl rfl (OpTo_pcall (v := .bool true) rfl rfl rfl rfl rfl (by kernel_rfl) (fun w hm _ => r07_rows A2 A3 c2 c3 ys1 w (hm.own_rd (i := 1) rfl) (hm.own_rd (i := 0) rfl) (by omega)) ?_)
      refine And.intro (fun w hm _ => ⟨Holds.of_idx [2, 3] hm, trivial⟩) ?_
      refine VC_sound tabOk 100 ?_
      refine ⟨fun h => by simp at h, fun _ => ?_⟩
      (repeat (first | refine Or.inl ⟨rfl, rfl, ?_⟩ | refine Or.inl ⟨rfl, ?_⟩ | refine Or.inr ?_))
      refine Go_aloneL rfl rfl (OpTo_ncall (Qc := opQ 72 (opsOf k ⟨a.key.tmod 5, a.text⟩ ys1)) rfl rfl rfl rfl rfl (by kernel_rfl) (fun w hm _ => rel_ops k t ⟨a.key.tmod 5, a.text⟩ A2 c2 ys1 w (hm.own_rd (i := 1) rfl) (by omega)) ?_)
      rintro _ _ ⟨A4, c4, rfl, rfl⟩
      refine And.intro (fun w hm _ => ⟨Holds.of_idx [3, 4] hm, trivial⟩) ?_
      refine VC_sound tabOk 100 ?_
      (repeat (first | refine Or.inl ⟨rfl, rfl, ?_⟩ | refine Or.inl ⟨rfl, ?_⟩ | refine Or.inr ?_))
      refine Go_aloneL rfl rfl (OpTo_ncall (Qc := opQ 101 (opsOf k ⟨a.key.tmod 5, a.text⟩ ys1)) rfl rfl rfl rfl rfl (by kernel_rfl) (fun w hm _ => ref_ops k t ⟨a.key.tmod 5, a.text⟩ A3 c3 ys1 w (hm.own_rd (i := 1) rfl) (by omega)) ?_)
      rintro _ _ ⟨A5, c5, rfl, rfl⟩
      refine And.intro (fun w hm _ => ⟨Holds.of_idx [4, 5] hm, trivial⟩) ?_
      refine VC_sound tabOk 100 ?_
      refine Go_aloneL rfl rfl (OpTo_pcall (v := .bool true) rfl rfl rfl rfl rfl (by kernel_rfl) (fun w hm _ => l8_ops A4 A5 c4 c5 _ w (hm.own_rd (i := 1) rfl) (hm.own_rd (i := 0) rfl) (by have := opsOf_len8 k ⟨a.key.tmod 5, a.text⟩ ys1; omega)) ?_)
      refine And.intro (fun w hm _ => ⟨Holds.of_idx [4, 5] hm, trivial⟩) ?_
      refine VC_sound tabOk 100 ?_
      refine ⟨fun h => by first | (simp at h; done) | (simp at h; omega) | (simp_all; done), fun _ => ?_⟩
      refine ⟨_, wrap_i64 (n := (i : Int) + 1) (by omega) (by omega), ?_⟩
      exact Go_fin (i + 1, s, hs1, Ar, cr, R, hs2, some ⟨bv, ov, none⟩, cv, vws, L) ⟨by omega, hp1, hp2, hS2, hal, (by show R.length ≤ i + 1; omega), hO6, hW.up⟩ (by dsimp only; omega) ⟨rfl, rfl, rfl, rfl, rfl, rfl, rfl, trivial⟩ (fun w h => ((((((((h.dropAt 0).dropAt 0).dropAt 0).dropAt 0).dropAt 0).dropAt 0).dropAt 0).dropAt 0).dropAt 0)
end Go.Proofs.YtbhlkninmbafcaaGreat
