/- The law RelApart: what its run comes to. -/
import Derived.Test.YtbhlkninmbafcaaL08e
set_option maxRecDepth 100000
set_option autoImplicit false
set_option linter.unusedVariables false
set_option linter.unusedSimpArgs false
namespace Go.Proofs.Ytbhlkninmbafcaa
open Go.RX Go Go.RowKit Go.ChangeShapes Go.WideShapes Go.ChangeAt

abbrev tX : ByteArray := ⟨#[120]⟩
theorem tmod_nat8b (k : Nat) (hk : 0 < k) {n : Int} (h : 0 ≤ n) : ∃ K : Nat, n.tmod k = K ∧ K < k := by
  have h1 := Int.tmod_nonneg (k : Int) h
  have h2 := Int.tmod_lt_of_pos n (b := (k : Int)) (by omega)
  exact ⟨(n.tmod k).toNat, by omega, by omega⟩
/-- The first 'i' tables have their row. -/
structure Fill (i : Nat) (hs : List Hp) : Prop where
  len : hs.length = 4
  vs : ∀ (j : Nat) (H : Hp), hs[j]? = some H → H.vs = if j < i then [⟨j, tX, 1, 0⟩] else []
theorem Fill.step {i : Nat} {hs : List Hp} (h : Fill i hs) {H : Hp} (hH : hs[i]? = some H) {A : Option Addr} {c : Nat} : Fill (i + 1) (hs.set i ⟨H.h, A, c, [⟨i, tX, 1, 0⟩]⟩) := by
  refine ⟨by rw [List.length_set]; exact h.len, fun j H' hj => ?_⟩
  rw [List.getElem?_set] at hj
  split at hj
  · rename_i hij
    subst hij
    split at hj
    · simp at hj; subst hj; simp
    · cases hj
  · rename_i hij
    rw [h.vs j H' hj]
    by_cases h1 : j < i
    · rw [if_pos h1, if_pos (by omega)]
    · rw [if_neg h1, if_neg (by omega)]
/-- All but one table have just their row. -/
structure Apart (T n : Nat) (hs : List Hp) : Prop where
  len : hs.length = 4
  oth : ∀ (j : Nat) (H : Hp), hs[j]? = some H → j ≠ T → H.vs = [⟨j, tX, 1, 0⟩]
  own : ∀ (j : Nat) (H : Hp), hs[j]? = some H → H.vs.length ≤ 1 + n
theorem Apart.start {hs : List Hp} (h : Fill 4 hs) (T : Nat) : Apart T 0 hs := by
  have hj : ∀ (j : Nat) (H : Hp), hs[j]? = some H → j < 4 := fun j H hj => by have := (List.getElem?_eq_some_iff.1 hj).1; have := h.len; omega
  refine ⟨h.len, fun j H hjH _ => ?_, fun j H hjH => ?_⟩
  · rw [h.vs j H hjH, if_pos (hj j H hjH)]
  · rw [h.vs j H hjH, if_pos (hj j H hjH)]; simp
theorem Apart.step {T n : Nat} {hs : List Hp} (h : Apart T n hs) {H H' : Hp} (hH : hs[T]? = some H) (hl : H'.vs.length ≤ H.vs.length + 1) : Apart T (n + 1) (hs.set T H') := by
  refine ⟨by rw [List.length_set]; exact h.len, fun j H2 hj hne => ?_, fun j H2 hj => ?_⟩
  · rw [List.getElem?_set_ne (by omega)] at hj
    exact h.oth j H2 hj hne
  · rw [List.getElem?_set] at hj
    split at hj
    · split at hj
      · simp at hj; subst hj
        have := h.own T H hH; omega
      · cases hj
    · have := h.own j H2 hj; omega
theorem Apart.same {T n : Nat} {hs : List Hp} (h : Apart T n hs) {i : Nat} {H H' : Hp} (hH : hs[i]? = some H) (hv : H'.vs = H.vs) : Apart T n (hs.set i H') := by
  refine ⟨by rw [List.length_set]; exact h.len, fun j H2 hj hne => ?_, fun j H2 hj => ?_⟩
  · rw [List.getElem?_set] at hj
    split at hj
    · rename_i hij
      subst hij
      split at hj
      · simp at hj; subst hj
        rw [hv]; exact h.oth i H hH hne
      · cases hj
    · exact h.oth j H2 hj hne
  · rw [List.getElem?_set] at hj
    split at hj
    · rename_i hij
      subst hij
      split at hj
      · simp at hj; subst hj
        rw [hv]; exact h.own i H hH
      · cases hj
    · exact h.own j H2 hj

set_option maxHeartbeats 16000000 in
theorem l08_RelApart (A0 : Option Addr) (c0 : Nat) (l : List ActM) (t : Int) (w0 : World) (hr : RdW w0 A0 (l.flatMap encA)) (hok : ∀ z ∈ l, okA w0 z) (hl : l.length ≤ 9223372036854775807) (ht : 0 ≤ t ∧ t ≤ 255) :
    Calls Try.prog 7 #[.slice A0 l.length c0, .int .u8 t] w0 fun e w' => e = .returned (.bool true) ∧ BelowD w0.heap.size w0 w' := by
  obtain ⟨T, hT, hT4⟩ := tmod_nat8b 4 (by decide) ht.1
  refine enterP (tab := tab) Try.func7 rfl Try.ntmps7 rfl (args := [_, _]) rfl ?_
  refine VC_sound tabOk 100 ?_
  refine Go_ops rfl (OpTo_pcall (v := .bool true) rfl rfl rfl rfl rfl (by kernel_rfl) (fun w hm _ => l8_row w) ?_)
  refine VC_sound tabOk 100 ?_
  refine ⟨fun h => by first | (simp at h; done) | (simp at h; omega) | (simp_all; done), fun _ => ?_⟩
  refine Go_ops rfl (OpTo_pcall (v := .bool (smallP8 l)) rfl rfl rfl rfl rfl (by kernel_rfl) (fun w hm _ => l08_small A0 c0 l w (hr.mod hm) hl) ?_)
  refine VC_sound tabOk 100 ?_
  refine ⟨fun hc => ?_, fun hc => ?_⟩
  · refine Go_ops rfl (OpTo_pcall (v := .bool true) rfl rfl rfl rfl rfl (by kernel_rfl) (fun w hm _ => l8_row w) ?_)
    refine VC_sound tabOk 100 ?_
    rfl
  have hl80 : l.length ≤ 80 := smallP8_len (by simpa using hc)
  show Go _ _ _ _
  refine Go_ops rfl (OpTo_ncall rfl rfl rfl rfl rfl (by kernel_rfl) (fun w hm _ => txn_new w) ?_)
  rintro _ _ ⟨m, b1, b2, rfl, rfl⟩
  refine VC_sound tabOk 100 ?_
  show Go _ _ _ _
  refine Go_ops rfl (OpTo_ncall rfl rfl rfl rfl rfl (by kernel_rfl) (fun w hm _ => rel_newH m 4 w (by decide)) ?_)
  rintro _ _ ⟨br, Ap, cp, hs0, rfl, hlen0, hvs0, rfl⟩
  have hl0 : hs0.length = 4 := hlen0
  refine VC_sound tabOk 100 ?_
  refine Go_res (txB m b1 b2 ⟨1, [], []⟩ ++ (relR br Ap cp (psH hs0) ++ hsR m hs0)) (fun _ h => h.permRs List.perm_append_comm) ?_
  show Go _ _ _ _
  refine Go_ops rfl (OpTo_mcall (txB m b1 b2 ⟨1, [], []⟩) (relR br Ap cp (psH hs0) ++ hsR m hs0) (List.Perm.of_eq rfl) rfl rfl rfl rfl rfl (by kernel_rfl) (fun w hb hm hio hsp k => txn_begin_ok m b1 b2 ⟨1, [], []⟩ ⟨by decide, by decide⟩ (by decide) (by simp) w _ k) ?_)
  rintro _ _ ⟨rfl, rfl⟩
  refine VC_sound tabOk 100 ?_
  show Go _ _ _ _
  refine Go_ops rfl (OpTo_mcall (txB m b1 b2 ⟨2, [1], []⟩) (relR br Ap cp (psH hs0) ++ hsR m hs0) (List.Perm.of_eq rfl) rfl rfl rfl rfl rfl (by kernel_rfl) (fun w hb hm hio hsp k => txn_now m b1 b2 ⟨2, [1], []⟩ (by decide) w _ k) ?_)
  rintro _ _ ⟨S1, d1, ks1, rfl, hp1, hr1, rfl⟩
  obtain rfl := List.Perm.eq_singleton hp1
  refine VC_sound tabOk 100 ?_
  intro b9 _
  (repeat (first | refine Or.inl ⟨rfl, rfl, ?_⟩ | refine Or.inl ⟨rfl, ?_⟩ | refine Or.inr ?_))
  refine ⟨by decide, _, hT.symm, ?_⟩
  refine ⟨_, wrap_i64 (n := (T : Int)) (by omega) (by omega), ?_⟩
  obtain ⟨ps, hps0⟩ : ∃ ps, psH hs0 = ps := ⟨_, rfl⟩
  have st1 : stE ⟨2, [1], []⟩ 1 = 1 := by decide
  have hF0 : Fill 0 hs0 := ⟨hl0, fun j H hj => by rw [hvs0 H (List.mem_of_getElem? hj)]; simp⟩
  refine Go_loop (σ := Nat × List Hp) (fun u => [(0, .v (.slice A0 l.length c0)), (6, .v (.pointer (some ⟨br, 0, none⟩))), (9, .v (.pointer (some ⟨b9, 0, none⟩))), (10, .v (.int .i64 T)), (11, .v (.int .i64 u.1))]) (fun u => .blk b9 50 (VwM.cs ⟨2, S1, d1, [1], 1⟩) :: relC br Ap cp ps m b1 b2 ⟨2, [1], []⟩ ⟨2, S1, d1, [1], 1⟩ u.2) (fun u => u.1 ≤ 4 ∧ psH u.2 = ps ∧ Fill u.1 u.2) (fun u => 4 - u.1) (0, hs0) ⟨Nat.zero_le _, hps0, hF0⟩ ⟨rfl, rfl, rfl, rfl, rfl, trivial⟩ (fun w h => by subst hps0; exact (show Mod _ ([.blk b9 50 (VwM.cs ⟨2, S1, d1, [1], 1⟩), own (encI .i64) 1 2 S1 d1 [1]] ++ (txB m b1 b2 ⟨2, [1], []⟩ ++ (relR br Ap cp (psH hs0) ++ hsR m hs0))) w from h).permRs (by classical exact List.perm_iff_count.2 fun a => by simp only [txB, relR, List.set_cons_zero, List.set_cons_succ, List.eraseIdx_cons_succ, List.eraseIdx_cons_zero, List.cons_append, List.nil_append, List.count_cons, List.count_append, List.count_nil]; omega)) ?_
  rintro ⟨i, hs⟩ ⟨hi, hps, hF⟩
  dsimp only at hi hps hF ⊢
  have hlen := hF.len
  by_cases hlt : i < 4
  · obtain ⟨H, hH⟩ : ∃ H, hs[i]? = some H := ⟨_, List.getElem?_eq_getElem (by omega)⟩
    have hHv : H.vs = [] := by rw [hF.vs i H hH]; simp
    refine VC_sound tabOk 100 ?_
    refine ⟨fun _ => ?_, fun h => by first | (simp at h; done) | (simp at h; omega) | (simp_all; done)⟩
    (repeat (first | refine Or.inl ⟨rfl, rfl, ?_⟩ | refine Or.inl ⟨rfl, ?_⟩ | refine Or.inr ?_))
    show Go _ _ _ _
    refine Go_ops rfl (OpTo_mcall (relC br Ap cp ps m b1 b2 ⟨2, [1], []⟩ ⟨2, S1, d1, [1], 1⟩ hs) [.blk b9 50 (VwM.cs ⟨2, S1, d1, [1], 1⟩)] (List.perm_append_comm (l₁ := [_])) rfl rfl rfl rfl rfl (by kernel_rfl) (fun w hb hm hio hsp kk => rel_runA br Ap cp ps m b1 b2 ⟨2, [1], []⟩ ⟨2, S1, d1, [1], 1⟩ hs 1 i ⟨i, tX⟩ hps hH (by rw [hHv]; simp) (by simp) w _ kk) ?_)
    rintro _ _ ⟨e, ys, A2, c2, vs', A', c', hq, rfl, rfl⟩
    have hv' : vs' = [⟨i, tX, 1, 0⟩] := by
      have h1x : tX.size = 1 := rfl
      have hrt : rightP 1 ps i tX.size = true := by rw [← hps, rightP, psH_at hH, h1x]; simp [longP]
      rcases hq with ⟨_, hq⟩ | ⟨hq, _⟩
      · rcases hq with ⟨_, _, _, hq⟩ | ⟨hq, _⟩ | ⟨hq, _⟩ | ⟨hq, _⟩ | ⟨hq, _⟩ | ⟨hq, _⟩
        · rw [hq, hHv, insVs, if_pos (insE_free8 st1 (by simp))]; rfl
        all_goals exact absurd hq (by decide)
      · rw [hrt] at hq; cases hq
    subst hv'
    refine VC_sound tabOk 100 ?_
    refine ⟨_, wrap_i64 (n := (i : Int) + 1) (by omega) (by omega), ?_⟩
    exact Go_fin (i + 1, hs.set i ⟨H.h, A', c', [⟨i, tX, 1, 0⟩]⟩) ⟨by dsimp only; omega, by dsimp only; rw [psH_set hH]; exact hps, hF.step hH⟩ (by dsimp only; omega) ⟨rfl, rfl, rfl, rfl, rfl, trivial⟩ (fun w h => (h.dropAt 0).permRs List.perm_append_comm)
  have he : i = 4 := by omega
  subst he
  refine VC_sound tabOk 100 ?_
  refine ⟨fun h => by first | (simp at h; done) | (simp at h; omega) | (simp_all; done), fun _ => ?_⟩
  refine Go_loop (σ := Nat × List Hp) (fun u => [(0, .v (.slice A0 l.length c0)), (6, .v (.pointer (some ⟨br, 0, none⟩))), (9, .v (.pointer (some ⟨b9, 0, none⟩))), (10, .v (.int .i64 T)), (12, .v (.int .i64 u.1))]) (fun u => .blk b9 50 (VwM.cs ⟨2, S1, d1, [1], 1⟩) :: relC br Ap cp ps m b1 b2 ⟨2, [1], []⟩ ⟨2, S1, d1, [1], 1⟩ u.2) (fun u => u.1 ≤ l.length ∧ psH u.2 = ps ∧ Apart T u.1 u.2) (fun u => l.length - u.1) (0, hs) ⟨Nat.zero_le _, hps, Apart.start hF T⟩ ⟨rfl, rfl, rfl, rfl, rfl, trivial⟩ (fun _ h => h) ?_
  clear hF hps hlt hlen hi hs hF0
  rintro ⟨i, hs⟩ ⟨hi, hps, hF⟩
  dsimp only at hi hps hF ⊢
  have hlen := hF.len
  by_cases hlt : i < l.length
  · obtain ⟨bk, ok, rfl⟩ := RdW.some encA_is hr (ne_nil_of_lt hlt)
    obtain ⟨a, hga⟩ : ∃ a, l[i]? = some a := ⟨_, List.getElem?_eq_getElem hlt⟩
    have hoa := hok a (List.mem_of_getElem? hga)
    obtain ⟨K, hK, hK6⟩ := tmod_nat8b 6 (by decide) (bounds_u8 hoa.2.2.1).1
    obtain ⟨H, hH⟩ : ∃ H, hs[T]? = some H := ⟨_, List.getElem?_eq_getElem (by omega)⟩
    have hHl := hF.own T H hH
    refine VC_sound tabOk 100 ?_
    refine ⟨fun _ => ?_, fun h => by first | (simp at h; done) | (simp at h; omega) | (simp_all; done)⟩
    show Go _ _ _ _
    refine Go_any mixed [23] [(0, false), (2, false), (3, false), (4, false), (5, false), (9, false), (10, false), (11, false), (12, false), (13, false), (16, false), (17, false), (18, false), (19, false), (1, false), (6, false), (7, false), (8, false), (14, false), (15, false), (20, false), (21, false), (22, false), (23, true)] rfl (by kernel_rfl) (by kernel_rfl) [.blk b9 50 (VwM.cs ⟨2, S1, d1, [1], 1⟩)] (fun w => RdW w (some ⟨bk, ok, none⟩) (l.flatMap encA)) (fun w w' hk h => h.old hk) (fun w hm _ => ⟨Holds.of_idx [0] hm, hr.mod hm⟩) ?_
    refine VC_sound tabOk 100 ?_
    refine ⟨⟨by omega, by omega⟩, ?_⟩
    refine ⟨⟨by omega, by omega⟩, ?_⟩
    refine ⟨⟨by omega, by omega⟩, ?_⟩
    (repeat (first | refine Or.inl ⟨rfl, rfl, ?_⟩ | refine Or.inl ⟨rfl, ?_⟩ | refine Or.inr ?_))
    refine Go_first (v := .int .u8 a.kind) rfl rfl rfl rfl (fun w _ hw => rxLoadPart tabOk rfl encA_is hw hga (off := 2) rfl (by first | (simp only [addA]; rfl) | rfl)) ?_
    refine VC_sound tabOk 100 ?_
    refine ⟨by decide, _, hK.symm, ?_⟩
    refine ⟨_, wrap_u8 (n := 1 + (K : Int)) (by omega) (by omega), ?_⟩
    (repeat (first | refine Or.inl ⟨rfl, rfl, ?_⟩ | refine Or.inl ⟨rfl, ?_⟩ | refine Or.inr ?_))
    refine Go_first (v := .int .i64 a.key) rfl rfl rfl rfl (fun w _ hw => rxLoadPart tabOk rfl encA_is hw hga (off := 4) rfl (by first | (simp only [addA]; rfl) | rfl)) ?_
    refine VC_sound tabOk 100 ?_
    refine ⟨by decide, _, rfl, ?_⟩
    (repeat (first | refine Or.inl ⟨rfl, rfl, ?_⟩ | refine Or.inl ⟨rfl, ?_⟩ | refine Or.inr ?_))
    refine Go_first (v := .string a.text) rfl rfl rfl rfl (fun w _ hw => rxLoadPart tabOk rfl encA_is hw hga (off := 5) rfl (by first | (simp only [addA]; rfl) | rfl)) ?_
    refine VC_sound tabOk 100 ?_
    refine Go_aloneM rfl rfl rfl (OpTo_mcall (relC br Ap cp ps m b1 b2 ⟨2, [1], []⟩ ⟨2, S1, d1, [1], 1⟩ hs) [.blk b9 50 (VwM.cs ⟨2, S1, d1, [1], 1⟩)] (List.perm_append_comm (l₁ := [_])) rfl rfl rfl rfl rfl (by kernel_rfl) (fun w hb hm hio hsp kk => rel_runA br Ap cp ps m b1 b2 ⟨2, [1], []⟩ ⟨2, S1, d1, [1], 1⟩ hs (1 + (K : Int)) T ⟨a.key.tmod 5, a.text⟩ hps hH (by omega) (by simp) w _ kk) ?_)
    rintro _ _ ⟨e, ys, A2, c2, vs', A', c', hq, rfl, rfl⟩
    refine VC_sound tabOk 100 ?_
    refine ⟨_, wrap_i64 (n := (i : Int) + 1) (by omega) (by omega), ?_⟩
    exact Go_fin (i + 1, hs.set T ⟨H.h, A', c', vs'⟩) ⟨by dsimp only; omega, by dsimp only; rw [psH_set hH]; exact hps, hF.step hH (act_len hq)⟩ (by dsimp only; omega) ⟨rfl, rfl, rfl, rfl, rfl, trivial⟩ (fun w h => (h.dropAt 0).permRs List.perm_append_comm)
  have he : i = l.length := by omega
  subst he
  refine VC_sound tabOk 100 ?_
  refine ⟨fun h => by first | (simp at h; done) | (simp at h; omega) | (simp_all; done), fun _ => ?_⟩
  refine Go_loop (σ := Nat × List Hp) (fun u => [(6, .v (.pointer (some ⟨br, 0, none⟩))), (9, .v (.pointer (some ⟨b9, 0, none⟩))), (10, .v (.int .i64 T)), (13, .v (.int .i64 u.1))]) (fun u => .blk b9 50 (VwM.cs ⟨2, S1, d1, [1], 1⟩) :: relC br Ap cp ps m b1 b2 ⟨2, [1], []⟩ ⟨2, S1, d1, [1], 1⟩ u.2) (fun u => u.1 ≤ 4 ∧ psH u.2 = ps ∧ Apart T l.length u.2) (fun u => 4 - u.1) (0, hs) ⟨Nat.zero_le _, hps, hF⟩ ⟨rfl, rfl, rfl, rfl, trivial⟩ (fun _ h => h) ?_
  clear hF hps hlt hlen hi hs
  rintro ⟨i, hs⟩ ⟨hi, hps, hF⟩
  dsimp only at hi hps hF ⊢
  have hlen := hF.len
  by_cases hlt : i < 4
  rotate_left
  · have he : i = 4 := by omega
    subst he
    refine VC_sound tabOk 100 ?_
    refine ⟨fun h => by first | (simp at h; done) | (simp at h; omega) | (simp_all; done), fun _ => ?_⟩
    rfl
  obtain ⟨H, hH⟩ : ∃ H, hs[i]? = some H := ⟨_, List.getElem?_eq_getElem (by omega)⟩
  have hHl := hF.own i H hH
  refine VC_sound tabOk 100 ?_
  refine ⟨fun _ => ?_, fun h => by first | (simp at h; done) | (simp at h; omega) | (simp_all; done)⟩
  (repeat (first | refine Or.inl ⟨rfl, rfl, ?_⟩ | refine Or.inl ⟨rfl, ?_⟩ | refine Or.inr ?_))
  show Go _ _ _ _
  refine Go_ops rfl (OpTo_mcall (relC br Ap cp ps m b1 b2 ⟨2, [1], []⟩ ⟨2, S1, d1, [1], 1⟩ hs) [.blk b9 50 (VwM.cs ⟨2, S1, d1, [1], 1⟩)] (List.perm_append_comm (l₁ := [_])) rfl rfl rfl rfl rfl (by kernel_rfl) (fun w hb hm hio hsp kk => rel_runA br Ap cp ps m b1 b2 ⟨2, [1], []⟩ ⟨2, S1, d1, [1], 1⟩ hs 6 i ⟨0, ⟨#[]⟩⟩ hps hH (by omega) (by simp) w _ kk) ?_)
  rintro _ _ ⟨e, ys, A2, c2, vs', A', c', hq, rfl, rfl⟩
  obtain ⟨rfl, hy, rfl⟩ := act_scan hH (by rw [hps]; exact hq)
  have hF2 : Apart T l.length (hs.set i ⟨H.h, A', c', H.vs⟩) := hF.same hH rfl
  by_cases hiT : i = T
  · subst hiT
    refine VC_sound tabOk 100 ?_
    refine ⟨fun h => by first | (simp at h; done) | (simp at h; omega) | (simp_all; done), fun _ => ?_⟩
    refine ⟨fun h => by first | (simp at h; done) | (simp at h; omega) | (simp_all; done), fun _ => ?_⟩
    refine ⟨_, wrap_i64 (n := (i : Int) + 1) (by omega) (by omega), ?_⟩
    exact Go_fin (i + 1, hs.set i ⟨H.h, A', c', H.vs⟩) ⟨by dsimp only; omega, by dsimp only; rw [psH_set hH]; exact hps, hF2⟩ (by dsimp only; omega) ⟨rfl, rfl, rfl, rfl, trivial⟩ (fun w h => (h.dropAt 0).permRs List.perm_append_comm)
  · have hs1 : seenL (stE ⟨2, [1], []⟩) ⟨2, S1, d1, [1], 1⟩ [⟨i, tX, 1, 0⟩] = [⟨i, tX⟩] := by simp [seenL, seesP, didP, rowOf]
    rw [hF.oth i H hH hiT, hs1] at hy
    obtain rfl := hy.one8
    refine Go_with _ (fun w hm _ => hm.own_some (i := 0) rfl (by simp)) ?_
    rintro ⟨b6, o6, rfl⟩
    refine VC_sound tabOk 100 ?_
    refine ⟨fun h => by first | (simp at h; done) | (simp at h; omega) | (simp_all; done), fun _ => ?_⟩
    refine ⟨fun _ => ?_, fun h => by first | (simp at h; done) | (simp at h; omega) | (simp_all; done)⟩
    refine ⟨fun h => by first | (simp at h; done) | (simp at h; omega) | (simp_all; done), fun _ => ?_⟩
    refine ⟨⟨by omega, by simp⟩, ?_⟩
    refine Or.inr (findR_E ?_)
    refine Go_ops rfl (OpTo_loadPart tabOk encR_is (n := 0) (j := 0) (.int .i64 i) rfl rfl rfl (fun w hm _ => hm.own_rd (i := 0) rfl) rfl rfl (by simp only [addA]; rfl) ?_)
    refine VC_sound tabOk 100 ?_
    refine ⟨fun h => by first | (simp at h; done) | (simp at h; omega) | (simp_all; done), fun _ => ?_⟩
    refine ⟨_, wrap_i64 (n := (i : Int) + 1) (by omega) (by omega), ?_⟩
    exact Go_fin (i + 1, hs.set i ⟨H.h, A', c', H.vs⟩) ⟨by dsimp only; omega, by dsimp only; rw [psH_set hH]; exact hps, hF2⟩ (by dsimp only; omega) ⟨rfl, rfl, rfl, rfl, trivial⟩ (fun w h => (h.dropAt 0).permRs List.perm_append_comm)
end Go.Proofs.Ytbhlkninmbafcaa
