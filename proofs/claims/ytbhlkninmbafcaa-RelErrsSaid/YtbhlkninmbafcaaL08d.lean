/- The law RelErrs: what its run comes to. -/
import Derived.Test.YtbhlkninmbafcaaRelR
import Derived.Test.YtbhlkninmbafcaaRxMem
set_option maxRecDepth 100000
set_option autoImplicit false
set_option linter.unusedVariables false
set_option linter.unusedSimpArgs false
namespace Go.Proofs.Ytbhlkninmbafcaa
open Go.RX Go Go.RowKit

theorem tmod_nat8 (k : Nat) (hk : 0 < k) {n : Int} (h : 0 ≤ n) : ∃ K : Nat, n.tmod k = K ∧ K < k := by
  have h1 := Int.tmod_nonneg (k : Int) h
  have h2 := Int.tmod_lt_of_pos n (b := (k : Int)) (by omega)
  exact ⟨(n.tmod k).toNat, by omega, by omega⟩
/-- What is wrong with a statement of three tables. -/
def wrongP (k t : Int) (n : Nat) : Bool := decide (k < 1) || (decide (6 < k) || (decide (t < 0) || (decide (2 < t) || (decide (k < 3) && decide (40 < (n : Int))))))
theorem right_wrong {k t : Int} {n : Nat} {hs : List Hp} (hl : hs.length = 3) : rightP k (psH hs) t n = !wrongP k t n := by
  have hh : (heapAt (psH hs) t).isSome = decide (0 ≤ t ∧ t ≤ 2) := by
    by_cases ht : t < 0 ∨ 2 < t
    · rw [psH_out (by omega)]
      simp; omega
    · obtain ⟨H, hH⟩ : ∃ H, hs[t.toNat]? = some H := ⟨_, List.getElem?_eq_getElem (by omega)⟩
      have := psH_at hH
      rw [show ((t.toNat : Nat) : Int) = t from by omega] at this
      rw [this]
      simp; omega
  rw [rightP, hh, longP, wrongP]
  by_cases h1 : k < 1
  · have : ¬ 1 ≤ k := by omega
    simp [h1, this]
  by_cases h6 : 6 < k
  · have : ¬ k ≤ 6 := by omega
    simp [h6, this]
  by_cases h0 : t < 0
  · have : ¬ 0 ≤ t := by omega
    simp [h0, this]
  by_cases h2 : 2 < t
  · have : ¬ t ≤ 2 := by omega
    simp [h2, this]
  have e1 : 1 ≤ k := by omega
  have e2 : k ≤ 6 := by omega
  have e3 : 0 ≤ t := by omega
  have e4 : t ≤ 2 := by omega
  have e5 : (decide (k = 1) || decide (k = 2)) = decide (k < 3) := by
    by_cases h : k < 3
    · rcases (by omega : k = 1 ∨ k = 2) with rfl | rfl <;> simp
    · have a1 : ¬ k = 1 := by omega
      have a2 : ¬ k = 2 := by omega
      simp [h, a1, a2]
  simp [h1, h6, h0, h2, e1, e2, e3, e4, e5, Bool.and_comm]
theorem run_ne1 {st : Int → Int} {v : VwM} {vs : List VerM} {k : Int} {r : RowM} {e : Int} {ys : List RowM} {vs' : List VerM} (h : runR st v vs k r e ys vs') : e ≠ 1 := by
  have hk : ∀ {e vs'}, killR st v vs r.key e vs' → e ≠ 1 := fun {e vs'} h => by
    rcases h with ⟨_, rfl, _⟩ | ⟨_, _, rfl, _⟩ | ⟨_, _, _, _, _, _, ⟨_, rfl, _⟩ | ⟨_, rfl, _⟩⟩ <;> decide
  rcases h with ⟨_, rfl, _⟩ | ⟨_, _, h⟩ | ⟨_, _, h⟩ | ⟨_, h⟩ | ⟨_, _, h⟩ | ⟨_, _, rfl, _⟩
  · unfold insE; repeat' split
    all_goals decide
  · obtain ⟨_, h, _⟩ := h; exact hk h
  · exact hk h
  · rcases h with ⟨_, rfl, _⟩ | ⟨_, _, rfl, _⟩ | ⟨_, _, rfl, _⟩ <;> decide
  · rcases h with ⟨_, rfl, _⟩ | ⟨_, _, rfl, _⟩ <;> decide
  · decide

set_option maxHeartbeats 16000000 in
theorem l08_RelErrs (kind table key long : Int) (w0 : World) (h1 : 0 ≤ kind ∧ kind ≤ 255) (h3 : 0 ≤ long ∧ long ≤ 255) :
    Calls Try.prog 6 #[.int .u8 kind, .int .i64 table, .int .i64 key, .int .u8 long] w0 fun e w' => e = .returned (.bool true) ∧ BelowD w0.heap.size w0 w' := by
  obtain ⟨K, hK, hK6⟩ := tmod_nat8 60 (by decide) h3.1
  refine enterP (tab := tab) Try.func6 rfl Try.ntmps6 rfl (args := [_, _, _, _]) rfl ?_
  refine VC_sound tabOk 100 ?_
  refine Go_ops rfl (OpTo_pcall (v := .bool true) rfl rfl rfl rfl rfl (by kernel_rfl) (fun w hm _ => l8_row w) ?_)
  refine VC_sound tabOk 100 ?_
  refine ⟨fun h => by first | (simp at h; done) | (simp at h; omega) | (simp_all; done), fun _ => ?_⟩
  show Go _ _ _ _
  refine Go_ops rfl (OpTo_ncall rfl rfl rfl rfl rfl (by kernel_rfl) (fun w hm _ => txn_new w) ?_)
  rintro _ _ ⟨m, b1, b2, rfl, rfl⟩
  refine VC_sound tabOk 100 ?_
  show Go _ _ _ _
  refine Go_ops rfl (OpTo_ncall rfl rfl rfl rfl rfl (by kernel_rfl) (fun w hm _ => rel_newH m 3 w (by decide)) ?_)
  rintro _ _ ⟨br, Ap, cp, hs, rfl, hlen, hvs, rfl⟩
  have hl3 : hs.length = 3 := hlen
  refine VC_sound tabOk 100 ?_
  refine Go_res (txB m b1 b2 ⟨1, [], []⟩ ++ (relR br Ap cp (psH hs) ++ hsR m hs)) (fun _ h => h.permRs List.perm_append_comm) ?_
  show Go _ _ _ _
  refine Go_ops rfl (OpTo_mcall (txB m b1 b2 ⟨1, [], []⟩) (relR br Ap cp (psH hs) ++ hsR m hs) (List.Perm.of_eq rfl) rfl rfl rfl rfl rfl (by kernel_rfl) (fun w hb hm hio hsp k => txn_begin_ok m b1 b2 ⟨1, [], []⟩ ⟨by decide, by decide⟩ (by decide) (by simp) w _ k) ?_)
  rintro _ _ ⟨rfl, rfl⟩
  refine VC_sound tabOk 100 ?_
  show Go _ _ _ _
  refine Go_ops rfl (OpTo_mcall (txB m b1 b2 ⟨2, [1], []⟩) (relR br Ap cp (psH hs) ++ hsR m hs) (List.Perm.of_eq rfl) rfl rfl rfl rfl rfl (by kernel_rfl) (fun w hb hm hio hsp k => txn_now m b1 b2 ⟨2, [1], []⟩ (by decide) w _ k) ?_)
  rintro _ _ ⟨S1, d1, ks1, rfl, hp1, hr1, rfl⟩
  obtain rfl := List.Perm.eq_singleton hp1
  refine VC_sound tabOk 100 ?_
  intro b13 _
  (repeat (first | refine Or.inl ⟨rfl, rfl, ?_⟩ | refine Or.inl ⟨rfl, ?_⟩ | refine Or.inr ?_))
  refine ⟨by decide, _, hK.symm, ?_⟩
  refine ⟨_, wrap_i64 (n := (K : Int)) (by omega) (by omega), ?_⟩
  refine Go_ops rfl (OpTo_make tabOk (RX.encI_is .u8) (z := 0) rfl rfl rfl rfl rfl rfl rfl (by omega) (by omega) (by simp; omega) (by omega) (fun bs _ => ?_))
  refine VC_sound tabOk 100 ?_
  refine Go_ops rfl (OpTo_bytesStr tabOk (ns := List.replicate K 0) rfl rfl rfl rfl rfl (by simp) (fun w hm _ => hm.own_rd (i := 0) rfl) ?_)
  have hS : (bytesOf (List.replicate K 0)).size = K := by rw [bytesOf_size]; simp
  generalize bytesOf (List.replicate K 0) = S at hS ⊢
  refine VC_sound tabOk 6 ?_
  intro b14 _
  (repeat (first | refine Or.inl ⟨rfl, rfl, ?_⟩ | refine Or.inl ⟨rfl, ?_⟩ | refine Or.inr ?_))
  show Go _ (KI.code (Code.region _ _ _) :: _) _ _
  refine Go_res (txB m b1 b2 ⟨2, [1], []⟩ ++ ([.blk br 70 [.slice Ap (psH hs).length cp], own encP 1 41 Ap cp (psH hs), .blk b13 50 (VwM.cs ⟨2, S1, d1, [1], 1⟩), own (encI .i64) 1 2 S1 d1 [1], .blk b14 32 [.int .u8 kind, .int .i64 table, .int .i64 key, .string S]] ++ hsR m hs)) (fun w h => ((show Mod _ ([.blk b14 32 [.int .u8 kind, .int .i64 table, .int .i64 key, .string S], own (encI .u8) 1 5 (some ⟨bs, 0, none⟩) K (List.replicate K 0), .blk b13 50 (VwM.cs ⟨2, S1, d1, [1], 1⟩), own (encI .i64) 1 2 S1 d1 [1]] ++ (txB m b1 b2 ⟨2, [1], []⟩ ++ (relR br Ap cp (psH hs) ++ hsR m hs))) w from h).dropAt 1).permRs (by classical exact List.perm_iff_count.2 fun a => by simp only [txB, relR, List.set_cons_zero, List.set_cons_succ, List.eraseIdx_cons_succ, List.eraseIdx_cons_zero, List.cons_append, List.nil_append, List.count_cons, List.count_append, List.count_nil]; omega)) ?_
  refine Go_cut (σ := Int) (fun e => [(0, .v (.int .u8 kind)), (1, .v (.int .i64 table)), (3, .v (.int .u8 long)), (10, .v (.pointer (some ⟨br, 0, none⟩))), (16, .v (.int .i64 e))]) (fun _ => relR br Ap cp (psH hs)) (fun e => decide (e = 1) = wrongP kind table K) ?_ ?_
  · have hrw := right_wrong (k := kind) (t := table) (n := K) hl3
    cases hwr : wrongP kind table K with
    | true =>
      rw [hwr] at hrw
      refine VC_sound tabOk 100 ?_
      (repeat (first | refine Or.inl ⟨rfl, rfl, ?_⟩ | refine Or.inl ⟨rfl, ?_⟩ | refine Or.inr ?_))
      refine Go_ops rfl (OpTo_pcall (v := .tuple #[.slice none 0 0, .int .i64 1]) rfl rfl rfl rfl rfl (by kernel_rfl) (fun w hm _ => rel_run_wrong br Ap cp (psH hs) ⟨2, S1, d1, [1], 1⟩ kind table ⟨key, S⟩ (by rw [hS]; exact hrw) w (hm.blk_at (i := 3) rfl) (hm.own_rd (i := 4) rfl)) ?_)
      refine VC_sound tabOk 100 ?_
      exact Go_put 1 rfl ⟨rfl, rfl, rfl, rfl, rfl, trivial⟩ (fun _ h => h.sel [3, 4] rfl)
    | false =>
      rw [hwr] at hrw
      have hr2 := hrw
      simp only [wrongP, Bool.or_eq_false_iff, decide_eq_false_iff_not] at hwr
      obtain ⟨T, hT⟩ : ∃ T : Nat, table = T := ⟨table.toNat, by omega⟩
      obtain ⟨H, hH⟩ : ∃ H, hs[T]? = some H := ⟨_, List.getElem?_eq_getElem (by omega)⟩
      have hHv := hvs H (List.mem_of_getElem? hH)
      refine VC_sound tabOk 100 ?_
      (repeat (first | refine Or.inl ⟨rfl, rfl, ?_⟩ | refine Or.inl ⟨rfl, ?_⟩ | refine Or.inr ?_))
      show Go _ _ _ _
      refine Go_ops rfl (OpTo_mcall (hpX H.h m b1 b2 ⟨2, [1], []⟩ H.A H.c H.vs) ([.blk br 70 [.slice Ap (psH hs).length cp], own encP 1 41 Ap cp (psH hs), .blk b13 50 (VwM.cs ⟨2, S1, d1, [1], 1⟩), own (encI .i64) 1 2 S1 d1 [1], .blk b14 32 [.int .u8 kind, .int .i64 table, .int .i64 key, .string S]] ++ hsR m (hs.eraseIdx T)) (can_at hH) rfl rfl rfl rfl rfl (by kernel_rfl) (fun w hb hm hio hsp k => rel_run br Ap cp (psH hs) H.h m b1 b2 ⟨2, [1], []⟩ H.A H.c H.vs ⟨2, S1, d1, [1], 1⟩ kind table ⟨key, S⟩ (by rw [hHv]; simp) (by simp) (by rw [hS]; exact hr2) (by rw [hT]; exact psH_at hH) w _ k (RdF.of_split hsp fun Rs w h => h.own_behind (i := 3) rfl) (RelF.of_split hsp fun Rs w h => ⟨h.blk_behind (i := 0) rfl, h.own_behind (i := 1) rfl⟩)) ?_)
      rintro _ _ ⟨e, ys, A2, c2, vs', A', c', hq, rfl, rfl⟩
      refine VC_sound tabOk 100 ?_
      exact Go_put e (by simp [run_ne1 hq]) ⟨rfl, rfl, rfl, rfl, rfl, trivial⟩ (fun _ h => h.sel [6, 7] rfl)
  intro e he
  refine VC_sound tabOk 1 ?_
  show Go _ (KI.code (Code.region _ _ _) :: _) _ _
  refine Go_cut (σ := Unit) (fun _ => [(1, .v (.int .i64 table)), (10, .v (.pointer (some ⟨br, 0, none⟩))), (16, .v (.int .i64 e)), (17, .v (.bool (wrongP kind table K)))]) (fun _ => relR br Ap cp (psH hs)) (fun _ => True) ?_ ?_
  · refine VC_sound tabOk 100 ?_
    refine ⟨fun g1 => ?_, fun g1 => ?_⟩
    · exact Go_put () trivial ⟨rfl, rfl, rfl, congrArg Value.bool (by simp only [wrongP, g1, Bool.true_or, Bool.false_or, Bool.true_and, Bool.false_and, Bool.or_false]), trivial⟩ (fun _ h => h)
    refine ⟨fun g2 => ?_, fun g2 => ?_⟩
    · exact Go_put () trivial ⟨rfl, rfl, rfl, congrArg Value.bool (by simp only [wrongP, g1, g2, Bool.true_or, Bool.false_or, Bool.true_and, Bool.false_and, Bool.or_false]), trivial⟩ (fun _ h => h)
    refine ⟨fun g3 => ?_, fun g3 => ?_⟩
    · exact Go_put () trivial ⟨rfl, rfl, rfl, congrArg Value.bool (by simp only [wrongP, g1, g2, g3, Bool.true_or, Bool.false_or, Bool.true_and, Bool.false_and, Bool.or_false]), trivial⟩ (fun _ h => h)
    refine ⟨fun g4 => ?_, fun g4 => ?_⟩
    · exact Go_put () trivial ⟨rfl, rfl, rfl, congrArg Value.bool (by simp only [wrongP, g1, g2, g3, g4, Bool.true_or, Bool.false_or, Bool.true_and, Bool.false_and, Bool.or_false]), trivial⟩ (fun _ h => h)
    refine ⟨fun g5 => ?_, fun g5 => ?_⟩
    · refine ⟨by decide, _, hK.symm, ?_⟩
      exact Go_put () trivial ⟨rfl, rfl, rfl, congrArg Value.bool (by simp only [wrongP, g1, g2, g3, g4, g5, Bool.true_or, Bool.false_or, Bool.true_and, Bool.false_and, Bool.or_false]), trivial⟩ (fun _ h => h)
    · exact Go_put () trivial ⟨rfl, rfl, rfl, congrArg Value.bool (by simp only [wrongP, g1, g2, g3, g4, g5, Bool.true_or, Bool.false_or, Bool.true_and, Bool.false_and, Bool.or_false]), trivial⟩ (fun _ h => h)
  rintro _ _
  refine VC_sound tabOk 100 ?_
  refine ⟨fun h => by simp [he] at h, fun _ => ?_⟩
  refine Go_ops rfl (OpTo_pcall (v := .pointer (heapAt (psH hs) table)) rfl rfl rfl rfl rfl (by kernel_rfl) (fun w hm _ => rel_heap br Ap cp (psH hs) table w (hm.blk_at (i := 0) rfl) (hm.own_rd (i := 1) rfl)) ?_)
  by_cases ht : table < 0 ∨ 2 < table
  · rw [psH_out (by omega)]
    refine VC_sound tabOk 100 ?_
    refine ⟨fun g1 => ?_, fun g1 => ?_⟩
    · exact congrArg Value.bool (by simp)
    · have : 2 < table := by simp at g1; omega
      exact congrArg Value.bool (by simp [this])
  · obtain ⟨H, hH⟩ : ∃ H, hs[table.toNat]? = some H := ⟨_, List.getElem?_eq_getElem (by omega)⟩
    have hA := psH_at hH
    rw [show ((table.toNat : Nat) : Int) = table from by omega] at hA
    rw [hA]
    refine VC_sound tabOk 100 ?_
    refine ⟨fun h => by first | (simp at h; done) | (simp at h; omega) | (simp_all; done), fun _ => ?_⟩
    have h2 : ¬ 2 < table := by omega
    exact congrArg Value.bool (by simp [h2])
end Go.Proofs.Ytbhlkninmbafcaa
