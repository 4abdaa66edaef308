/- The law SpoolPlays: what its run comes to. -/
import Derived.Test.YtdkalgnjfbbokaaR10
set_option autoImplicit false
set_option linter.unusedVariables false
set_option linter.unusedSimpArgs false
namespace Go.Proofs.Ytdkalgnjfbbokaa
open Go.RX Go Go.RowKit Go.ChangeShapes Go.WideShapes Go.ChangeAt


def evP (id : Int) (X : Nat) (tb : Int) : EventM := ⟨id.tmod 30, X, ⟨#[]⟩, 0, tb, 0, 0, ⟨#[]⟩⟩
/-- Both, alike. -/
structure InvS (i : Nat) (T S : Tbs) (cur : Nat) : Prop where
  cur : cur < 3
  len : len3 T ≤ i
  same : ∀ k, k < 3 → (get3 T k).xs = (get3 S k).xs
def kOf : Nat → Int
  | 0 => -1
  | n + 1 => (n : Int)
theorem len3_eq {T S : Tbs} (h : ∀ k, k < 3 → (get3 T k).xs = (get3 S k).xs) : len3 T = len3 S := by
  have h0 := h 0 (by omega); have h1 := h 1 (by omega); have h2 := h 2 (by omega)
  simp only [get3, pick3] at h0 h1 h2
  simp only [sum3, h0, h1, h2]
theorem pre3_eq {T S : Tbs} (h : ∀ k, k < 3 → (get3 T k).xs = (get3 S k).xs) : pre3 T.1 T.2.1 T.2.2 3 = pre3 S.1 S.2.1 S.2.2 3 := by
  have h0 := h 0 (by omega); have h1 := h 1 (by omega); have h2 := h 2 (by omega)
  simp only [get3, pick3] at h0 h1 h2
  simp only [pre3, h0, h1, h2]
theorem InvS.up {i : Nat} {T S : Tbs} {cur : Nat} (h : InvS i T S cur) : InvS (i + 1) T S cur := ⟨h.cur, by have := h.len; omega, h.same⟩
theorem InvS.put {i : Nat} {T S : Tbs} {cur K : Nat} (h : InvS i T S cur) (hK : K < 3) (A1 : Option Addr) (c1 : Nat) (A2 : Option Addr) (c2 : Nat) (e : EventM) : InvS (i + 1) (set3 T K ⟨A1, c1, (get3 T K).xs ++ [e]⟩) (set3 S K ⟨A2, c2, (get3 S K).xs ++ [e]⟩) cur := by
  refine ⟨h.cur, ?_, fun k hk => ?_⟩
  · have : len3 (set3 T K ⟨A1, c1, (get3 T K).xs ++ [e]⟩) = len3 T + 1 := sum_set3 _ T K _ 1 hK (by simp)
    have := h.len; omega
  · rw [get_set3 T K k _ hK hk, get_set3 S K k _ hK hk]
    split
    · rename_i hkk; subst hkk; simp only [h.same k hk]
    · exact h.same k hk
theorem InvS.clear {i : Nat} {T S : Tbs} {cur K : Nat} (h : InvS i T S cur) (hK : K < 3) : InvS (i + 1) (set3 T K noTb) (set3 S K noTb) cur := by
  refine ⟨h.cur, ?_, fun k hk => ?_⟩
  · have h0 := h.len
    have : K = 0 ∨ K = 1 ∨ K = 2 := by omega
    rcases this with rfl | rfl | rfl <;> simp [sum3, set3, noTb] at h0 ⊢ <;> omega
  · rw [get_set3 T K k _ hK hk, get_set3 S K k _ hK hk]
    split
    · rfl
    · exact h.same k hk
theorem get_tf (T : Tbs) (X : Int) (k : Nat) : (get3 (tf X T.1, tf X T.2.1, tf X T.2.2) k).xs = ntx X (get3 T k).xs := by
  match k with
  | 0 => rfl
  | 1 => rfl
  | k + 2 => rfl
theorem InvS.forget {i : Nat} {T S : Tbs} {cur : Nat} (h : InvS i T S cur) (X : Int) {S2 : Tbs} (hS : ∀ k, k < 3 → (get3 S2 k).xs = ntx X (get3 S k).xs) : InvS (i + 1) (tf X T.1, tf X T.2.1, tf X T.2.2) S2 cur := by
  refine ⟨h.cur, ?_, fun k hk => by rw [get_tf, hS k hk, h.same k hk]⟩
  have h0 := h.len
  have k1 : (tf X T.1).xs.length ≤ T.1.xs.length := List.length_filter_le _ _
  have k2 : (tf X T.2.1).xs.length ≤ T.2.1.xs.length := List.length_filter_le _ _
  have k3 : (tf X T.2.2).xs.length ≤ T.2.2.xs.length := List.length_filter_le _ _
  simp only [sum3] at h0 ⊢; omega
theorem InvS.forgetN {i : Nat} {T S : Tbs} {cur : Nat} (h : InvS i T S cur) (X : Int) {S2 : Tbs} (hS : ∀ k, k < 3 → (get3 S2 k).xs = ntx X (get3 S k).xs) :
    decide (((T.1.xs.length + T.2.1.xs.length + T.2.2.xs.length : Nat) - ((tf X T.1).xs.length + (tf X T.2.1).xs.length + (tf X T.2.2).xs.length : Nat) : Int) = (len3 S : Int) - len3 S2) = true := by
  have e1 := len3_eq h.same
  have e2 := len3_eq (h.forget X hS).same
  simp only [sum3] at e1 e2 ⊢
  rw [← e1, ← e2]
  simp

set_option maxHeartbeats 16000000 in
theorem l10_SpoolPlays (A0 : Option Addr) (c0 : Nat) (l : List ActM) (w0 : World) (hr : RdW w0 A0 (l.flatMap encA)) (hok : ∀ z ∈ l, okA w0 z) :
    Calls Try.prog 7 #[.slice A0 l.length c0] w0 fun e w' => e = .returned (.bool true) ∧ BelowD w0.heap.size w0 w' := by
  refine enterP (tab := tab) Try.func7 rfl Try.ntmps7 rfl (args := [_]) rfl ?_
  refine VC_sound tabOk 100 ?_
  refine Go_ops rfl (OpTo_pcall (v := .bool true) rfl rfl rfl rfl rfl (by kernel_rfl) (fun w hm _ => l10_turns w) ?_)
  refine VC_sound tabOk 100 ?_
  refine ⟨fun h => by first | (simp at h; done) | (simp at h; omega) | (simp_all; done), fun _ => ?_⟩
  refine ⟨fun hc => ?_, fun hc => ?_⟩
  · refine Go_ops rfl (OpTo_pcall (v := .bool true) rfl rfl rfl rfl rfl (by kernel_rfl) (fun w hm _ => l10_turns w) ?_)
    refine VC_sound tabOk 100 ?_
    rfl
  have hl100 : l.length ≤ 100 := by have := of_decide_eq_false hc; omega
  show Go _ _ _ _
  refine Go_ops rfl (OpTo_ncall rfl rfl rfl rfl rfl (by kernel_rfl) (fun w hm _ => spool_new w) ?_)
  rintro _ _ ⟨bs, rfl, rfl⟩
  refine VC_sound tabOk 100 ?_
  intro br _
  refine Go_loop (σ := Nat × Tbs × Tbs × Nat) (fun s => [(0, .v (.slice A0 l.length c0)), (3, .v (.pointer (some ⟨bs, 0, none⟩))), (4, .v (.pointer (some ⟨br, 0, none⟩))), (5, .v (.int .i64 s.1))]) (fun s => spT bs s.2.1 s.2.2.2 ++ rsR br s.2.2.1 s.2.2.2) (fun s => s.1 ≤ l.length ∧ InvS s.1 s.2.1 s.2.2.1 s.2.2.2) (fun s => l.length - s.1) (0, (noTb, noTb, noTb), (noTb, noTb, noTb), 0) ⟨Nat.zero_le _, by decide, Nat.zero_le _, fun _ _ => rfl⟩ ⟨rfl, rfl, rfl, rfl, trivial⟩ (fun _ h => ((((h.own_nil (enc := encE) (k := 8) (T := 29) none).own_nil (enc := encE) (k := 8) (T := 29) none).own_nil (enc := encE) (k := 8) (T := 29) none)).sel [4, 5, 6, 7, 3, 0, 1, 2] rfl) ?_
  rintro ⟨i, T, S, cur⟩ ⟨hi, inv⟩
  dsimp only at hi inv ⊢
  have hlen := inv.len
  have hlenS : len3 S = len3 T := (len3_eq inv.same).symm
  have hle0 := len3_le T 0 (by omega)
  have hle1 := len3_le T 1 (by omega)
  have hle2 := len3_le T 2 (by omega)
  simp only [get3, pick3] at hle0 hle1 hle2
  by_cases hlt : i < l.length
  · obtain ⟨ba, oa, rfl⟩ := RdW.some encA_is hr (ne_nil_of_lt hlt)
    obtain ⟨a, hga⟩ : ∃ a, l[i]? = some a := ⟨_, List.getElem?_eq_getElem hlt⟩
    have ho := hok a (List.mem_of_getElem? hga)
    have hd := bounds_u8 ho.1
    have htx := bounds_u8 ho.2.2.2.1
    have htb := bounds_u8 ho.2.2.2.2
    obtain ⟨D, hD, hD10⟩ := tmod_nat 10 (by decide) hd.1
    obtain ⟨X, hX, hX6⟩ := tmod_nat 6 (by decide) htx.1
    refine VC_sound tabOk 100 ?_
    refine ⟨fun _ => ?_, fun h => by first | (simp at h; done) | (simp at h; omega) | (simp_all; done)⟩
    refine ⟨⟨by omega, by omega⟩, ?_⟩
    (repeat (first | refine Or.inl ⟨rfl, rfl, ?_⟩ | refine Or.inl ⟨rfl, ?_⟩ | refine Or.inr ?_))
    refine Go_ops rfl (OpTo_loadRow tabOk encA_is (mkA a) rfl rfl rfl rfl rfl (fun h => by first | rfl | cases h) (fun w hm _ => hr.mod hm) hga (by simp only [addA]; rfl) ?_)
    refine VC_sound tabOk 29 ?_
    intro b6 _
    (repeat (first | refine Or.inl ⟨rfl, rfl, ?_⟩ | refine Or.inl ⟨rfl, ?_⟩ | refine Or.inr ?_))
    refine ⟨by decide, _, rfl, ?_⟩
    (repeat (first | refine Or.inl ⟨rfl, rfl, ?_⟩ | refine Or.inl ⟨rfl, ?_⟩ | refine Or.inr ?_))
    refine ⟨by decide, _, hX.symm, ?_⟩
    refine ⟨_, wrap_i64 (n := (X : Int)) (by omega) (by omega), ?_⟩
    (repeat (first | refine Or.inl ⟨rfl, rfl, ?_⟩ | refine Or.inl ⟨rfl, ?_⟩ | refine Or.inr ?_))
    refine ⟨_, wrap_i64 (n := a.tb) (by omega) (by omega), ?_⟩
    intro b7 _
    (repeat (first | refine Or.inl ⟨rfl, rfl, ?_⟩ | refine Or.inl ⟨rfl, ?_⟩ | refine Or.inr ?_))
    refine ⟨by decide, _, hD.symm, ?_⟩
    show Go _ (KI.code (Code.block _ _) :: _) _ _
    refine Go_sel [2, 3, 4, 5, 6, 7, 8, 9, 0, 1] rfl ?_
    show Go _ (KI.code (Code.block _ _) :: _) _ _
    refine Go_cut (σ := Tbs × Tbs × Nat) (fun u => [(0, .v (.slice (some ⟨ba, oa, none⟩) l.length c0)), (3, .v (.pointer (some ⟨bs, 0, none⟩))), (4, .v (.pointer (some ⟨br, 0, none⟩))), (5, .v (.int .i64 i)), (8, .v (.bool true))]) (fun u => spT bs u.1 u.2.2 ++ rsR br u.2.1 u.2.2) (fun u => InvS (i + 1) u.1 u.2.1 u.2.2) ?_ ?_
    · refine VC_sound tabOk 6 ?_
      show Go _ (KI.code (Code.cond _ _ _) :: _) _ _
      refine Go_cut (σ := Bool) (fun q => [(0, .v (.slice (some ⟨ba, oa, none⟩) l.length c0)), (3, .v (.pointer (some ⟨bs, 0, none⟩))), (4, .v (.pointer (some ⟨br, 0, none⟩))), (5, .v (.int .i64 i)), (6, .v (.pointer (some ⟨b6, 0, none⟩))), (7, .v (.pointer (some ⟨b7, 0, none⟩))), (8, .v (.bool true)), (49, .v (.int .u8 D)), (76, .v (.bool q))]) (fun _ => spT bs T cur ++ (rsR br S cur ++ [.blk b7 29 (encE (evP a.id X a.tb)), .blk b6 38 (encA a)])) (fun _ => True) ?_ ?_
      · refine VC_sound tabOk 100 ?_
        refine ⟨fun h => ?_, fun h => ?_⟩
        · exact Go_put (true) trivial ⟨rfl, rfl, rfl, rfl, rfl, rfl, rfl, rfl, rfl, trivial⟩ (fun _ h => h)
        refine ⟨fun h => ?_, fun h => ?_⟩
        · exact Go_put (true) trivial ⟨rfl, rfl, rfl, rfl, rfl, rfl, rfl, rfl, rfl, trivial⟩ (fun _ h => h)
        refine ⟨fun h => ?_, fun h => ?_⟩
        · exact Go_put (true) trivial ⟨rfl, rfl, rfl, rfl, rfl, rfl, rfl, rfl, rfl, trivial⟩ (fun _ h => h)
        exact Go_put (decide ((D : Int) = 3)) trivial ⟨rfl, rfl, rfl, rfl, rfl, rfl, rfl, rfl, rfl, trivial⟩ (fun _ h => h)
      intro q _
      refine VC_sound tabOk 6 ?_
      refine ⟨fun h => ?_, fun h => ?_⟩
      · -- one comes
        (repeat (first | refine Or.inl ⟨rfl, rfl, ?_⟩ | refine Or.inl ⟨rfl, ?_⟩ | refine Or.inr ?_))
        show Go _ _ _ _
        refine Go_ops rfl (OpTo_mcall (spT bs T cur) (rsR br S cur ++ [.blk b7 29 (encE (evP a.id X a.tb)), .blk b6 38 (encA a)]) (List.Perm.of_eq rfl) rfl rfl rfl rfl rfl (by kernel_rfl) (fun w hb hm hio hsp k => spool_add bs T.1 T.2.1 T.2.2 cur (evP a.id X a.tb) w _ k inv.cur (by omega) (by omega) (by omega)) ?_)
        rintro _ _ ⟨A1, c1, rfl, rfl⟩
        rw [spSet_eq]
        refine VC_sound tabOk 100 ?_
        refine Go_sel [4, 5, 6, 7, 0, 1, 2, 3, 8, 9] rfl ?_
        show Go _ _ _ _
        show Go _ _ _ _
        refine Go_any mixed [6] [(0, false), (1, false), (2, false), (3, false), (4, false), (5, false), (6, true)] rfl (by kernel_rfl) (by kernel_rfl) [.blk br 52 [S.1.v, S.2.1.v, S.2.2.v, .int .i64 cur], .blk b7 29 (encE (evP a.id X a.tb))] (fun _ => True) (fun _ _ _ h => h) (fun w hm _ => ⟨Holds.of_idx [0, 8] hm, trivial⟩) ?_
        refine VC_sound tabOk 100 ?_
        (repeat (first | refine Or.inl ⟨rfl, rfl, ?_⟩ | refine Or.inl ⟨rfl, ?_⟩ | refine Or.inr ?_))
        (repeat (first | refine Or.inl ⟨rfl, rfl, ?_⟩ | refine Or.inl ⟨rfl, ?_⟩ | refine Or.inr ?_))
        show Go _ _ _ _
        refine Go_aloneM rfl rfl rfl (OpTo_mcall (rsR br S cur) (spT bs (set3 T cur ⟨A1, c1, (get3 T cur).xs ++ [(evP a.id X a.tb)]⟩) cur ++ [.blk b7 29 (encE (evP a.id X a.tb)), .blk b6 38 (encA a)]) (List.Perm.of_eq rfl) rfl rfl rfl rfl rfl (by kernel_rfl) (fun w hb hm hio hsp k => r10_addTo br S cur cur (evP a.id X a.tb) w _ k inv.cur (by omega)) ?_)
        rintro _ _ ⟨A2, c2, rfl, rfl⟩
        refine VC_sound tabOk 100 ?_
        exact Go_put (set3 T cur ⟨A1, c1, (get3 T cur).xs ++ [(evP a.id X a.tb)]⟩, set3 S cur ⟨A2, c2, (get3 S cur).xs ++ [(evP a.id X a.tb)]⟩, cur) (inv.put inv.cur _ _ _ _ _) ⟨rfl, rfl, rfl, rfl, rfl, trivial⟩ (fun _ h => h.sel [4, 5, 6, 7, 0, 1, 2, 3] rfl)
      refine VC_sound tabOk 100 ?_
      refine ⟨fun h => ?_, fun h => ?_⟩
      · -- one comes to a table
        show Go _ _ _ _
        refine Go_any mixed [] [(0, false), (1, false), (5, false), (6, false), (2, false), (3, false), (7, false), (8, false), (4, true), (9, true), (10, false), (11, false)] rfl (by kernel_rfl) (by kernel_rfl) [.blk b7 29 (encE (evP a.id X a.tb)), .blk b6 38 (encA a)] (fun _ => True) (fun _ _ _ h => h) (fun w hm _ => ⟨Holds.of_idx [8, 9] hm, trivial⟩) ?_
        refine VC_sound tabOk 100 ?_
        (repeat (first | refine Or.inl ⟨rfl, rfl, ?_⟩ | refine Or.inl ⟨rfl, ?_⟩ | refine Or.inr ?_))
        (repeat (first | refine Or.inl ⟨rfl, rfl, ?_⟩ | refine Or.inl ⟨rfl, ?_⟩ | refine Or.inr ?_))
        (repeat (first | refine Or.inl ⟨rfl, rfl, ?_⟩ | refine Or.inl ⟨rfl, ?_⟩ | refine Or.inr ?_))
        (repeat (first | refine Or.inl ⟨rfl, rfl, ?_⟩ | refine Or.inl ⟨rfl, ?_⟩ | refine Or.inr ?_))
        generalize a.i = J
        by_cases hJ : 0 ≤ J ∧ J < 3
        · obtain ⟨K, rfl⟩ : ∃ K : Nat, J = K := ⟨J.toNat, by omega⟩
          have hK3 : K < 3 := by omega
          show Go _ _ _ _
          refine Go_aloneL rfl rfl (OpTo_mcall (spT bs T cur) (rsR br S cur ++ [.blk b7 29 (encE (evP a.id X a.tb)), .blk b6 38 (encA a)]) (List.Perm.of_eq rfl) rfl rfl rfl rfl rfl (by kernel_rfl) (fun w hb hm hio hsp k => spool_addTo bs T.1 T.2.1 T.2.2 cur K (evP a.id X a.tb) w _ k hK3 (by omega) (by omega) (by omega)) ?_)
          rintro _ _ ⟨A1, c1, rfl, rfl⟩
          rw [spSet_eq]
          refine And.intro (fun w hm _ => ⟨Holds.of_idx [8, 9] hm, trivial⟩) ?_
          refine VC_sound tabOk 100 ?_
          refine Go_sel [4, 5, 6, 7, 0, 1, 2, 3, 8, 9] rfl ?_
          show Go _ _ _ _
          refine Go_aloneL rfl rfl (OpTo_mcall (rsR br S cur) (spT bs (set3 T K ⟨A1, c1, (get3 T K).xs ++ [(evP a.id X a.tb)]⟩) cur ++ [.blk b7 29 (encE (evP a.id X a.tb)), .blk b6 38 (encA a)]) (List.Perm.of_eq rfl) rfl rfl rfl rfl rfl (by kernel_rfl) (fun w hb hm hio hsp k => r10_addTo br S cur K (evP a.id X a.tb) w _ k hK3 (by omega)) ?_)
          rintro _ _ ⟨A2, c2, rfl, rfl⟩
          refine And.intro (fun w hm _ => ⟨Holds.of_idx [8, 9] hm, trivial⟩) ?_
          refine VC_sound tabOk 100 ?_
          exact Go_put (set3 T K ⟨A1, c1, (get3 T K).xs ++ [(evP a.id X a.tb)]⟩, set3 S K ⟨A2, c2, (get3 S K).xs ++ [(evP a.id X a.tb)]⟩, cur) (inv.put hK3 _ _ _ _ _) ⟨rfl, rfl, rfl, rfl, congrArg Value.bool (by simp), trivial⟩ (fun _ h => h.sel [4, 5, 6, 7, 0, 1, 2, 3] rfl)
        · have hJ2 : J < 0 ∨ 3 ≤ J := by omega
          refine Go_aloneL rfl rfl (OpTo_pcall (v := .int .i64 1) rfl rfl rfl rfl rfl (by kernel_rfl) (fun w hm _ => spool_addTo_out bs J (evP a.id X a.tb) w hJ2) ?_)
          refine And.intro (fun w hm _ => ⟨Holds.of_idx [8, 9] hm, trivial⟩) ?_
          refine VC_sound tabOk 100 ?_
          refine Go_aloneL rfl rfl (OpTo_pcall (v := .int .i64 1) rfl rfl rfl rfl rfl (by kernel_rfl) (fun w hm _ => r10_addTo_out br J (evP a.id X a.tb) w hJ2) ?_)
          refine And.intro (fun w hm _ => ⟨Holds.of_idx [8, 9] hm, trivial⟩) ?_
          refine VC_sound tabOk 100 ?_
          exact Go_put (T, S, cur) inv.up ⟨rfl, rfl, rfl, rfl, congrArg Value.bool (by simp), trivial⟩ (fun _ h => h.sel [0, 1, 2, 3, 4, 5, 6, 7] rfl)
      refine ⟨fun h => ?_, fun h => ?_⟩
      · -- one comes to one of four
        show Go _ _ _ _
        refine Go_any mixed [] [(0, false), (1, false), (6, false), (7, false), (2, false), (3, false), (4, false), (8, false), (9, false), (10, false), (5, true), (11, true), (12, false), (13, false)] rfl (by kernel_rfl) (by kernel_rfl) [.blk b7 29 (encE (evP a.id X a.tb)), .blk b6 38 (encA a)] (fun _ => True) (fun _ _ _ h => h) (fun w hm _ => ⟨Holds.of_idx [8, 9] hm, trivial⟩) ?_
        refine VC_sound tabOk 100 ?_
        (repeat (first | refine Or.inl ⟨rfl, rfl, ?_⟩ | refine Or.inl ⟨rfl, ?_⟩ | refine Or.inr ?_))
        refine ⟨by decide, _, rfl, ?_⟩
        (repeat (first | refine Or.inl ⟨rfl, rfl, ?_⟩ | refine Or.inl ⟨rfl, ?_⟩ | refine Or.inr ?_))
        (repeat (first | refine Or.inl ⟨rfl, rfl, ?_⟩ | refine Or.inl ⟨rfl, ?_⟩ | refine Or.inr ?_))
        refine ⟨by decide, _, rfl, ?_⟩
        (repeat (first | refine Or.inl ⟨rfl, rfl, ?_⟩ | refine Or.inl ⟨rfl, ?_⟩ | refine Or.inr ?_))
        generalize a.i.tmod 4 = J
        by_cases hJ : 0 ≤ J ∧ J < 3
        · obtain ⟨K, rfl⟩ : ∃ K : Nat, J = K := ⟨J.toNat, by omega⟩
          have hK3 : K < 3 := by omega
          show Go _ _ _ _
          refine Go_aloneL rfl rfl (OpTo_mcall (spT bs T cur) (rsR br S cur ++ [.blk b7 29 (encE (evP a.id X a.tb)), .blk b6 38 (encA a)]) (List.Perm.of_eq rfl) rfl rfl rfl rfl rfl (by kernel_rfl) (fun w hb hm hio hsp k => spool_addTo bs T.1 T.2.1 T.2.2 cur K (evP a.id X a.tb) w _ k hK3 (by omega) (by omega) (by omega)) ?_)
          rintro _ _ ⟨A1, c1, rfl, rfl⟩
          rw [spSet_eq]
          refine And.intro (fun w hm _ => ⟨Holds.of_idx [8, 9] hm, trivial⟩) ?_
          refine VC_sound tabOk 100 ?_
          refine Go_sel [4, 5, 6, 7, 0, 1, 2, 3, 8, 9] rfl ?_
          show Go _ _ _ _
          refine Go_aloneL rfl rfl (OpTo_mcall (rsR br S cur) (spT bs (set3 T K ⟨A1, c1, (get3 T K).xs ++ [(evP a.id X a.tb)]⟩) cur ++ [.blk b7 29 (encE (evP a.id X a.tb)), .blk b6 38 (encA a)]) (List.Perm.of_eq rfl) rfl rfl rfl rfl rfl (by kernel_rfl) (fun w hb hm hio hsp k => r10_addTo br S cur K (evP a.id X a.tb) w _ k hK3 (by omega)) ?_)
          rintro _ _ ⟨A2, c2, rfl, rfl⟩
          refine And.intro (fun w hm _ => ⟨Holds.of_idx [8, 9] hm, trivial⟩) ?_
          refine VC_sound tabOk 100 ?_
          exact Go_put (set3 T K ⟨A1, c1, (get3 T K).xs ++ [(evP a.id X a.tb)]⟩, set3 S K ⟨A2, c2, (get3 S K).xs ++ [(evP a.id X a.tb)]⟩, cur) (inv.put hK3 _ _ _ _ _) ⟨rfl, rfl, rfl, rfl, congrArg Value.bool (by simp), trivial⟩ (fun _ h => h.sel [4, 5, 6, 7, 0, 1, 2, 3] rfl)
        · have hJ2 : J < 0 ∨ 3 ≤ J := by omega
          refine Go_aloneL rfl rfl (OpTo_pcall (v := .int .i64 1) rfl rfl rfl rfl rfl (by kernel_rfl) (fun w hm _ => spool_addTo_out bs J (evP a.id X a.tb) w hJ2) ?_)
          refine And.intro (fun w hm _ => ⟨Holds.of_idx [8, 9] hm, trivial⟩) ?_
          refine VC_sound tabOk 100 ?_
          refine Go_aloneL rfl rfl (OpTo_pcall (v := .int .i64 1) rfl rfl rfl rfl rfl (by kernel_rfl) (fun w hm _ => r10_addTo_out br J (evP a.id X a.tb) w hJ2) ?_)
          refine And.intro (fun w hm _ => ⟨Holds.of_idx [8, 9] hm, trivial⟩) ?_
          refine VC_sound tabOk 100 ?_
          exact Go_put (T, S, cur) inv.up ⟨rfl, rfl, rfl, rfl, congrArg Value.bool (by simp), trivial⟩ (fun _ h => h.sel [0, 1, 2, 3, 4, 5, 6, 7] rfl)
      refine ⟨fun h => ?_, fun h => ?_⟩
      · -- some are forgotten
        show Go _ _ _ _
        refine Go_any mixed [] [(0, false), (1, false), (6, false), (7, false), (2, false), (3, false), (4, false), (8, false), (9, false), (10, false), (5, true), (11, true), (12, false), (13, false)] rfl (by kernel_rfl) (by kernel_rfl) [.blk b6 38 (encA a)] (fun _ => True) (fun _ _ _ h => h) (fun w hm _ => ⟨Holds.of_idx [9] hm, trivial⟩) ?_
        refine VC_sound tabOk 100 ?_
        (repeat (first | refine Or.inl ⟨rfl, rfl, ?_⟩ | refine Or.inl ⟨rfl, ?_⟩ | refine Or.inr ?_))
        refine ⟨by decide, _, hX.symm, ?_⟩
        refine ⟨_, wrap_i64 (n := (X : Int)) (by omega) (by omega), ?_⟩
        (repeat (first | refine Or.inl ⟨rfl, rfl, ?_⟩ | refine Or.inl ⟨rfl, ?_⟩ | refine Or.inr ?_))
        refine ⟨by decide, _, hX.symm, ?_⟩
        refine ⟨_, wrap_i64 (n := (X : Int)) (by omega) (by omega), ?_⟩
        show Go _ _ _ _
        refine Go_aloneL rfl rfl (OpTo_mcall (spT bs T cur) (rsR br S cur ++ [.blk b7 29 (encE (evP a.id X a.tb)), .blk b6 38 (encA a)]) (List.Perm.of_eq rfl) rfl rfl rfl rfl rfl (by kernel_rfl) (fun w hb hm hio hsp k => spool_forget bs T.1 T.2.1 T.2.2 cur X w _ k (by omega) (by omega) (by omega)) ?_)
        rintro _ _ ⟨rfl, rfl⟩
        refine And.intro (fun w hm _ => ⟨Holds.of_idx [9] hm, trivial⟩) ?_
        refine VC_sound tabOk 100 ?_
        refine Go_sel [4, 5, 6, 7, 0, 1, 2, 3, 8, 9] rfl ?_
        show Go _ _ _ _
        refine Go_aloneL rfl rfl (OpTo_mcall (rsR br S cur) (spT bs (tf X T.1, tf X T.2.1, tf X T.2.2) cur ++ [.blk b7 29 (encE (evP a.id X a.tb)), .blk b6 38 (encA a)]) (List.Perm.of_eq rfl) rfl rfl rfl rfl rfl (by kernel_rfl) (fun w hb hm hio hsp k => r10_forget br S cur X w _ k (by omega)) ?_)
        rintro _ _ ⟨S2, rfl, hS2, rfl⟩
        refine And.intro (fun w hm _ => ⟨Holds.of_idx [9] hm, trivial⟩) ?_
        refine VC_sound tabOk 100 ?_
        exact Go_put ((tf X T.1, tf X T.2.1, tf X T.2.2), S2, cur) (inv.forget X hS2) ⟨rfl, rfl, rfl, rfl, congrArg Value.bool (inv.forgetN X hS2), trivial⟩ (fun _ h => h.sel [4, 5, 6, 7, 0, 1, 2, 3] rfl)
      obtain ⟨Z, hZ⟩ : ∃ Z, a.i.tmod 2 = Z := ⟨_, rfl⟩
      (repeat (first | refine Or.inl ⟨rfl, rfl, ?_⟩ | refine Or.inl ⟨rfl, ?_⟩ | refine Or.inr ?_))
      refine ⟨by decide, _, hZ.symm, ?_⟩
      show Go _ _ _ _
      refine Go_ops rfl (OpTo_mcall (spT bs T cur) (rsR br S cur ++ [.blk b7 29 (encE (evP a.id X a.tb)), .blk b6 38 (encA a)]) (List.Perm.of_eq rfl) rfl rfl rfl rfl rfl (by kernel_rfl) (fun w hb hm hio hsp k => spool_rotate bs T.1 T.2.1 T.2.2 cur (decide (Z = 0)) w _ k inv.cur) ?_)
      rintro _ _ hrot
      have hn : nxt cur < 3 := by simp only [nxt]; omega
      have hsn := inv.same (nxt cur) hn
      rcases hrot with ⟨g0, rfl, rfl⟩ | ⟨g0, g1, rfl, rfl⟩ | ⟨g0, g1, rfl, rfl⟩
      · refine VC_sound tabOk 100 ?_
        (repeat (first | refine Or.inl ⟨rfl, rfl, ?_⟩ | refine Or.inl ⟨rfl, ?_⟩ | refine Or.inr ?_))
        refine ⟨by decide, _, hZ.symm, ?_⟩
        refine Go_sel [4, 5, 6, 7, 0, 1, 2, 3, 8, 9] rfl ?_
        show Go _ _ _ _
        show Go _ _ _ _
        refine Go_ops rfl (OpTo_mcall (rsR br S cur) (spT bs (T) (nxt cur) ++ [.blk b7 29 (encE (evP a.id X a.tb)), .blk b6 38 (encA a)]) (List.Perm.of_eq rfl) rfl rfl rfl rfl rfl (by kernel_rfl) (fun w hb hm hio hsp k => r10_rotate br S cur (decide (Z = 0)) w _ k inv.cur) ?_)
        rintro _ _ (⟨g2, rfl, rfl⟩ | ⟨g2, g3, rfl, rfl⟩ | ⟨g2, g3, rfl, rfl⟩)
        · refine VC_sound tabOk 100 ?_
          refine ⟨fun _ => ?_, fun h => by first | (simp at h; done) | (simp at h; omega) | (simp_all; done)⟩
          exact Go_put (T, S, nxt cur) ⟨hn, inv.up.len, inv.same⟩ ⟨rfl, rfl, rfl, rfl, rfl, trivial⟩ (fun _ h => h.sel [4, 5, 6, 7, 0, 1, 2, 3] rfl)
        · exact absurd (hsn.symm.trans g0) g2
        · exact absurd (hsn.symm.trans g0) g2
      · refine VC_sound tabOk 100 ?_
        (repeat (first | refine Or.inl ⟨rfl, rfl, ?_⟩ | refine Or.inl ⟨rfl, ?_⟩ | refine Or.inr ?_))
        refine ⟨by decide, _, hZ.symm, ?_⟩
        refine Go_sel [4, 5, 6, 7, 0, 1, 2, 3, 8, 9] rfl ?_
        show Go _ _ _ _
        show Go _ _ _ _
        refine Go_ops rfl (OpTo_mcall (rsR br S cur) (spT bs (T) (cur) ++ [.blk b7 29 (encE (evP a.id X a.tb)), .blk b6 38 (encA a)]) (List.Perm.of_eq rfl) rfl rfl rfl rfl rfl (by kernel_rfl) (fun w hb hm hio hsp k => r10_rotate br S cur (decide (Z = 0)) w _ k inv.cur) ?_)
        rintro _ _ (⟨g2, rfl, rfl⟩ | ⟨g2, g3, rfl, rfl⟩ | ⟨g2, g3, rfl, rfl⟩)
        · exact absurd (hsn.trans g2) g0
        · refine VC_sound tabOk 100 ?_
          refine ⟨fun _ => ?_, fun h => by first | (simp at h; done) | (simp at h; omega) | (simp_all; done)⟩
          exact Go_put (T, S, cur) inv.up ⟨rfl, rfl, rfl, rfl, rfl, trivial⟩ (fun _ h => h.sel [4, 5, 6, 7, 0, 1, 2, 3] rfl)
        · rw [g1] at g3; cases g3
      · rw [spSet_eq]
        refine VC_sound tabOk 100 ?_
        (repeat (first | refine Or.inl ⟨rfl, rfl, ?_⟩ | refine Or.inl ⟨rfl, ?_⟩ | refine Or.inr ?_))
        refine ⟨by decide, _, hZ.symm, ?_⟩
        refine Go_sel [4, 5, 6, 7, 0, 1, 2, 3, 8, 9] rfl ?_
        show Go _ _ _ _
        show Go _ _ _ _
        refine Go_ops rfl (OpTo_mcall (rsR br S cur) (spT bs (set3 T (nxt cur) noTb) (cur) ++ [.blk b7 29 (encE (evP a.id X a.tb)), .blk b6 38 (encA a)]) (List.Perm.of_eq rfl) rfl rfl rfl rfl rfl (by kernel_rfl) (fun w hb hm hio hsp k => r10_rotate br S cur (decide (Z = 0)) w _ k inv.cur) ?_)
        rintro _ _ (⟨g2, rfl, rfl⟩ | ⟨g2, g3, rfl, rfl⟩ | ⟨g2, g3, rfl, rfl⟩)
        · exact absurd (hsn.trans g2) g0
        · rw [g1] at g3; cases g3
        · refine VC_sound tabOk 100 ?_
          refine ⟨fun _ => ?_, fun h => by first | (simp at h; done) | (simp at h; omega) | (simp_all; done)⟩
          exact Go_put (set3 T (nxt cur) noTb, set3 S (nxt cur) noTb, cur) (inv.clear hn) ⟨rfl, rfl, rfl, rfl, rfl, trivial⟩ (fun _ h => h.sel [4, 5, 6, 7, 0, 1, 2, 3] rfl)
    rintro ⟨T2, S2, cur2⟩ inv2
    dsimp only at inv2 ⊢
    clear hle0 hle1 hle2
    have hlen2 := inv2.len
    have hlenS2 : len3 S2 = len3 T2 := (len3_eq inv2.same).symm
    have hp := pre3_eq inv2.same
    have hpl := pre3_len T2
    have hc3 := inv2.cur
    have hn : nxt cur2 < 3 := by simp only [nxt]; omega
    have hn3 : nxt cur2 = 0 ∨ nxt cur2 = 1 ∨ nxt cur2 = 2 := by omega
    have hle : ∀ k, k < 3 → (get3 T2 k).xs.length ≤ 10000 := fun k hk => by have := len3_le T2 k hk; omega
    have hle0 := hle 0 (by omega)
    have hle1 := hle 1 (by omega)
    have hle2 := hle 2 (by omega)
    simp only [get3, pick3] at hle0 hle1 hle2
    have sm : ∀ k, k < 3 → (pick3 T2.1 T2.2.1 T2.2.2 k).xs = (get3 S2 k).xs := inv2.same
    refine VC_sound tabOk 100 ?_
    show Go _ _ _ _
    refine Go_any mixed [] [(0, false), (1, false), (2, false), (3, false), (5, false), (6, false), (7, false), (8, false), (4, true), (9, false), (10, false), (11, false), (12, false), (14, false), (13, true), (15, true), (16, true), (17, false), (18, false), (19, false), (20, false), (22, false), (21, true), (23, true), (24, true), (25, false), (26, false), (27, false), (28, false), (30, false), (29, true), (31, true), (32, false), (33, false), (34, false)] rfl (by kernel_rfl) (by kernel_rfl) [.blk br 52 [S2.1.v, S2.2.1.v, S2.2.2.v, .int .i64 cur2]] (fun _ => True) (fun _ _ _ h => h) (fun w hm _ => ⟨Holds.of_idx [4] hm, trivial⟩) ?_
    refine VC_sound tabOk 100 ?_
    refine ⟨fun h => by first | (simp at h; done) | (simp at h; omega) | (simp_all; done), fun _ => ?_⟩
    (repeat (first | refine Or.inl ⟨rfl, rfl, ?_⟩ | refine Or.inl ⟨rfl, ?_⟩ | refine Or.inr ?_))
    refine Go_aloneL rfl rfl (OpTo_pcall (v := .int .i64 cur2) rfl rfl rfl rfl rfl (by kernel_rfl) (fun w hm _ => spool_cur bs T2.1 T2.2.1 T2.2.2 cur2 w (hm.blk_at (i := 0) rfl)) ?_)
    refine And.intro (fun w hm _ => ⟨Holds.of_idx [4] hm, trivial⟩) ?_
    refine VC_sound tabOk 100 ?_
    refine ⟨fun h => by first | (simp at h; done) | (simp at h; omega) | (simp_all; done), fun _ => ?_⟩
    refine Go_aloneL rfl rfl (OpTo_ncall rfl rfl rfl rfl rfl (by kernel_rfl) (fun w hm _ => spool_all bs T2.1 T2.2.1 T2.2.2 cur2 w (hm.blk_at (i := 0) rfl) (fun k => match k with | 0 => hm.own_rd (i := 1) rfl | 1 => hm.own_rd (i := 2) rfl | k + 2 => hm.own_rd (i := 3) rfl) (by omega)) ?_)
    rintro _ _ ⟨ys, hS, A1, c1, rfl, rfl⟩
    have hyl : ys.length ≤ 10000 := by rw [hS.2.2]; omega
    refine And.intro (fun w hm _ => ⟨Holds.of_idx [5] hm, trivial⟩) ?_
    refine VC_sound tabOk 100 ?_
    refine Go_sel [5, 6, 7, 8, 0, 1, 2, 3, 4] rfl ?_
    show Go _ _ _ _
    refine Go_aloneL rfl rfl (OpTo_mcall (rsR br S2 cur2) (own encE 8 29 A1 c1 ys :: spT bs T2 cur2) (List.Perm.of_eq rfl) rfl rfl rfl rfl rfl (by kernel_rfl) (fun w hb hm hio hsp k => r10_all br S2 cur2 w _ k (by omega)) ?_)
    rintro _ _ ⟨zs, A2, c2, hZ, rfl, rfl⟩
    rw [← hp] at hZ
    obtain rfl : zs = ys := Rise.unique ordI hZ.2.1 hS.2.1 fun k => (hZ.1 k).symm.trans (hS.1 k)
    refine And.intro (fun w hm _ => ⟨Holds.of_idx [1] hm, trivial⟩) ?_
    refine VC_sound tabOk 100 ?_
    refine Go_aloneL rfl rfl (OpTo_pcall (v := .bool true) rfl rfl rfl rfl rfl (by kernel_rfl) (fun w hm _ => r09_same A1 A2 c1 c2 zs w (hm.own_rd (i := 5) rfl) (hm.own_rd (i := 0) rfl) (by omega)) ?_)
    refine And.intro (fun w hm _ => ⟨Holds.of_idx [1] hm, trivial⟩) ?_
    refine VC_sound tabOk 100 ?_
    refine ⟨fun h => by first | (simp at h; done) | (simp at h; omega) | (simp_all; done), fun _ => ?_⟩
    refine Go_aloneL rfl rfl (OpTo_ncall rfl rfl rfl rfl rfl (by kernel_rfl) (fun w hm _ => spool_next bs T2.1 T2.2.1 T2.2.2 cur2 w (hm.blk_at (i := 6) rfl) (by
        rcases hn3 with h | h | h <;> rw [h]
        · exact hm.own_rd (i := 7) rfl
        · exact hm.own_rd (i := 8) rfl
        · exact hm.own_rd (i := 9) rfl) hc3 (hle _ hn)) ?_)
    rintro _ _ ⟨A3, c3, rfl, rfl⟩
    rw [sm _ hn]
    refine And.intro (fun w hm _ => ⟨Holds.of_idx [2] hm, trivial⟩) ?_
    refine VC_sound tabOk 100 ?_
    refine Go_sel [2, 3, 4, 5, 0, 1, 6, 7, 8, 9, 10] rfl ?_
    show Go _ _ _ _
    refine Go_aloneL rfl rfl (OpTo_mcall (rsR br S2 cur2) (own encE 8 29 A3 c3 (get3 S2 (nxt cur2)).xs :: own encE 8 29 A2 c2 zs :: own encE 8 29 A1 c1 zs :: spT bs T2 cur2) (List.Perm.of_eq rfl) rfl rfl rfl rfl rfl (by kernel_rfl) (fun w hb hm hio hsp k => r10_next br S2 cur2 w _ k hc3) ?_)
    rintro _ _ ⟨rfl, rfl⟩
    refine And.intro (fun w hm _ => ⟨Holds.of_idx [0] hm, trivial⟩) ?_
    refine VC_sound tabOk 100 ?_
    refine Go_aloneL rfl rfl (OpTo_pcall (v := .bool true) rfl rfl rfl rfl rfl (by kernel_rfl) (fun w hm _ => r09_same A3 (get3 S2 (nxt cur2)).A c3 (get3 S2 (nxt cur2)).c (get3 S2 (nxt cur2)).xs w (hm.own_rd (i := 4) rfl) (by
        rcases hn3 with h | h | h <;> rw [h]
        · exact hm.own_rd (i := 1) rfl
        · exact hm.own_rd (i := 2) rfl
        · exact hm.own_rd (i := 3) rfl) (by rw [← inv2.same _ hn]; have := hle _ hn; omega)) ?_)
    refine And.intro (fun w hm _ => ⟨Holds.of_idx [0] hm, trivial⟩) ?_
    refine VC_sound tabOk 100 ?_
    refine ⟨fun h => by first | (simp at h; done) | (simp at h; omega) | (simp_all; done), fun _ => ?_⟩
    refine Go_aloneL rfl rfl (OpTo_pcall (v := .int .i64 ((T2.1.xs.length + T2.2.1.xs.length + T2.2.2.xs.length : Nat) : Int)) rfl rfl rfl rfl rfl (by kernel_rfl) (fun w hm _ => spool_len bs T2.1 T2.2.1 T2.2.2 cur2 w (hm.blk_at (i := 7) rfl) (by omega) (by omega) (by omega)) ?_)
    refine And.intro (fun w hm _ => ⟨Holds.of_idx [0] hm, trivial⟩) ?_
    refine VC_sound tabOk 100 ?_
    show Go _ _ _ _
    refine Go_aloneL rfl rfl (OpTo_mcall (rsR br S2 cur2) (own encE 8 29 A3 c3 (get3 S2 (nxt cur2)).xs :: own encE 8 29 A2 c2 zs :: own encE 8 29 A1 c1 zs :: spT bs T2 cur2) (List.Perm.of_eq rfl) rfl rfl rfl rfl rfl (by kernel_rfl) (fun w hb hm hio hsp k => r10_all br S2 cur2 w _ k (by omega)) ?_)
    rintro _ _ ⟨us, A4, c4, hU, rfl, rfl⟩
    have hul : us.length = T2.1.xs.length + T2.2.1.xs.length + T2.2.2.xs.length := by rw [hU.2.2, ← hp, pre3_len]; rfl
    refine And.intro (fun w hm _ => ⟨Holds.of_idx [1] hm, trivial⟩) ?_
    refine VC_sound tabOk 100 ?_
    refine ⟨fun h => by simp [hul] at h, fun _ => ?_⟩
    refine Go_loop (σ := Nat) (fun j => [(0, .v (.slice (some ⟨ba, oa, none⟩) l.length c0)), (3, .v (.pointer (some ⟨bs, 0, none⟩))), (4, .v (.pointer (some ⟨br, 0, none⟩))), (5, .v (.int .i64 i)), (13, .v (.int .i64 (kOf j)))]) (fun _ => spT bs T2 cur2 ++ rsR br S2 cur2) (fun j => j ≤ 5) (fun j => 5 - j) 0 (Nat.zero_le _) ⟨rfl, rfl, rfl, rfl, rfl, trivial⟩ (fun _ h => h.sel [8, 9, 10, 11, 1, 2, 3, 4] rfl) ?_
    intro j hj
    dsimp only at hj ⊢
    have hj6 : j = 0 ∨ j = 1 ∨ j = 2 ∨ j = 3 ∨ j = 4 ∨ j = 5 := by omega
    rcases hj6 with rfl | rfl | rfl | rfl | rfl | rfl
    · dsimp only [kOf]
      refine VC_sound tabOk 100 ?_
      refine ⟨fun _ => ?_, fun h => by first | (simp at h; done) | (simp at h; omega) | (simp_all; done)⟩
      refine ⟨fun h => by first | (simp at h; done) | (simp at h; omega) | (simp_all; done), fun _ => ?_⟩
      refine Go_ops rfl (OpTo_pcall (v := .slice none 0 0) rfl rfl rfl rfl rfl (by kernel_rfl) (fun w hm _ => spool_list_out bs (-1) w (by omega)) ?_)
      refine VC_sound tabOk 100 ?_
      refine Go_ops rfl (OpTo_pcall (v := .bool true) rfl rfl rfl rfl rfl (by kernel_rfl) (fun w hm _ => r09_same none none 0 0 [] w (.inl rfl) (.inl rfl) (by simp)) ?_)
      refine VC_sound tabOk 100 ?_
      refine ⟨fun h => by first | (simp at h; done) | (simp at h; omega) | (simp_all; done), fun _ => ?_⟩
      refine ⟨_, wrap_i64 (n := (-1 : Int) + 1) (by omega) (by omega), ?_⟩
      exact Go_fin 1 (by omega) (by omega) ⟨rfl, rfl, rfl, rfl, congrArg (Value.int .i64) (by simp [kOf]), trivial⟩ (fun _ h => h)
    · dsimp only [kOf]
      refine VC_sound tabOk 100 ?_
      refine ⟨fun _ => ?_, fun h => by first | (simp at h; done) | (simp at h; omega) | (simp_all; done)⟩
      refine ⟨fun _ => ?_, fun h => by first | (simp at h; done) | (simp at h; omega) | (simp_all; done)⟩
      refine ⟨fun _ => ?_, fun h => by first | (simp at h; done) | (simp at h; omega) | (simp_all; done)⟩
      refine ⟨⟨by omega, by omega⟩, ?_⟩
      (repeat (first | refine Or.inl ⟨rfl, rfl, ?_⟩ | refine Or.inl ⟨rfl, ?_⟩ | refine Or.inr ?_))
      show Go _ _ _ _
      refine Go_ops rfl (OpTo_ncall rfl rfl rfl rfl rfl (by kernel_rfl) (fun w hm _ => spool_list bs T2.1 T2.2.1 T2.2.2 cur2 0 w (hm.blk_at (i := 0) rfl) (hm.own_rd (i := 1) rfl) (by omega) (hle 0 (by omega))) ?_)
      rintro _ _ ⟨A5, c5, rfl, rfl⟩
      rw [sm 0 (by omega)]
      refine VC_sound tabOk 100 ?_
      refine Go_ops rfl (OpTo_pcall (v := .bool true) rfl rfl rfl rfl rfl (by kernel_rfl) (fun w hm _ => r09_same A5 (get3 S2 0).A c5 (get3 S2 0).c (get3 S2 0).xs w (hm.own_rd (i := 0) rfl) (hm.own_rd (i := 6) rfl) (by rw [← inv2.same 0 (by omega)]; have := hle 0 (by omega); omega)) ?_)
      refine VC_sound tabOk 100 ?_
      refine ⟨fun h => by first | (simp at h; done) | (simp at h; omega) | (simp_all; done), fun _ => ?_⟩
      refine ⟨_, wrap_i64 (n := ((0 : Nat) : Int) + 1) (by omega) (by omega), ?_⟩
      exact Go_fin 2 (by omega) (by omega) ⟨rfl, rfl, rfl, rfl, congrArg (Value.int .i64) (by simp [kOf]), trivial⟩ (fun _ h => h.sel [1, 2, 3, 4, 5, 6, 7, 8] rfl)
    · dsimp only [kOf]
      refine VC_sound tabOk 100 ?_
      refine ⟨fun _ => ?_, fun h => by first | (simp at h; done) | (simp at h; omega) | (simp_all; done)⟩
      refine ⟨fun _ => ?_, fun h => by first | (simp at h; done) | (simp at h; omega) | (simp_all; done)⟩
      refine ⟨fun _ => ?_, fun h => by first | (simp at h; done) | (simp at h; omega) | (simp_all; done)⟩
      refine ⟨⟨by omega, by omega⟩, ?_⟩
      (repeat (first | refine Or.inl ⟨rfl, rfl, ?_⟩ | refine Or.inl ⟨rfl, ?_⟩ | refine Or.inr ?_))
      show Go _ _ _ _
      refine Go_ops rfl (OpTo_ncall rfl rfl rfl rfl rfl (by kernel_rfl) (fun w hm _ => spool_list bs T2.1 T2.2.1 T2.2.2 cur2 1 w (hm.blk_at (i := 0) rfl) (hm.own_rd (i := 2) rfl) (by omega) (hle 1 (by omega))) ?_)
      rintro _ _ ⟨A5, c5, rfl, rfl⟩
      rw [sm 1 (by omega)]
      refine VC_sound tabOk 100 ?_
      refine Go_ops rfl (OpTo_pcall (v := .bool true) rfl rfl rfl rfl rfl (by kernel_rfl) (fun w hm _ => r09_same A5 (get3 S2 1).A c5 (get3 S2 1).c (get3 S2 1).xs w (hm.own_rd (i := 0) rfl) (hm.own_rd (i := 7) rfl) (by rw [← inv2.same 1 (by omega)]; have := hle 1 (by omega); omega)) ?_)
      refine VC_sound tabOk 100 ?_
      refine ⟨fun h => by first | (simp at h; done) | (simp at h; omega) | (simp_all; done), fun _ => ?_⟩
      refine ⟨_, wrap_i64 (n := ((1 : Nat) : Int) + 1) (by omega) (by omega), ?_⟩
      exact Go_fin 3 (by omega) (by omega) ⟨rfl, rfl, rfl, rfl, congrArg (Value.int .i64) (by simp [kOf]), trivial⟩ (fun _ h => h.sel [1, 2, 3, 4, 5, 6, 7, 8] rfl)
    · dsimp only [kOf]
      refine VC_sound tabOk 100 ?_
      refine ⟨fun _ => ?_, fun h => by first | (simp at h; done) | (simp at h; omega) | (simp_all; done)⟩
      refine ⟨fun _ => ?_, fun h => by first | (simp at h; done) | (simp at h; omega) | (simp_all; done)⟩
      refine ⟨fun _ => ?_, fun h => by first | (simp at h; done) | (simp at h; omega) | (simp_all; done)⟩
      refine ⟨⟨by omega, by omega⟩, ?_⟩
      (repeat (first | refine Or.inl ⟨rfl, rfl, ?_⟩ | refine Or.inl ⟨rfl, ?_⟩ | refine Or.inr ?_))
      show Go _ _ _ _
      refine Go_ops rfl (OpTo_ncall rfl rfl rfl rfl rfl (by kernel_rfl) (fun w hm _ => spool_list bs T2.1 T2.2.1 T2.2.2 cur2 2 w (hm.blk_at (i := 0) rfl) (hm.own_rd (i := 3) rfl) (by omega) (hle 2 (by omega))) ?_)
      rintro _ _ ⟨A5, c5, rfl, rfl⟩
      rw [sm 2 (by omega)]
      refine VC_sound tabOk 100 ?_
      refine Go_ops rfl (OpTo_pcall (v := .bool true) rfl rfl rfl rfl rfl (by kernel_rfl) (fun w hm _ => r09_same A5 (get3 S2 2).A c5 (get3 S2 2).c (get3 S2 2).xs w (hm.own_rd (i := 0) rfl) (hm.own_rd (i := 8) rfl) (by rw [← inv2.same 2 (by omega)]; have := hle 2 (by omega); omega)) ?_)
      refine VC_sound tabOk 100 ?_
      refine ⟨fun h => by first | (simp at h; done) | (simp at h; omega) | (simp_all; done), fun _ => ?_⟩
      refine ⟨_, wrap_i64 (n := ((2 : Nat) : Int) + 1) (by omega) (by omega), ?_⟩
      exact Go_fin 4 (by omega) (by omega) ⟨rfl, rfl, rfl, rfl, congrArg (Value.int .i64) (by simp [kOf]), trivial⟩ (fun _ h => h.sel [1, 2, 3, 4, 5, 6, 7, 8] rfl)
    · dsimp only [kOf]
      refine VC_sound tabOk 100 ?_
      refine ⟨fun _ => ?_, fun h => by first | (simp at h; done) | (simp at h; omega) | (simp_all; done)⟩
      refine ⟨fun _ => ?_, fun h => by first | (simp at h; done) | (simp at h; omega) | (simp_all; done)⟩
      refine ⟨fun h => by first | (simp at h; done) | (simp at h; omega) | (simp_all; done), fun _ => ?_⟩
      refine Go_ops rfl (OpTo_pcall (v := .slice none 0 0) rfl rfl rfl rfl rfl (by kernel_rfl) (fun w hm _ => spool_list_out bs ((3 : Nat) : Int) w (by omega)) ?_)
      refine VC_sound tabOk 100 ?_
      refine Go_ops rfl (OpTo_pcall (v := .bool true) rfl rfl rfl rfl rfl (by kernel_rfl) (fun w hm _ => r09_same none none 0 0 [] w (.inl rfl) (.inl rfl) (by simp)) ?_)
      refine VC_sound tabOk 100 ?_
      refine ⟨fun h => by first | (simp at h; done) | (simp at h; omega) | (simp_all; done), fun _ => ?_⟩
      refine ⟨_, wrap_i64 (n := ((3 : Nat) : Int) + 1) (by omega) (by omega), ?_⟩
      exact Go_fin 5 (by omega) (by omega) ⟨rfl, rfl, rfl, rfl, congrArg (Value.int .i64) (by simp [kOf]), trivial⟩ (fun _ h => h)
    · dsimp only [kOf]
      refine VC_sound tabOk 100 ?_
      refine ⟨fun h => by first | (simp at h; done) | (simp at h; omega) | (simp_all; done), fun _ => ?_⟩
      refine ⟨_, wrap_i64 (n := (i : Int) + 1) (by omega) (by omega), ?_⟩
      exact Go_fin (i + 1, T2, S2, cur2) ⟨by dsimp only; omega, inv2⟩ (by dsimp only; omega) ⟨rfl, rfl, rfl, rfl, trivial⟩ (fun _ h => h)
  refine VC_sound tabOk 100 ?_
  refine ⟨fun h => by first | (simp at h; done) | (simp at h; omega) | (simp_all; done), fun _ => ?_⟩
  rfl
end Go.Proofs.Ytdkalgnjfbbokaa
