/- The laws of layer 11, more: what each run comes to. -/
import Derived.Test.YtkhnnaekinoghaaL11
set_option autoImplicit false
set_option linter.unusedVariables false
namespace Go.Proofs.Ytkhnnaekinoghaa
open Go.RX Go Go.RowKit


/-- Numbered from 1 on. -/
def Nums (ts : List TickM) : Prop := ts.map (·.n) = (List.range ts.length).map fun i : Nat => (i : Int) + 1
theorem Nums.nil : Nums [] := rfl
theorem Nums.snoc {ts : List TickM} (h : Nums ts) (x : TickM) (hx : x.n = (ts.length : Int) + 1) : Nums (ts ++ [x]) := by
  unfold Nums at h ⊢
  simp [List.range_succ, h, hx]
theorem Nums.gone {ts : List TickM} (h : Nums ts) (q : Int → Bool) : (ts.filter fun x => q x.n).length = (((List.range ts.length).map fun i : Nat => (i : Int) + 1).filter q).length := by
  rw [← h, List.filter_map, List.length_map]; rfl
theorem TkOne.filter {ts : List TickM} (h : TkOne ts) (q : TickM → Bool) : TkOne (ts.filter q) := fun t ht => h t (List.mem_filter.1 ht).1

theorem full_count : ∀ K : Nat, K < 60 → (((List.range 64).map fun i : Nat => (i : Int) + 1).filter fun n => !(decide (n < 2 + (K : Int)) && decide (n < 64))).length = 63 - K := by decide +kernel

set_option maxHeartbeats 1000000 in
theorem l11_TickFull (n : Int) (w0 : World) (hn : 0 ≤ n ∧ n ≤ 255) : Calls Try.prog 3 #[.int .u8 n] w0 fun e w' => e = .returned (.bool true) ∧ BelowD w0.heap.size w0 w' := by
  refine enterP (tab := tab) Try.func3 rfl Try.ntmps3 rfl (args := [_]) rfl ?_
  refine VC_sound tabOk 100 ?_
  refine Go_ops rfl (OpTo_pcall (v := .bool true) rfl rfl rfl rfl rfl (by kernel_rfl) (fun w hm _ => l11_trims w) ?_)
  refine VC_sound tabOk 100 ?_
  refine ⟨fun h => by simp at h, fun _ => ?_⟩
  show Go _ _ _ _
  refine Go_ops rfl (OpTo_ncall rfl rfl rfl rfl rfl (by kernel_rfl) (fun w hm _ => tick_new2 w) ?_)
  rintro _ _ ⟨bt, rfl, rfl⟩
  refine VC_sound tabOk 100 ?_
  refine Go_loop (σ := Nat × Option Addr × Nat × List TickM) (fun s => [(0, .v (.int .u8 n)), (3, .v (.pointer (some ⟨bt, 0, none⟩))), (4, .v (.int .i64 s.1))]) (fun s => tkR bt s.2.1 s.2.2.1 s.2.2.2 s.1)
    (fun s => s.1 ≤ 64 ∧ s.2.2.2.length = s.1 ∧ TkOne s.2.2.2 ∧ Nums s.2.2.2) (fun s => 64 - s.1) (0, none, 0, []) ⟨by simp, rfl, TkOne.nil, Nums.nil⟩ ⟨rfl, rfl, rfl, trivial⟩ (fun _ h => h) ?_
  rintro ⟨i, A, c, ts⟩ ⟨hi, hl, h1, hnum⟩
  dsimp only at hi hl h1 hnum ⊢
  refine VC_sound tabOk 100 ?_
  refine ⟨fun hb => ?_, fun hb => ?_⟩
  · have hlt : i < 64 := by simp at hb; omega
    show Go _ _ _ _
    refine Go_ops rfl (OpTo_mcall (tkR bt A c ts i) [] (List.Perm.of_eq (by simp)) rfl rfl rfl rfl rfl (by kernel_rfl) (fun w hb hm hio hsp k => add_one bt A c ts i w _ k h1 (by omega) (by omega)) ?_)
    rintro _ _ ⟨A1, c1, A2, c2, A3, c3, rfl, rfl⟩
    refine VC_sound tabOk 100 ?_
    intro b5 _
    (repeat (first | refine Or.inl ⟨rfl, rfl, ?_⟩ | refine Or.inl ⟨rfl, ?_⟩ | refine Or.inr ?_))
    refine ⟨fun h => by simp at h, fun _ => ?_⟩
    refine ⟨_, wrap_i64 (n := (i : Int) + 1) (by omega) (by omega), ?_⟩
    exact Go_fin (i + 1, A2, c2, ts ++ [⟨(i : Int) + 1, 1, A1, c1, [], 0⟩]) ⟨by simp; omega, by simp [hl], h1.snoc _ _ _, hnum.snoc _ (by simp [hl])⟩ (by simp; omega) ⟨rfl, rfl, rfl, trivial⟩ (fun _ h => by
      have h := h.sel [1, 2, 3] rfl
      dsimp only
      rw [show ((i + 1 : Nat) : Int) = (i : Int) + 1 by omega]
      exact h)
  · have e : i = 64 := by simp at hb; omega
    subst e
    show Go _ _ _ _
    refine Go_ops rfl (OpTo_mcall (tkR bt A c ts 64) [] (List.Perm.of_eq (by simp)) rfl rfl rfl rfl rfl (by kernel_rfl) (fun w hb hm hio hsp k => add_full bt A c ts 64 w _ k h1 (by omega) (by omega) (by omega)) ?_)
    rintro _ _ ⟨rfl, rfl⟩
    refine VC_sound tabOk 100 ?_
    intro b7 _
    (repeat (first | refine Or.inl ⟨rfl, rfl, ?_⟩ | refine Or.inl ⟨rfl, ?_⟩ | refine Or.inr ?_))
    obtain ⟨K, hK, hK60⟩ : ∃ K : Nat, n.tmod 60 = K ∧ K < 60 := by
      have h1 := Int.tmod_nonneg 60 hn.1
      have h2 := Int.tmod_lt_of_pos n (b := 60) (by decide)
      exact ⟨(n.tmod 60).toNat, by omega, by omega⟩
    refine ⟨by decide, _, hK.symm, ?_⟩
    refine ⟨_, wrap_i64 (n := (K : Int)) (by omega) (by omega), ?_⟩
    refine ⟨_, wrap_i64 (n := 2 + (K : Int)) (by omega) (by omega), ?_⟩
    refine Go_sel [1, 2, 3, 0] rfl ?_
    show Go _ _ _ _
    refine Go_ops rfl (OpTo_mcall (tkR bt A c ts 64) [.blk b7 29 [.int .i64 0, .int .i64 0, .slice none 0 0, .int .i64 0]] (List.Perm.refl _) rfl rfl rfl rfl rfl (by kernel_rfl) (fun w hb hm hio hsp k => tick_trim bt A c ts 64 (2 + (K : Int)) w _ k (by omega)) ?_)
    rintro _ _ ⟨rfl, rfl⟩
    have hcnt : (ts.filter fun x => !tkGone (2 + (K : Int)) 64 x).length = 63 - K := by
      have := hnum.gone fun n => !(decide (n < 2 + (K : Int)) && decide (n < 64))
      rw [hl, full_count K hK60] at this
      exact this
    have h2 := h1.filter fun x => !tkGone (2 + (K : Int)) 64 x
    rw [hcnt, hl]
    generalize hts : (ts.filter fun x => !tkGone (2 + (K : Int)) 64 x) = us at *
    refine VC_sound tabOk 100 ?_
    show Go _ _ _ _
    refine Go_ops rfl (OpTo_mcall (tkR bt A c us 64) [.blk b7 29 [.int .i64 0, .int .i64 0, .slice none 0 0, .int .i64 0]] (List.Perm.refl _) rfl rfl rfl rfl rfl (by kernel_rfl) (fun w hb hm hio hsp k => add_one bt A c us 64 w _ k h2 (by omega) (by omega)) ?_)
    rintro _ _ ⟨A1, c1, A2, c2, A3, c3, rfl, rfl⟩
    refine VC_sound tabOk 100 ?_
    intro b8 _
    (repeat (first | refine Or.inl ⟨rfl, rfl, ?_⟩ | refine Or.inl ⟨rfl, ?_⟩ | refine Or.inr ?_))
    refine ⟨fun _ => ?_, fun h => by simp at h⟩
    refine ⟨_, wrap_i64 (n := 2 + (K : Int) - 1) (by omega) (by omega), ?_⟩
    refine ⟨fun _ => ?_, fun h => by have := of_decide_eq_false h; omega⟩
    refine ⟨fun _ => ?_, fun h => by simp at h⟩
    (repeat (first | refine Or.inl ⟨rfl, rfl, ?_⟩ | refine Or.inl ⟨rfl, ?_⟩ | refine Or.inr ?_))
    refine ⟨fun _ => ?_, fun h => by simp at h⟩
    refine Go_ops rfl (OpTo_pcall (v := .int .i64 (us ++ [(⟨64 + 1, 1, A1, c1, [], 0⟩ : TickM)]).length) rfl rfl rfl rfl rfl (by kernel_rfl) (fun w hm _ => tick_len bt A2 _ c2 (64 + 1) w (hm.blk_at (i := 1) rfl)) ?_)
    refine VC_sound tabOk 100 ?_
    refine ⟨_, wrap_i64 (n := 64 - (64 - ((63 - K : Nat) : Int))) (by omega) (by omega), ?_⟩
    refine ⟨_, wrap_i64 (n := 64 - (64 - ((63 - K : Nat) : Int)) + 1) (by omega) (by omega), ?_⟩
    refine congrArg Value.bool (decide_eq_true ?_)
    simp [hcnt]
    omega

def putE (ts : List TickM) (last n most : Int) : Int := if n ≠ last + 1 then 1 else if 64 ≤ ts.length then 8 else if 1 ≤ most then 0 else 1
theorem TkOne.follows {ts : List TickM} (h : TkOne ts) (most : Int) : tkFollows ts most [] 0 = decide (1 ≤ most) := by
  have hr : snRight most [] = decide (1 ≤ most) := rfl
  simp only [tkFollows, hr]
  cases hg : ts.getLast? with
  | none => simp
  | some l =>
    obtain ⟨h1, h2, h3⟩ := h l (List.mem_of_getLast? hg)
    by_cases hm : 1 ≤ most
    · simp [h1, h2, h3, hm, snCovers]
    · simp [hm]
theorem put_law (bt : Nat) (A : Option Addr) (c : Nat) (ts : List TickM) (last n most : Int) (w0 : World) (hfs : List PH) (hm : Mod hfs (tkR bt A c ts last) w0) (h1 : TkOne ts) (hts : ts.length ≤ 1000) (hl : 0 ≤ last ∧ last ≤ 1000) (hmx : -9223372036854775808 ≤ most ∧ most ≤ 9223372036854775807) :
    Calls Try.prog 18 #[.pointer (some ⟨bt, 0, none⟩), mkT ⟨n, most, none, 0, [], 0⟩] w0 fun e w' => ∃ v Rs', e = .returned v ∧ (v = .int .i64 (putE ts last n most) ∧ ∃ A' c' ts' last', Rs' = tkR bt A' c' ts' last' ∧ TkFit ts' ∧ ts'.length ≤ 1001 ∧ (last' = last ∨ last' = last + 1)) ∧ Mod hfs Rs' w' ∧ Oth w0 w' :=
  (tick_put bt A c ts last ⟨n, most, none, 0, [], 0⟩ w0 hfs hm (fun _ _ _ => .inl rfl) (by simp) h1.fit hmx (by omega) (by omega)).mono fun e w' ⟨v, Rs', k1, k2, k3, k4⟩ => by
    have ha : tkAdd ts most [] 0 = if 64 ≤ ts.length then 8 else if 1 ≤ most then 0 else 1 := by
      simp only [tkAdd, h1.follows most, decide_eq_true_eq]
    refine ⟨v, Rs', k1, ?_, k3, k4⟩
    rcases k2 with ⟨g1, g2, g3⟩ | ⟨g1, g2, g3, g4⟩ | ⟨g1, g2, g3, A1, c1, A2, c2, g4⟩
    · exact ⟨by rw [g2, putE, if_pos g1], A, c, ts, last, g3, h1.fit, by omega, .inl rfl⟩
    · refine ⟨?_, A, c, ts, last, g4, h1.fit, by omega, .inl rfl⟩
      rw [g3, putE, if_neg (by simpa using g1)]
      exact congrArg (Value.int .i64) ha
    · refine ⟨?_, A2, c2, _, last + 1, g4, fun t ht => ?_, by simp; omega, .inr rfl⟩
      · rw [g3, putE, if_neg (by simpa using g1), ← ha]
        exact congrArg (Value.int .i64) g2.symm
      · rcases List.mem_append.1 ht with ht | ht
        · exact h1.fit t ht
        · have h0 : 1 ≤ most := by
            have g2 : tkAdd ts most [] 0 = 0 := g2
            rw [ha] at g2
            split at g2
            · cases g2
            · split at g2
              · assumption
              · cases g2
          simp at ht; subst ht; simp; omega

theorem put_far (bt : Nat) (A : Option Addr) (c : Nat) (ts : List TickM) (last n : Int) (w0 : World) (hfs : List PH) (hm : Mod hfs (tkR bt A c ts last) w0) (h1 : TkFit ts) (hts : ts.length ≤ 1001) (hl : 0 ≤ last ∧ last ≤ 1001) (hn : n ≠ last + 1) :
    Calls Try.prog 18 #[.pointer (some ⟨bt, 0, none⟩), mkT ⟨n, 1, none, 0, [], 0⟩] w0 fun e w' => ∃ v Rs', e = .returned v ∧ (v = .int .i64 1 ∧ Rs' = tkR bt A c ts last) ∧ Mod hfs Rs' w' ∧ Oth w0 w' :=
  (tick_put bt A c ts last ⟨n, 1, none, 0, [], 0⟩ w0 hfs hm (fun _ _ _ => .inl rfl) (by simp) h1 (by simp) (by omega) (by omega)).mono fun e w' ⟨v, Rs', k1, k2, k3, k4⟩ => by
    rcases k2 with ⟨g1, g2, g3⟩ | ⟨g1, _⟩ | ⟨g1, _⟩
    · exact ⟨v, Rs', k1, ⟨g2, g3⟩, k3, k4⟩
    · exact absurd g1 hn
    · exact absurd g1 hn

set_option maxHeartbeats 2000000 in
theorem l11_TickPuts (n k most : Int) (w0 : World) (hk : 0 ≤ k ∧ k ≤ 255) (hmx : -9223372036854775808 ≤ most ∧ most ≤ 9223372036854775807) : Calls Try.prog 5 #[.int .i64 n, .int .u8 k, .int .i64 most] w0 fun e w' => e = .returned (.bool true) ∧ BelowD w0.heap.size w0 w' := by
  obtain ⟨K, hK, hK70⟩ : ∃ K : Nat, k.tmod 70 = K ∧ K < 70 := by
    have h1 := Int.tmod_nonneg 70 hk.1
    have h2 := Int.tmod_lt_of_pos k (b := 70) (by decide)
    exact ⟨(k.tmod 70).toNat, by omega, by omega⟩
  refine enterP (tab := tab) Try.func5 rfl Try.ntmps5 rfl (args := [_, _, _]) rfl ?_
  refine VC_sound tabOk 100 ?_
  refine Go_ops rfl (OpTo_pcall (v := .bool true) rfl rfl rfl rfl rfl (by kernel_rfl) (fun w hm _ => l11_trims w) ?_)
  refine VC_sound tabOk 100 ?_
  refine ⟨fun h => by simp at h, fun _ => ?_⟩
  show Go _ _ _ _
  refine Go_ops rfl (OpTo_ncall rfl rfl rfl rfl rfl (by kernel_rfl) (fun w hm _ => tick_new2 w) ?_)
  rintro _ _ ⟨bt, rfl, rfl⟩
  refine VC_sound tabOk 100 ?_
  refine Go_loop (σ := Nat × Option Addr × Nat × List TickM) (fun s => [(0, .v (.int .i64 n)), (1, .v (.int .u8 k)), (2, .v (.int .i64 most)), (7, .v (.pointer (some ⟨bt, 0, none⟩))), (8, .v (.int .i64 s.1))]) (fun s => tkR bt s.2.1 s.2.2.1 s.2.2.2 s.2.2.2.length)
    (fun s => s.1 ≤ K ∧ s.2.2.2.length = min s.1 64 ∧ TkOne s.2.2.2) (fun s => K - s.1) (0, none, 0, []) ⟨by simp, rfl, TkOne.nil⟩ ⟨rfl, rfl, rfl, rfl, rfl, trivial⟩ (fun _ h => h) ?_
  rintro ⟨i, A, c, ts⟩ ⟨hi, hl, h1⟩
  dsimp only at hi hl h1 ⊢
  refine VC_sound tabOk 100 ?_
  refine ⟨by decide, _, hK.symm, ?_⟩
  refine ⟨_, wrap_i64 (n := (K : Int)) (by omega) (by omega), ?_⟩
  refine ⟨fun hb => ?_, fun hb => ?_⟩
  · have hlt : i < K := by simp at hb; omega
    by_cases h64 : i < 64
    · refine Go_ops rfl (OpTo_mcall (tkR bt A c ts ts.length) [] (List.Perm.of_eq (by simp)) rfl rfl rfl rfl rfl (by kernel_rfl) (fun w hb hm hio hsp k => add_one bt A c ts ts.length w _ k h1 (by omega) (by omega)) ?_)
      rintro _ _ ⟨A1, c1, A2, c2, A3, c3, rfl, rfl⟩
      refine VC_sound tabOk 100 ?_
      refine ⟨_, wrap_i64 (n := (i : Int) + 1) (by omega) (by omega), ?_⟩
      exact Go_fin (i + 1, A2, c2, ts ++ [⟨(ts.length : Int) + 1, 1, A1, c1, [], 0⟩]) ⟨by simp; omega, by simp; omega, h1.snoc _ _ _⟩ (by simp; omega) ⟨rfl, rfl, rfl, rfl, rfl, trivial⟩ (fun _ h => by
        have h := h.sel [0, 1, 2] rfl
        dsimp only
        rw [show (((ts ++ [(⟨(ts.length : Int) + 1, 1, A1, c1, [], 0⟩ : TickM)]).length : Nat) : Int) = (ts.length : Int) + 1 by simp]
        exact h)
    · refine Go_ops rfl (OpTo_mcall (tkR bt A c ts ts.length) [] (List.Perm.of_eq (by simp)) rfl rfl rfl rfl rfl (by kernel_rfl) (fun w hb hm hio hsp k => add_full bt A c ts ts.length w _ k h1 (by omega) (by omega) (by omega)) ?_)
      rintro _ _ ⟨rfl, rfl⟩
      refine VC_sound tabOk 100 ?_
      refine ⟨_, wrap_i64 (n := (i : Int) + 1) (by omega) (by omega), ?_⟩
      exact Go_fin (i + 1, A, c, ts) ⟨by simp; omega, by simp; omega, h1⟩ (by simp; omega) ⟨rfl, rfl, rfl, rfl, rfl, trivial⟩ (fun _ h => h.sel [0, 1, 2] rfl)
  · have e : i = K := by simp at hb; omega
    subst e
    refine Go_ops rfl (OpTo_pcall (v := .int .i64 ts.length) rfl rfl rfl rfl rfl (by kernel_rfl) (fun w hm _ => tick_last bt A ts.length c ts.length w (hm.blk_at (i := 0) rfl)) ?_)
    refine VC_sound tabOk 100 ?_
    refine ⟨_, wrap_i64 (n := (ts.length : Int) + 1) (by omega) (by omega), ?_⟩
    show Go _ _ _ _
    refine Go_ops rfl (OpTo_mcall (tkR bt A c ts ts.length) [] (List.Perm.of_eq (by simp)) rfl rfl rfl rfl rfl (by kernel_rfl) (fun w hb hm hio hsp k => put_law bt A c ts ts.length n most w _ k h1 (by omega) (by omega) hmx) ?_)
    rintro _ _ ⟨rfl, A', c', ts', last', rfl, hfit, hlen, hlast⟩
    refine Go_res (tkR bt A' c' ts' last') (fun w h => by simpa using h) ?_
    refine VC_sound tabOk 100 ?_
    refine ⟨fun g1 => ?_, fun g1 => ?_⟩
    · have g1 : n ≠ (ts.length : Int) + 1 := by simpa using g1
      have hput : putE ts ts.length n most = 1 := by rw [putE, if_pos g1]
      refine ⟨_, wrap_i64 (n := (ts.length : Int) + 1 + 9) (by omega) (by omega), ?_⟩
      show Go _ _ _ _
      refine Go_ops rfl (OpTo_mcall (tkR bt A' c' ts' last') [] (List.Perm.of_eq (by simp)) rfl rfl rfl rfl rfl (by kernel_rfl) (fun w hb hm hio hsp k => put_far bt A' c' ts' last' ((ts.length : Int) + 1 + 9) w _ k hfit hlen (by omega) (by omega)) ?_)
      rintro _ _ ⟨rfl, rfl⟩
      refine VC_sound tabOk 100 ?_
      refine ⟨fun _ => ?_, fun h => absurd hput (of_decide_eq_false h)⟩
      rfl
    · have g1 : n = (ts.length : Int) + 1 := by simpa using g1
      refine ⟨by decide, _, hK.symm, ?_⟩
      refine ⟨fun g2 => ?_, fun g2 => ?_⟩
      · have g2 : (64 : Int) ≤ i := of_decide_eq_true g2
        have hput : putE ts ts.length n most = 8 := by rw [putE, if_neg (by simpa using g1), if_pos (by omega)]
        refine ⟨_, wrap_i64 (n := (ts.length : Int) + 1 + 9) (by omega) (by omega), ?_⟩
        show Go _ _ _ _
        refine Go_ops rfl (OpTo_mcall (tkR bt A' c' ts' last') [] (List.Perm.of_eq (by simp)) rfl rfl rfl rfl rfl (by kernel_rfl) (fun w hb hm hio hsp k => put_far bt A' c' ts' last' ((ts.length : Int) + 1 + 9) w _ k hfit hlen (by omega) (by omega)) ?_)
        rintro _ _ ⟨rfl, rfl⟩
        refine VC_sound tabOk 100 ?_
        refine ⟨fun _ => ?_, fun h => absurd hput (of_decide_eq_false h)⟩
        rfl
      · have g2 : ¬ (64 : Int) ≤ i := of_decide_eq_false g2
        refine ⟨fun g3 => ?_, fun g3 => ?_⟩
        · have g3 : 1 ≤ most := of_decide_eq_true g3
          have hput : putE ts ts.length n most = 0 := by rw [putE, if_neg (by simpa using g1), if_neg (by omega), if_pos g3]
          refine ⟨_, wrap_i64 (n := (ts.length : Int) + 1 + 9) (by omega) (by omega), ?_⟩
          show Go _ _ _ _
          refine Go_ops rfl (OpTo_mcall (tkR bt A' c' ts' last') [] (List.Perm.of_eq (by simp)) rfl rfl rfl rfl rfl (by kernel_rfl) (fun w hb hm hio hsp k => put_far bt A' c' ts' last' ((ts.length : Int) + 1 + 9) w _ k hfit hlen (by omega) (by omega)) ?_)
          rintro _ _ ⟨rfl, rfl⟩
          refine VC_sound tabOk 100 ?_
          refine ⟨fun _ => ?_, fun h => absurd hput (of_decide_eq_false h)⟩
          rfl
        · have g3 : ¬ 1 ≤ most := of_decide_eq_false g3
          have hput : putE ts ts.length n most = 1 := by rw [putE, if_neg (by simpa using g1), if_neg (by omega), if_neg g3]
          refine ⟨_, wrap_i64 (n := (ts.length : Int) + 1 + 9) (by omega) (by omega), ?_⟩
          show Go _ _ _ _
          refine Go_ops rfl (OpTo_mcall (tkR bt A' c' ts' last') [] (List.Perm.of_eq (by simp)) rfl rfl rfl rfl rfl (by kernel_rfl) (fun w hb hm hio hsp k => put_far bt A' c' ts' last' ((ts.length : Int) + 1 + 9) w _ k hfit hlen (by omega) (by omega)) ?_)
          rintro _ _ ⟨rfl, rfl⟩
          refine VC_sound tabOk 100 ?_
          refine ⟨fun _ => ?_, fun h => absurd hput (of_decide_eq_false h)⟩
          rfl
end Go.Proofs.Ytkhnnaekinoghaa
