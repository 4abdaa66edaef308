/- The laws of layer 11, more: what each run comes to. -/
import Derived.Test.YtkhnnaekinoghaaL11c
set_option autoImplicit false
set_option linter.unusedVariables false
namespace Go.Proofs.Ytkhnnaekinoghaa
open Go.RX Go Go.RowKit


/-- The ticks that the law adds. -/
def TkSeq (ts : List TickM) : Prop := ∀ t ∈ ts, t.mx = t.n ∧ t.op = [] ∧ t.t = t.n - 1
theorem TkSeq.fit {ts : List TickM} (h : TkSeq ts) (hn : Nums ts) (hl : ts.length ≤ 1000) : TkFit ts := fun t ht => by
  obtain ⟨h1, h2, _⟩ := h t ht
  have : t.n ∈ ts.map (·.n) := List.mem_map.2 ⟨t, ht, rfl⟩
  rw [hn] at this
  obtain ⟨i, hi, e⟩ := List.mem_map.1 this
  have := List.mem_range.1 hi
  rw [h1, h2]; simp; omega
theorem Nums.last {ts : List TickM} (h : Nums ts) {l : TickM} (hl : ts.getLast? = some l) : l.n = ts.length := by
  have hne : ts ≠ [] := by intro e; subst e; simp at hl
  have hpos := List.length_pos_iff.2 hne
  have e1 : (ts.map (·.n)).getLast? = some l.n := by rw [List.getLast?_map, hl]; rfl
  rw [h, List.getLast?_map, List.getLast?_range] at e1
  rw [if_neg (by omega)] at e1
  simp at e1
  omega
theorem TkSeq.add {ts : List TickM} (h : TkSeq ts) (hn : Nums ts) (hl : ts.length < 64) : tkAdd ts (1 + (ts.length : Int)) [] ts.length = 0 := by
  simp only [tkAdd]
  rw [if_neg (by omega), if_pos]
  have hr : snRight (1 + (ts.length : Int)) [] = true := by simp [snRight, rightFrom]; omega
  simp only [tkFollows, hr, Bool.true_and]
  cases hg : ts.getLast? with
  | none => rfl
  | some l =>
    obtain ⟨h1, h2, h3⟩ := h l (List.mem_of_getLast? hg)
    have := hn.last hg
    simp [h1, h2, h3, this, snCovers]
    omega
theorem TkSeq.snoc {ts : List TickM} (h : TkSeq ts) (A : Option Addr) (c : Nat) : TkSeq (ts ++ [⟨(ts.length : Int) + 1, 1 + (ts.length : Int), A, c, [], ts.length⟩]) := fun t ht => by
  rcases List.mem_append.1 ht with ht | ht
  · exact h t ht
  · simp at ht; subst ht; simp; omega

theorem find_from (want : Int) (h1 : 1 ≤ want) (p : Int → Bool) : ∀ k : Nat, (∀ n : Int, 1 ≤ n → n ≤ k → (p n = true ↔ want ≤ n)) → (((List.range k).map fun i : Nat => (i : Int) + 1).find? p) = if want ≤ k then some want else none
  | 0, _ => by simp; omega
  | k + 1, hp => by
    have ih := find_from want h1 p k fun n a b => hp n a (by omega)
    rw [List.range_succ, List.map_append, List.find?_append, ih]
    by_cases hk : want ≤ k
    · rw [if_pos hk, if_pos (by omega)]; rfl
    · rw [if_neg hk]
      have := hp ((k : Int) + 1) (by omega) (by omega)
      by_cases hk2 : want ≤ (k : Int) + 1
      · rw [if_pos (by omega)]
        have e : want = (k : Int) + 1 := by omega
        simp [this.2 hk2, e]
      · rw [if_neg (by omega)]
        have : p ((k : Int) + 1) = false := by
          cases h : p ((k : Int) + 1) with
          | false => rfl
          | true => exact absurd (this.1 h) hk2
        simp [this]

/-- What After finds in what a Trim has left. -/
theorem after_find {ts : List TickM} (hn : Nums ts) (hs : TkSeq ts) (below first q : Int) (hf : 1 ≤ first) (hk : ∀ n : Int, 1 ≤ n → n ≤ ts.length → ((n < below ∧ n < ts.length) ↔ n < first)) :
    match (ts.filter fun x => !tkGone below ts.length x).find? (tkAft q) with
    | some x => max first (q + 1) ≤ ts.length ∧ x.n = max first (q + 1) ∧ x.mx = max first (q + 1)
    | none => ¬ max first (q + 1) ≤ ts.length := by
  have e1 : ((ts.filter fun x => !tkGone below ts.length x).find? (tkAft q)).map (·.n) = if max first (q + 1) ≤ ts.length then some (max first (q + 1)) else none := by
    have := find_from (max first (q + 1)) (by omega) (fun n => !(decide (n < below) && decide (n < (ts.length : Int))) && decide (q < n)) ts.length (fun n a b => by
      have := hk n a b
      simp
      omega)
    rw [← this, ← hn, List.find?_filter, List.find?_map]
    congr 2
    funext a
    rw [Bool.eq_iff_iff]
    simp only [tkGone, tkAft, Function.comp, decide_eq_true_eq, Bool.and_eq_true]
  cases hx : (ts.filter fun x => !tkGone below ts.length x).find? (tkAft q) with
  | none =>
    rw [hx] at e1
    intro h
    rw [if_pos h] at e1; cases e1
  | some x =>
    rw [hx] at e1
    have hm := (List.mem_filter.1 (List.mem_of_find?_eq_some hx)).1
    simp only [Option.map_some] at e1
    split at e1
    · rename_i h
      have e2 : x.n = max first (q + 1) := by simpa using e1
      exact ⟨h, e2, by rw [(hs x hm).1, e2]⟩
    · cases e1

theorem add_seq (bt : Nat) (A : Option Addr) (c : Nat) (ts : List TickM) (w0 : World) (hfs : List PH) (hm : Mod hfs (tkR bt A c ts ts.length) w0) (h1 : TkSeq ts) (hn : Nums ts) (hlt : ts.length < 64) :
    Calls Try.prog 12 #[.pointer (some ⟨bt, 0, none⟩), snV (1 + (ts.length : Int)) none 0 0, .int .i64 ts.length] w0 fun e w' => ∃ v Rs', e = .returned v ∧ addOkQ bt ts ts.length (1 + (ts.length : Int)) [] ts.length v Rs' ∧ Mod hfs Rs' w' ∧ Oth w0 w' :=
  (tick_add bt A c ts ts.length (1 + (ts.length : Int)) none 0 [] ts.length w0 hfs hm (fun _ _ _ => .inl rfl) (by simp) (h1.fit hn (by omega)) (by omega) (by omega) (by omega)).mono fun e w' ⟨v, Rs', k1, k2, k3, k4⟩ => by
    rcases k2 with ⟨k, _⟩ | ⟨_, k⟩
    · exact absurd (h1.add hn hlt) k
    · exact ⟨v, Rs', k1, k, k3, k4⟩

def aftQ (us : List TickM) (q : Int) : Value → List Res → Prop := fun v Rs => ∃ y b, v = .tuple #[mkT y, .bool b] ∧ (match us.find? (tkAft q) with
  | some x => b = true ∧ y.n = x.n ∧ y.mx = x.mx
  | none => b = false) ∧ Rs = []
theorem after_law (bt : Nat) (A : Option Addr) (c : Nat) (us : List TickM) (last q : Int) (w0 : World) (hb : w0.heap[bt]? = some (.cells #[.slice A us.length c, .int .i64 last] 57 (0, 0))) (hA : RdW w0 A (us.flatMap encT)) (hB : ∀ t ∈ us, RdI w0 t.A t.op) (hn : us.length ≤ 1000000) (hf : TkFit us) :
    Calls Try.prog 19 #[.pointer (some ⟨bt, 0, none⟩), .int .i64 q] w0 fun e w' => ∃ v Rs', e = .returned v ∧ aftQ us q v Rs' ∧ Mod [heapOf w0] Rs' w' ∧ Oth w0 w' :=
  (tick_after bt A c us last q w0 hb hA hB hn hf).mono fun e w' ⟨v, Rs', k1, k2, k3, k4⟩ => by
    rcases k2 with ⟨g, rfl, rfl⟩ | ⟨x, A1, c1, g, rfl, rfl⟩
    · exact ⟨_, [], k1, ⟨zeroT, false, rfl, by rw [g], rfl⟩, k3, k4⟩
    · exact ⟨_, [], k1, ⟨⟨x.n, x.mx, A1, c1, x.op, x.t⟩, true, rfl, by rw [g]; exact ⟨rfl, rfl, rfl⟩, rfl⟩, k3.sel [] rfl, k4⟩

set_option maxHeartbeats 4000000 in
theorem l11_TickAfter (n low q : Int) (w0 : World) (hn0 : 0 ≤ n ∧ n ≤ 255) (hl0 : 0 ≤ low ∧ low ≤ 255) (hq : -9223372036854775808 ≤ q ∧ q ≤ 9223372036854775807) :
    Calls Try.prog 6 #[.int .u8 n, .int .u8 low, .int .i64 q] w0 fun e w' => e = .returned (.bool true) ∧ BelowD w0.heap.size w0 w' := by
  obtain ⟨K, hK, hK20⟩ : ∃ K : Nat, n.tmod 20 = K ∧ K < 20 := by
    have h1 := Int.tmod_nonneg 20 hn0.1
    have h2 := Int.tmod_lt_of_pos n (b := 20) (by decide)
    exact ⟨(n.tmod 20).toNat, by omega, by omega⟩
  obtain ⟨L, hL, hL25⟩ : ∃ L : Nat, low.tmod 25 = L ∧ L < 25 := by
    have h1 := Int.tmod_nonneg 25 hl0.1
    have h2 := Int.tmod_lt_of_pos low (b := 25) (by decide)
    exact ⟨(low.tmod 25).toNat, by omega, by omega⟩
  refine enterP (tab := tab) Try.func6 rfl Try.ntmps6 rfl (args := [_, _, _]) rfl ?_
  refine VC_sound tabOk 100 ?_
  refine Go_ops rfl (OpTo_pcall (v := .bool true) rfl rfl rfl rfl rfl (by kernel_rfl) (fun w hm _ => l11_trims w) ?_)
  refine VC_sound tabOk 100 ?_
  refine ⟨fun h => by simp at h, fun _ => ?_⟩
  show Go _ _ _ _
  refine Go_ops rfl (OpTo_ncall rfl rfl rfl rfl rfl (by kernel_rfl) (fun w hm _ => tick_new2 w) ?_)
  rintro _ _ ⟨bt, rfl, rfl⟩
  refine VC_sound tabOk 100 ?_
  refine ⟨by decide, _, hK.symm, ?_⟩
  refine ⟨_, wrap_i64 (n := (K : Int)) (by omega) (by omega), ?_⟩
  refine ⟨_, wrap_i64 (n := 1 + (K : Int)) (by omega) (by omega), ?_⟩
  refine Go_loop (σ := Option Addr × Nat × List TickM) (fun s => [(0, .v (.int .u8 n)), (1, .v (.int .u8 low)), (2, .v (.int .i64 q)), (7, .v (.pointer (some ⟨bt, 0, none⟩))), (8, .v (.int .i64 (1 + (K : Int)))), (9, .v (.int .i64 s.2.2.length))]) (fun s => tkR bt s.1 s.2.1 s.2.2 s.2.2.length)
    (fun s => s.2.2.length ≤ K + 1 ∧ TkSeq s.2.2 ∧ Nums s.2.2) (fun s => K + 1 - s.2.2.length) (none, 0, []) ⟨by simp, fun _ h => by simp at h, Nums.nil⟩ ⟨rfl, rfl, rfl, rfl, rfl, rfl, trivial⟩ (fun _ h => h) ?_
  rintro ⟨A, c, ts⟩ ⟨hl, h1, hnum⟩
  dsimp only at hl h1 hnum ⊢
  refine VC_sound tabOk 100 ?_
  refine ⟨fun hb => ?_, fun hb => ?_⟩
  · have hlt : ts.length < K + 1 := by simp at hb; omega
    refine ⟨_, wrap_i64 (n := 1 + (ts.length : Int)) (by omega) (by omega), ?_⟩
    show Go _ _ _ _
    refine Go_ops rfl (OpTo_mcall (tkR bt A c ts ts.length) [] (List.Perm.of_eq (by simp)) rfl rfl rfl rfl rfl (by kernel_rfl) (fun w hb hm hio hsp k => add_seq bt A c ts w _ k h1 hnum (by omega)) ?_)
    rintro _ _ ⟨A1, c1, A2, c2, A3, c3, rfl, rfl⟩
    refine VC_sound tabOk 100 ?_
    refine ⟨_, wrap_i64 (n := (ts.length : Int) + 1) (by omega) (by omega), ?_⟩
    have e : (((ts ++ [(⟨(ts.length : Int) + 1, 1 + (ts.length : Int), A1, c1, [], ts.length⟩ : TickM)]).length : Nat) : Int) = (ts.length : Int) + 1 := by simp
    refine Go_fin (A2, c2, ts ++ [⟨(ts.length : Int) + 1, 1 + (ts.length : Int), A1, c1, [], ts.length⟩]) ⟨by simp; omega, h1.snoc A1 c1, hnum.snoc _ rfl⟩ (by simp; omega) ⟨rfl, rfl, rfl, rfl, rfl, ?_, trivial⟩ (fun _ h => ?_)
    · exact congrArg (Value.int .i64) e.symm
    · have h := h.sel [0, 1, 2] rfl
      dsimp only
      rw [e]
      exact h
  · have hlen : ts.length = K + 1 := by simp at hb; omega
    refine ⟨by decide, _, hL.symm, ?_⟩
    refine ⟨_, wrap_i64 (n := (L : Int)) (by omega) (by omega), ?_⟩
    show Go _ _ _ _
    refine Go_ops rfl (OpTo_mcall (tkR bt A c ts ts.length) [] (List.Perm.of_eq (by simp)) rfl rfl rfl rfl rfl (by kernel_rfl) (fun w hb hm hio hsp k => tick_trim bt A c ts ts.length L w _ k (by omega)) ?_)
    rintro _ _ ⟨rfl, rfl⟩
    have hfit : TkFit (ts.filter fun x => !tkGone L ts.length x) := fun t ht => (h1.fit hnum (by omega)) t (List.mem_filter.1 ht).1
    have hle := List.length_filter_le (fun x => !tkGone L ts.length x) ts
    have hAf := fun q first => after_find hnum h1 L first q
    refine Go_res (tkR bt A c (ts.filter fun x => !tkGone L ts.length x) ts.length) (fun w h => by simpa using h) ?_
    refine VC_sound tabOk 100 ?_
    show Go _ _ _ _
    refine Go_ops rfl (OpTo_ncall rfl rfl rfl rfl rfl (by kernel_rfl) (fun w hm _ => after_law bt A c (ts.filter fun x => !tkGone L ts.length x) ts.length q w (hm.blk_at (i := 0) rfl) (hm.own_rd (i := 1) rfl) (fun t ht => hm.ro_rd (i := 2) rfl (List.mem_map.2 ⟨t, ht, rfl⟩)) (by omega) hfit) ?_)
    rintro _ _ ⟨y1, b1, rfl, hy1, rfl⟩
    refine VC_sound tabOk 100 ?_
    intro b10 _
    (repeat (first | refine Or.inl ⟨rfl, rfl, ?_⟩ | refine Or.inl ⟨rfl, ?_⟩ | refine Or.inr ?_))
    refine ⟨by decide, _, rfl, ?_⟩
    show Go _ _ _ _
    refine Go_ops rfl (OpTo_ncall rfl rfl rfl rfl rfl (by kernel_rfl) (fun w hm _ => after_law bt A c (ts.filter fun x => !tkGone L ts.length x) ts.length (q.tmod 25) w (hm.blk_at (i := 1) rfl) (hm.own_rd (i := 2) rfl) (fun t ht => hm.ro_rd (i := 3) rfl (List.mem_map.2 ⟨t, ht, rfl⟩)) (by omega) hfit) ?_)
    rintro _ _ ⟨y2, b2, rfl, hy2, rfl⟩
    have hA1 : ∀ first : Int, 1 ≤ first → (∀ z : Int, 1 ≤ z → z ≤ ts.length → ((z < L ∧ z < ts.length) ↔ z < first)) → b1 = decide (max first (q + 1) ≤ ts.length) ∧ (b1 = true → y1.n = max first (q + 1)) := fun first h1 h2 => by
      have := hAf q first h1 h2
      split at hy1
      · rename_i x hx; rw [hx] at this; obtain ⟨g1, g2, g3⟩ := hy1; subst g1
        exact ⟨(decide_eq_true this.1).symm, fun _ => by rw [g2, this.2.1]⟩
      · rename_i hx; rw [hx] at this; subst hy1
        exact ⟨(decide_eq_false this).symm, fun h => nomatch h⟩
    have hA2 : ∀ first : Int, 1 ≤ first → (∀ z : Int, 1 ≤ z → z ≤ ts.length → ((z < L ∧ z < ts.length) ↔ z < first)) → b2 = decide (max first (q.tmod 25 + 1) ≤ ts.length) ∧ (b2 = true → y2.n = max first (q.tmod 25 + 1) ∧ y2.mx = max first (q.tmod 25 + 1)) := fun first h1 h2 => by
      have := hAf (q.tmod 25) first h1 h2
      split at hy2
      · rename_i x hx; rw [hx] at this; obtain ⟨g1, g2, g3⟩ := hy2; subst g1
        exact ⟨(decide_eq_true this.1).symm, fun _ => ⟨by rw [g2, this.2.1], by rw [g3, this.2.2]⟩⟩
      · rename_i hx; rw [hx] at this; subst hy2
        exact ⟨(decide_eq_false this).symm, fun h => nomatch h⟩
    have hq2 : -25 < q.tmod 25 ∧ q.tmod 25 < 25 := ⟨Int.lt_tmod_of_pos q (by decide), Int.tmod_lt_of_pos q (by decide)⟩
    refine VC_sound tabOk 100 ?_
    intro b12 _
    (repeat (first | refine Or.inl ⟨rfl, rfl, ?_⟩ | refine Or.inl ⟨rfl, ?_⟩ | refine Or.inr ?_))
    refine ⟨by decide, _, hL.symm, ?_⟩
    refine ⟨_, wrap_i64 (n := (L : Int)) (by omega) (by omega), ?_⟩
    refine ⟨fun g2 => ?_, fun g2 => ?_⟩
    · have g2 : 1 + (K : Int) < L := of_decide_eq_true g2
      refine ⟨fun g3 => ?_, fun g3 => ?_⟩
      · have g3 : 1 + (K : Int) < 1 := of_decide_eq_true g3
        omega
      refine ⟨by decide, _, rfl, ?_⟩
      refine ⟨_, wrap_i64 (n := q.tmod 25 + 1) (by omega) (by omega), ?_⟩
      refine ⟨fun g4 => ?_, fun g4 => ?_⟩
      · have g4 : q.tmod 25 + 1 < 1 + (K : Int) := of_decide_eq_true g4
        have hcl : ∀ z : Int, 1 ≤ z → z ≤ ts.length → ((z < L ∧ z < ts.length) ↔ z < 1 + (K : Int)) := fun z a b => by omega
        obtain ⟨b1e, b1v⟩ := hA1 (1 + (K : Int)) (by omega) hcl
        obtain ⟨b2e, b2v⟩ := hA2 (1 + (K : Int)) (by omega) hcl
        have e1 : b1 = decide (q < 1 + (K : Int)) := by rw [b1e]; exact decide_eq_decide.2 (by omega)
        have e2 : b2 = decide (1 + (K : Int) ≤ 1 + (K : Int)) := by rw [b2e]; exact decide_eq_decide.2 (by omega)
        refine ⟨fun _ => ?_, fun h => by rw [e1] at h; simp at h⟩
        have rest : ∀ h : b2 = true, y2.n = 1 + (K : Int) ∧ y2.mx = 1 + (K : Int) := fun h => by have := b2v h; omega
        cases b1
        · refine ⟨fun _ => ?_, fun h => by simp at h⟩
          refine ⟨fun _ => ?_, fun h => by rw [e2] at h; simp at h⟩
          cases b2
          · refine ⟨fun _ => ?_, fun h => by simp at h⟩
            rfl
          · refine ⟨fun h => by simp at h, fun _ => ?_⟩
            (repeat (first | refine Or.inl ⟨rfl, rfl, ?_⟩ | refine Or.inl ⟨rfl, ?_⟩ | refine Or.inr ?_))
            refine ⟨fun _ => ?_, fun h => absurd (rest rfl).1 (of_decide_eq_false h)⟩
            (repeat (first | refine Or.inl ⟨rfl, rfl, ?_⟩ | refine Or.inl ⟨rfl, ?_⟩ | refine Or.inr ?_))
            exact congrArg Value.bool (decide_eq_true (rest rfl).2)
        · refine ⟨fun h => by simp at h, fun _ => ?_⟩
          (repeat (first | refine Or.inl ⟨rfl, rfl, ?_⟩ | refine Or.inl ⟨rfl, ?_⟩ | refine Or.inr ?_))
          refine ⟨fun _ => ?_, fun h => absurd (show q < y1.n by have := b1v rfl; omega) (of_decide_eq_false h)⟩
          refine ⟨fun _ => ?_, fun h => by rw [e2] at h; simp at h⟩
          cases b2
          · refine ⟨fun _ => ?_, fun h => by simp at h⟩
            rfl
          · refine ⟨fun h => by simp at h, fun _ => ?_⟩
            (repeat (first | refine Or.inl ⟨rfl, rfl, ?_⟩ | refine Or.inl ⟨rfl, ?_⟩ | refine Or.inr ?_))
            refine ⟨fun _ => ?_, fun h => absurd (rest rfl).1 (of_decide_eq_false h)⟩
            (repeat (first | refine Or.inl ⟨rfl, rfl, ?_⟩ | refine Or.inl ⟨rfl, ?_⟩ | refine Or.inr ?_))
            exact congrArg Value.bool (decide_eq_true (rest rfl).2)
      · have g4 : ¬ q.tmod 25 + 1 < 1 + (K : Int) := of_decide_eq_false g4
        have hcl : ∀ z : Int, 1 ≤ z → z ≤ ts.length → ((z < L ∧ z < ts.length) ↔ z < 1 + (K : Int)) := fun z a b => by omega
        obtain ⟨b1e, b1v⟩ := hA1 (1 + (K : Int)) (by omega) hcl
        obtain ⟨b2e, b2v⟩ := hA2 (1 + (K : Int)) (by omega) hcl
        have e1 : b1 = decide (q < 1 + (K : Int)) := by rw [b1e]; exact decide_eq_decide.2 (by omega)
        have e2 : b2 = decide ((q.tmod 25 + 1) ≤ 1 + (K : Int)) := by rw [b2e]; exact decide_eq_decide.2 (by omega)
        refine ⟨fun _ => ?_, fun h => by rw [e1] at h; simp at h⟩
        have rest : ∀ h : b2 = true, y2.n = (q.tmod 25 + 1) ∧ y2.mx = (q.tmod 25 + 1) := fun h => by have := b2v h; omega
        cases b1
        · refine ⟨fun _ => ?_, fun h => by simp at h⟩
          refine ⟨fun _ => ?_, fun h => by rw [e2] at h; simp at h⟩
          cases b2
          · refine ⟨fun _ => ?_, fun h => by simp at h⟩
            rfl
          · refine ⟨fun h => by simp at h, fun _ => ?_⟩
            (repeat (first | refine Or.inl ⟨rfl, rfl, ?_⟩ | refine Or.inl ⟨rfl, ?_⟩ | refine Or.inr ?_))
            refine ⟨fun _ => ?_, fun h => absurd (rest rfl).1 (of_decide_eq_false h)⟩
            (repeat (first | refine Or.inl ⟨rfl, rfl, ?_⟩ | refine Or.inl ⟨rfl, ?_⟩ | refine Or.inr ?_))
            exact congrArg Value.bool (decide_eq_true (rest rfl).2)
        · refine ⟨fun h => by simp at h, fun _ => ?_⟩
          (repeat (first | refine Or.inl ⟨rfl, rfl, ?_⟩ | refine Or.inl ⟨rfl, ?_⟩ | refine Or.inr ?_))
          refine ⟨fun _ => ?_, fun h => absurd (show q < y1.n by have := b1v rfl; omega) (of_decide_eq_false h)⟩
          refine ⟨fun _ => ?_, fun h => by rw [e2] at h; simp at h⟩
          cases b2
          · refine ⟨fun _ => ?_, fun h => by simp at h⟩
            rfl
          · refine ⟨fun h => by simp at h, fun _ => ?_⟩
            (repeat (first | refine Or.inl ⟨rfl, rfl, ?_⟩ | refine Or.inl ⟨rfl, ?_⟩ | refine Or.inr ?_))
            refine ⟨fun _ => ?_, fun h => absurd (rest rfl).1 (of_decide_eq_false h)⟩
            (repeat (first | refine Or.inl ⟨rfl, rfl, ?_⟩ | refine Or.inl ⟨rfl, ?_⟩ | refine Or.inr ?_))
            exact congrArg Value.bool (decide_eq_true (rest rfl).2)
    · have g2 : ¬ 1 + (K : Int) < L := of_decide_eq_false g2
      refine ⟨fun g3 => ?_, fun g3 => ?_⟩
      · have g3 : (L : Int) < 1 := of_decide_eq_true g3
        refine ⟨by decide, _, rfl, ?_⟩
        refine ⟨_, wrap_i64 (n := q.tmod 25 + 1) (by omega) (by omega), ?_⟩
        refine ⟨fun g4 => ?_, fun g4 => ?_⟩
        · have g4 : q.tmod 25 + 1 < 1 := of_decide_eq_true g4
          have hcl : ∀ z : Int, 1 ≤ z → z ≤ ts.length → ((z < L ∧ z < ts.length) ↔ z < 1) := fun z a b => by omega
          obtain ⟨b1e, b1v⟩ := hA1 (1) (by omega) hcl
          obtain ⟨b2e, b2v⟩ := hA2 (1) (by omega) hcl
          have e1 : b1 = decide (q < 1 + (K : Int)) := by rw [b1e]; exact decide_eq_decide.2 (by omega)
          have e2 : b2 = decide (1 ≤ 1 + (K : Int)) := by rw [b2e]; exact decide_eq_decide.2 (by omega)
          refine ⟨fun _ => ?_, fun h => by rw [e1] at h; simp at h⟩
          have rest : ∀ h : b2 = true, y2.n = 1 ∧ y2.mx = 1 := fun h => by have := b2v h; omega
          cases b1
          · refine ⟨fun _ => ?_, fun h => by simp at h⟩
            refine ⟨fun _ => ?_, fun h => by rw [e2] at h; simp at h⟩
            cases b2
            · refine ⟨fun _ => ?_, fun h => by simp at h⟩
              rfl
            · refine ⟨fun h => by simp at h, fun _ => ?_⟩
              (repeat (first | refine Or.inl ⟨rfl, rfl, ?_⟩ | refine Or.inl ⟨rfl, ?_⟩ | refine Or.inr ?_))
              refine ⟨fun _ => ?_, fun h => absurd (rest rfl).1 (of_decide_eq_false h)⟩
              (repeat (first | refine Or.inl ⟨rfl, rfl, ?_⟩ | refine Or.inl ⟨rfl, ?_⟩ | refine Or.inr ?_))
              exact congrArg Value.bool (decide_eq_true (rest rfl).2)
          · refine ⟨fun h => by simp at h, fun _ => ?_⟩
            (repeat (first | refine Or.inl ⟨rfl, rfl, ?_⟩ | refine Or.inl ⟨rfl, ?_⟩ | refine Or.inr ?_))
            refine ⟨fun _ => ?_, fun h => absurd (show q < y1.n by have := b1v rfl; omega) (of_decide_eq_false h)⟩
            refine ⟨fun _ => ?_, fun h => by rw [e2] at h; simp at h⟩
            cases b2
            · refine ⟨fun _ => ?_, fun h => by simp at h⟩
              rfl
            · refine ⟨fun h => by simp at h, fun _ => ?_⟩
              (repeat (first | refine Or.inl ⟨rfl, rfl, ?_⟩ | refine Or.inl ⟨rfl, ?_⟩ | refine Or.inr ?_))
              refine ⟨fun _ => ?_, fun h => absurd (rest rfl).1 (of_decide_eq_false h)⟩
              (repeat (first | refine Or.inl ⟨rfl, rfl, ?_⟩ | refine Or.inl ⟨rfl, ?_⟩ | refine Or.inr ?_))
              exact congrArg Value.bool (decide_eq_true (rest rfl).2)
        · have g4 : ¬ q.tmod 25 + 1 < 1 := of_decide_eq_false g4
          have hcl : ∀ z : Int, 1 ≤ z → z ≤ ts.length → ((z < L ∧ z < ts.length) ↔ z < 1) := fun z a b => by omega
          obtain ⟨b1e, b1v⟩ := hA1 (1) (by omega) hcl
          obtain ⟨b2e, b2v⟩ := hA2 (1) (by omega) hcl
          have e1 : b1 = decide (q < 1 + (K : Int)) := by rw [b1e]; exact decide_eq_decide.2 (by omega)
          have e2 : b2 = decide ((q.tmod 25 + 1) ≤ 1 + (K : Int)) := by rw [b2e]; exact decide_eq_decide.2 (by omega)
          refine ⟨fun _ => ?_, fun h => by rw [e1] at h; simp at h⟩
          have rest : ∀ h : b2 = true, y2.n = (q.tmod 25 + 1) ∧ y2.mx = (q.tmod 25 + 1) := fun h => by have := b2v h; omega
          cases b1
          · refine ⟨fun _ => ?_, fun h => by simp at h⟩
            refine ⟨fun _ => ?_, fun h => by rw [e2] at h; simp at h⟩
            cases b2
            · refine ⟨fun _ => ?_, fun h => by simp at h⟩
              rfl
            · refine ⟨fun h => by simp at h, fun _ => ?_⟩
              (repeat (first | refine Or.inl ⟨rfl, rfl, ?_⟩ | refine Or.inl ⟨rfl, ?_⟩ | refine Or.inr ?_))
              refine ⟨fun _ => ?_, fun h => absurd (rest rfl).1 (of_decide_eq_false h)⟩
              (repeat (first | refine Or.inl ⟨rfl, rfl, ?_⟩ | refine Or.inl ⟨rfl, ?_⟩ | refine Or.inr ?_))
              exact congrArg Value.bool (decide_eq_true (rest rfl).2)
          · refine ⟨fun h => by simp at h, fun _ => ?_⟩
            (repeat (first | refine Or.inl ⟨rfl, rfl, ?_⟩ | refine Or.inl ⟨rfl, ?_⟩ | refine Or.inr ?_))
            refine ⟨fun _ => ?_, fun h => absurd (show q < y1.n by have := b1v rfl; omega) (of_decide_eq_false h)⟩
            refine ⟨fun _ => ?_, fun h => by rw [e2] at h; simp at h⟩
            cases b2
            · refine ⟨fun _ => ?_, fun h => by simp at h⟩
              rfl
            · refine ⟨fun h => by simp at h, fun _ => ?_⟩
              (repeat (first | refine Or.inl ⟨rfl, rfl, ?_⟩ | refine Or.inl ⟨rfl, ?_⟩ | refine Or.inr ?_))
              refine ⟨fun _ => ?_, fun h => absurd (rest rfl).1 (of_decide_eq_false h)⟩
              (repeat (first | refine Or.inl ⟨rfl, rfl, ?_⟩ | refine Or.inl ⟨rfl, ?_⟩ | refine Or.inr ?_))
              exact congrArg Value.bool (decide_eq_true (rest rfl).2)
      · have g3 : ¬ (L : Int) < 1 := of_decide_eq_false g3
        refine ⟨by decide, _, rfl, ?_⟩
        refine ⟨_, wrap_i64 (n := q.tmod 25 + 1) (by omega) (by omega), ?_⟩
        refine ⟨fun g4 => ?_, fun g4 => ?_⟩
        · have g4 : q.tmod 25 + 1 < (L : Int) := of_decide_eq_true g4
          have hcl : ∀ z : Int, 1 ≤ z → z ≤ ts.length → ((z < L ∧ z < ts.length) ↔ z < (L : Int)) := fun z a b => by omega
          obtain ⟨b1e, b1v⟩ := hA1 ((L : Int)) (by omega) hcl
          obtain ⟨b2e, b2v⟩ := hA2 ((L : Int)) (by omega) hcl
          have e1 : b1 = decide (q < 1 + (K : Int)) := by rw [b1e]; exact decide_eq_decide.2 (by omega)
          have e2 : b2 = decide ((L : Int) ≤ 1 + (K : Int)) := by rw [b2e]; exact decide_eq_decide.2 (by omega)
          refine ⟨fun _ => ?_, fun h => by rw [e1] at h; simp at h⟩
          have rest : ∀ h : b2 = true, y2.n = (L : Int) ∧ y2.mx = (L : Int) := fun h => by have := b2v h; omega
          cases b1
          · refine ⟨fun _ => ?_, fun h => by simp at h⟩
            refine ⟨fun _ => ?_, fun h => by rw [e2] at h; simp at h⟩
            cases b2
            · refine ⟨fun _ => ?_, fun h => by simp at h⟩
              rfl
            · refine ⟨fun h => by simp at h, fun _ => ?_⟩
              (repeat (first | refine Or.inl ⟨rfl, rfl, ?_⟩ | refine Or.inl ⟨rfl, ?_⟩ | refine Or.inr ?_))
              refine ⟨fun _ => ?_, fun h => absurd (rest rfl).1 (of_decide_eq_false h)⟩
              (repeat (first | refine Or.inl ⟨rfl, rfl, ?_⟩ | refine Or.inl ⟨rfl, ?_⟩ | refine Or.inr ?_))
              exact congrArg Value.bool (decide_eq_true (rest rfl).2)
          · refine ⟨fun h => by simp at h, fun _ => ?_⟩
            (repeat (first | refine Or.inl ⟨rfl, rfl, ?_⟩ | refine Or.inl ⟨rfl, ?_⟩ | refine Or.inr ?_))
            refine ⟨fun _ => ?_, fun h => absurd (show q < y1.n by have := b1v rfl; omega) (of_decide_eq_false h)⟩
            refine ⟨fun _ => ?_, fun h => by rw [e2] at h; simp at h⟩
            cases b2
            · refine ⟨fun _ => ?_, fun h => by simp at h⟩
              rfl
            · refine ⟨fun h => by simp at h, fun _ => ?_⟩
              (repeat (first | refine Or.inl ⟨rfl, rfl, ?_⟩ | refine Or.inl ⟨rfl, ?_⟩ | refine Or.inr ?_))
              refine ⟨fun _ => ?_, fun h => absurd (rest rfl).1 (of_decide_eq_false h)⟩
              (repeat (first | refine Or.inl ⟨rfl, rfl, ?_⟩ | refine Or.inl ⟨rfl, ?_⟩ | refine Or.inr ?_))
              exact congrArg Value.bool (decide_eq_true (rest rfl).2)
        · have g4 : ¬ q.tmod 25 + 1 < (L : Int) := of_decide_eq_false g4
          have hcl : ∀ z : Int, 1 ≤ z → z ≤ ts.length → ((z < L ∧ z < ts.length) ↔ z < (L : Int)) := fun z a b => by omega
          obtain ⟨b1e, b1v⟩ := hA1 ((L : Int)) (by omega) hcl
          obtain ⟨b2e, b2v⟩ := hA2 ((L : Int)) (by omega) hcl
          have e1 : b1 = decide (q < 1 + (K : Int)) := by rw [b1e]; exact decide_eq_decide.2 (by omega)
          have e2 : b2 = decide ((q.tmod 25 + 1) ≤ 1 + (K : Int)) := by rw [b2e]; exact decide_eq_decide.2 (by omega)
          refine ⟨fun _ => ?_, fun h => by rw [e1] at h; simp at h⟩
          have rest : ∀ h : b2 = true, y2.n = (q.tmod 25 + 1) ∧ y2.mx = (q.tmod 25 + 1) := fun h => by have := b2v h; omega
          cases b1
          · refine ⟨fun _ => ?_, fun h => by simp at h⟩
            refine ⟨fun _ => ?_, fun h => by rw [e2] at h; simp at h⟩
            cases b2
            · refine ⟨fun _ => ?_, fun h => by simp at h⟩
              rfl
            · refine ⟨fun h => by simp at h, fun _ => ?_⟩
              (repeat (first | refine Or.inl ⟨rfl, rfl, ?_⟩ | refine Or.inl ⟨rfl, ?_⟩ | refine Or.inr ?_))
              refine ⟨fun _ => ?_, fun h => absurd (rest rfl).1 (of_decide_eq_false h)⟩
              (repeat (first | refine Or.inl ⟨rfl, rfl, ?_⟩ | refine Or.inl ⟨rfl, ?_⟩ | refine Or.inr ?_))
              exact congrArg Value.bool (decide_eq_true (rest rfl).2)
          · refine ⟨fun h => by simp at h, fun _ => ?_⟩
            (repeat (first | refine Or.inl ⟨rfl, rfl, ?_⟩ | refine Or.inl ⟨rfl, ?_⟩ | refine Or.inr ?_))
            refine ⟨fun _ => ?_, fun h => absurd (show q < y1.n by have := b1v rfl; omega) (of_decide_eq_false h)⟩
            refine ⟨fun _ => ?_, fun h => by rw [e2] at h; simp at h⟩
            cases b2
            · refine ⟨fun _ => ?_, fun h => by simp at h⟩
              rfl
            · refine ⟨fun h => by simp at h, fun _ => ?_⟩
              (repeat (first | refine Or.inl ⟨rfl, rfl, ?_⟩ | refine Or.inl ⟨rfl, ?_⟩ | refine Or.inr ?_))
              refine ⟨fun _ => ?_, fun h => absurd (rest rfl).1 (of_decide_eq_false h)⟩
              (repeat (first | refine Or.inl ⟨rfl, rfl, ?_⟩ | refine Or.inl ⟨rfl, ?_⟩ | refine Or.inr ?_))
              exact congrArg Value.bool (decide_eq_true (rest rfl).2)
end Go.Proofs.Ytkhnnaekinoghaa
