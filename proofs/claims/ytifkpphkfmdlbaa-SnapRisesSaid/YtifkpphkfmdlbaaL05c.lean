/- The laws of layer 5, the last ones: what each run comes to. -/
import Derived.Test.YtifkpphkfmdlbaaL05b
set_option autoImplicit false
set_option linter.unusedVariables false
namespace Go.Proofs.Ytifkpphkfmdlbaa
open Go.RX Go Go.RowKit


theorem ofUpto_nil : ∀ n, ofUpto [] n = []
  | 0 => rfl
  | n + 1 => by simp [ofUpto, ofUpto_nil n]

set_option maxHeartbeats 1000000 in
theorem l05_wide_run (mx : Int) (m n : Int) (A : Option Addr) (c : Nat) (op : List Int) (w0 : World) (hA : RdW w0 A (op.flatMap (encI .u8))) (hx : -9223372036854775808 ≤ mx ∧ mx ≤ 9223372036854775807) (hm0 : 0 ≤ m ∧ m ≤ 255) (hn0 : 0 ≤ n ∧ n ≤ 255) (hr : ∀ z ∈ op, 0 ≤ z ∧ z ≤ 255) :
    Calls Try.prog 7 #[.int .i64 mx, .slice A op.length c, .int .u8 m, .int .u8 n] w0 fun e w' => e = .returned (.bool true) ∧ Below w0.heap.size w0 w' := by
  refine enterP (tab := tab) Try.func7 rfl Try.ntmps7 rfl (args := [_, _, _, _]) rfl ?_
  refine VC_sound tabOk 100 ?_
  refine ⟨fun h1 => ?_, fun h1 => ?_⟩
  · refine Go_ops rfl (OpTo_pcall (v := .bool true) rfl rfl rfl rfl rfl (by kernel_rfl) (fun w hm _ => l05_five w) ?_)
    refine VC_sound tabOk 100 ?_
    rfl
  · have hn : op.length ≤ 10 := by simp at h1; omega
    obtain ⟨K, hK, hK40⟩ := kOf m hm0
    obtain ⟨J, hJ, hJ40⟩ := kOf n hn0
    have hlen := ofUpto_len op K
    have ha := snOk_of op K
    refine Go_ops rfl (OpTo_ncall rfl rfl rfl rfl rfl (by kernel_rfl) (fun w hm _ => r05_of m A c op w (hA.mod hm) (by omega) K hm0 hK hr) ?_)
    rintro _ _ ⟨A1, c1, rfl, rfl⟩
    refine VC_sound tabOk 100 ?_
    refine Go_ops rfl (OpTo_ncall rfl rfl rfl rfl rfl (by kernel_rfl) (fun w hm _ => r05_of n none 0 [] w (.inl rfl) (by simp) J hn0 hJ (by simp)) ?_)
    rintro _ _ ⟨A2, c2, rfl, rfl⟩
    refine VC_sound tabOk 100 ?_
    intro b1 _ b2 _
    (repeat (first | refine Or.inl ⟨rfl, rfl, ?_⟩ | refine Or.inl ⟨rfl, ?_⟩ | refine Or.inr ?_))
    rw [ofUpto_nil]
    have key : ∀ y : Int, 100 ≤ y → y ≤ 9223372036854775807 → SnOk y [] ∧ snCovers y [] (1 + (K : Int)) (ofUpto op K) = true ∧ snCovers (1 + (K : Int)) (ofUpto op K) y [] = false := by
      intro y h1 h2
      have hy : SnOk y [] := ⟨by omega, by simp, by simp⟩
      refine ⟨hy, (snCovers_iff hy ha).2 fun x hx => ?_, ?_⟩
      · have := snSees_iff.1 hx
        exact snSees_iff.2 ⟨this.1, by omega, by simp⟩
      · rw [Bool.eq_false_iff]
        intro h
        have := (snCovers_iff ha hy).1 h 99 (snSees_iff.2 ⟨by omega, by omega, by simp⟩)
        have := (snSees_iff.1 this).2.1
        omega
    refine ⟨fun h3 => ?_, fun h3 => ?_⟩
    · skip
      (repeat (first | refine Or.inl ⟨rfl, rfl, ?_⟩ | refine Or.inl ⟨rfl, ?_⟩ | refine Or.inr ?_))
      obtain ⟨hy, k1, k2⟩ := key (100) (by omega) (by omega)
      refine Go_ops rfl (OpTo_pcall (v := .bool true) rfl rfl rfl rfl rfl (by kernel_rfl) (fun w hm _ => l05_five w) ?_)
      refine VC_sound tabOk 100 ?_
      refine ⟨fun _ => ?_, fun h => by simp at h⟩
      (repeat (first | refine Or.inl ⟨rfl, rfl, ?_⟩ | refine Or.inl ⟨rfl, ?_⟩ | refine Or.inr ?_))
      refine Go_ops rfl (OpTo_pcall (v := .bool true) rfl rfl rfl rfl rfl (by kernel_rfl) (fun w hm _ => k1 ▸ snap_covers (100) (1 + (K : Int)) A2 A1 c2 c1 [] (ofUpto op K) w (.inl rfl) (hm.own_rd (i := 3) rfl) (by simp) (by omega) (by omega) (by omega)) ?_)
      refine VC_sound tabOk 100 ?_
      refine ⟨fun _ => ?_, fun h => by simp at h⟩
      (repeat (first | refine Or.inl ⟨rfl, rfl, ?_⟩ | refine Or.inl ⟨rfl, ?_⟩ | refine Or.inr ?_))
      refine Go_ops rfl (OpTo_pcall (v := .bool false) rfl rfl rfl rfl rfl (by kernel_rfl) (fun w hm _ => k2 ▸ snap_covers (1 + (K : Int)) (100) A1 A2 c1 c2 (ofUpto op K) [] w (hm.own_rd (i := 3) rfl) (.inl rfl) (by omega) (by simp) (by omega) (by omega)) ?_)
      refine VC_sound tabOk 100 ?_
      refine ⟨fun _ => ?_, fun h => by simp at h⟩
      (repeat (first | refine Or.inl ⟨rfl, rfl, ?_⟩ | refine Or.inl ⟨rfl, ?_⟩ | refine Or.inr ?_))
      refine Go_ops rfl (OpTo_pcall (v := .int .i64 (100)) rfl rfl rfl rfl rfl (by kernel_rfl) (fun w hm _ => snap_least (100) A2 c2 [] w (.inl rfl)) ?_)
      refine VC_sound tabOk 100 ?_
      exact congrArg Value.bool (by simp)
    · have h3 : ¬ mx < 100 := by simpa using h3
      (repeat (first | refine Or.inl ⟨rfl, rfl, ?_⟩ | refine Or.inl ⟨rfl, ?_⟩ | refine Or.inr ?_))
      obtain ⟨hy, k1, k2⟩ := key (mx) (by omega) (by omega)
      refine Go_ops rfl (OpTo_pcall (v := .bool true) rfl rfl rfl rfl rfl (by kernel_rfl) (fun w hm _ => l05_five w) ?_)
      refine VC_sound tabOk 100 ?_
      refine ⟨fun _ => ?_, fun h => by simp at h⟩
      (repeat (first | refine Or.inl ⟨rfl, rfl, ?_⟩ | refine Or.inl ⟨rfl, ?_⟩ | refine Or.inr ?_))
      refine Go_ops rfl (OpTo_pcall (v := .bool true) rfl rfl rfl rfl rfl (by kernel_rfl) (fun w hm _ => k1 ▸ snap_covers (mx) (1 + (K : Int)) A2 A1 c2 c1 [] (ofUpto op K) w (.inl rfl) (hm.own_rd (i := 3) rfl) (by simp) (by omega) (by omega) (by omega)) ?_)
      refine VC_sound tabOk 100 ?_
      refine ⟨fun _ => ?_, fun h => by simp at h⟩
      (repeat (first | refine Or.inl ⟨rfl, rfl, ?_⟩ | refine Or.inl ⟨rfl, ?_⟩ | refine Or.inr ?_))
      refine Go_ops rfl (OpTo_pcall (v := .bool false) rfl rfl rfl rfl rfl (by kernel_rfl) (fun w hm _ => k2 ▸ snap_covers (1 + (K : Int)) (mx) A1 A2 c1 c2 (ofUpto op K) [] w (hm.own_rd (i := 3) rfl) (.inl rfl) (by omega) (by simp) (by omega) (by omega)) ?_)
      refine VC_sound tabOk 100 ?_
      refine ⟨fun _ => ?_, fun h => by simp at h⟩
      (repeat (first | refine Or.inl ⟨rfl, rfl, ?_⟩ | refine Or.inl ⟨rfl, ?_⟩ | refine Or.inr ?_))
      refine Go_ops rfl (OpTo_pcall (v := .int .i64 (mx)) rfl rfl rfl rfl rfl (by kernel_rfl) (fun w hm _ => snap_least (mx) A2 c2 [] w (.inl rfl)) ?_)
      refine VC_sound tabOk 100 ?_
      exact congrArg Value.bool (by simp)

/-! ### SnapRises -/
def keepF : List Int → List Bool → List Int
  | x :: xs, k :: ks => if k then x :: keepF xs ks else keepF xs ks
  | _, _ => []
theorem keepF_sub : ∀ (xs : List Int) (ks : List Bool), (keepF xs ks).Sublist xs
  | [], _ => by simp [keepF]
  | x :: xs, [] => by simp [keepF]
  | x :: xs, k :: ks => by
    simp only [keepF]
    split
    · exact (keepF_sub xs ks).cons_cons x
    · exact (keepF_sub xs ks).cons x
theorem keepF_take : ∀ (xs : List Int) (ks : List Bool) (i : Nat) (h : i < xs.length), keepF (xs.take (i + 1)) ks = keepF (xs.take i) ks ++ if ks[i]? = some true then [xs[i]] else []
  | x :: xs, [], i, h => by cases i <;> simp [keepF]
  | x :: xs, k :: ks, 0, h => by cases k <;> simp [keepF]
  | x :: xs, k :: ks, i + 1, h => by
    have := keepF_take xs ks i (by simpa using h)
    simp only [List.take_succ_cons, keepF, this]
    cases k <;> simp

set_option maxHeartbeats 1000000 in
theorem l05_SnapRises (m n : Int) (A B : Option Addr) (c d : Nat) (op : List Int) (ks : List Bool) (w0 : World) (hA : RdW w0 A (op.flatMap (encI .u8))) (hB : RdW w0 B (ks.flatMap encB)) (hm0 : 0 ≤ m ∧ m ≤ 255) (hn0 : 0 ≤ n ∧ n ≤ 255) (hr : ∀ z ∈ op, 0 ≤ z ∧ z ≤ 255) :
    Calls Try.prog 8 #[.int .u8 m, .int .u8 n, .slice A op.length c, .slice B ks.length d] w0 fun e w' => e = .returned (.bool true) ∧ Below w0.heap.size w0 w' := by
  refine enterP (tab := tab) Try.func8 rfl Try.ntmps8 rfl (args := [_, _, _, _]) rfl ?_
  refine VC_sound tabOk 100 ?_
  refine ⟨fun h1 => ?_, fun h1 => ?_⟩
  · refine Go_ops rfl (OpTo_pcall (v := .bool true) rfl rfl rfl rfl rfl (by kernel_rfl) (fun w hm _ => l05_five w) ?_)
    refine VC_sound tabOk 100 ?_
    rfl
  · refine ⟨fun h2 => ?_, fun h2 => ?_⟩
    · refine Go_ops rfl (OpTo_pcall (v := .bool true) rfl rfl rfl rfl rfl (by kernel_rfl) (fun w hm _ => l05_five w) ?_)
      refine VC_sound tabOk 100 ?_
      rfl
    · have hn : op.length ≤ 10 := by simp at h1; omega
      have hn2 : ks.length ≤ 20 := by simp at h2; omega
      obtain ⟨K, hK, hK40⟩ := kOf m hm0
      obtain ⟨J, hJ, hJ10⟩ : ∃ J : Nat, n.tmod 10 = J ∧ J < 10 := by
        have h1 := Int.tmod_nonneg 10 hn0.1
        have h2 := Int.tmod_lt_of_pos n (b := 10) (by decide)
        exact ⟨(n.tmod 10).toNat, by omega, by omega⟩
      have hlen := ofUpto_len op K
      have ha := snOk_of op K
      refine Go_ops rfl (OpTo_ncall rfl rfl rfl rfl rfl (by kernel_rfl) (fun w hm _ => r05_of m A c op w (hA.mod hm) (by omega) K hm0 hK hr) ?_)
      rintro _ _ ⟨A1, c1, rfl, rfl⟩
      refine VC_sound tabOk 100 ?_
      generalize hxs : ofUpto op K = xs at *
      intro b1 _
      (repeat (first | refine Or.inl ⟨rfl, rfl, ?_⟩ | refine Or.inl ⟨rfl, ?_⟩ | refine Or.inr ?_))
      refine ⟨by decide, _, hJ.symm, ?_⟩
      refine ⟨_, wrap_i64 (n := (J : Int)) (by omega) (by omega), ?_⟩
      refine ⟨_, wrap_i64 (n := 1 + (K : Int) + (J : Int)) (by omega) (by omega), ?_⟩
      intro b2 _
      (repeat (first | refine Or.inl ⟨rfl, rfl, ?_⟩ | refine Or.inl ⟨rfl, ?_⟩ | refine Or.inr ?_))
      refine Go_res _ (fun w h => h.own_nil (enc := encI .i64) (k := 1) (T := 2) none) ?_
      refine Go_loop (σ := Nat × Option Addr × Nat) (fun s => [(3, .v (.slice B ks.length d)), (9, .v (.pointer (some ⟨b1, 0, none⟩))), (10, .v (.pointer (some ⟨b2, 0, none⟩))), (11, .v (.int .i64 s.1))])
        (fun s => [own (encI .i64) 1 2 s.2.1 s.2.2 (keepF (xs.take s.1) ks), .blk b2 26 [.int .i64 (1 + (K : Int) + (J : Int)), .slice s.2.1 (keepF (xs.take s.1) ks).length s.2.2], .blk b1 26 [.int .i64 (1 + (K : Int)), .slice A1 xs.length c1], own (encI .i64) 1 2 A1 c1 xs])
        (fun s => s.1 ≤ xs.length) (fun s => xs.length - s.1) (0, none, 0) (Nat.zero_le _) ⟨rfl, rfl, rfl, rfl, trivial⟩ (fun _ h => h) ?_
      rintro ⟨i, A', c'⟩ hi
      simp only at hi
      refine VC_sound tabOk 100 ?_
      (repeat (first | refine Or.inl ⟨rfl, rfl, ?_⟩ | refine Or.inl ⟨rfl, ?_⟩ | refine Or.inr ?_))
      refine ⟨fun h3 => ?_, fun h3 => ?_⟩
      · have hil : i < xs.length := by simpa using h3
        have hs := keepF_take xs ks i hil
        have hkl : (keepF (xs.take i) ks).length ≤ i := Nat.le_trans (keepF_sub _ _).length_le (by simp; omega)
        have skip : ks[i]? ≠ some true → keepF (xs.take (i + 1)) ks = keepF (xs.take i) ks := fun h => by rw [hs, if_neg h]; simp
        refine ⟨fun h4 => ?_, fun h4 => ?_⟩
        · have hik : i < ks.length := by simpa using h4
          obtain ⟨b, o, rfl⟩ := RdW.some encB_is hB (ne_nil_of_lt hik)
          refine ⟨⟨by omega, by omega⟩, ?_⟩
          (repeat (first | refine Or.inl ⟨rfl, rfl, ?_⟩ | refine Or.inl ⟨rfl, ?_⟩ | refine Or.inr ?_))
          refine Go_ops rfl (OpTo_loadRow tabOk encB_is (.bool ks[i]) rfl rfl rfl rfl rfl (fun _ => rfl) (fun w hm _ => hB.mod hm) (List.getElem?_eq_getElem hik) rfl ?_)
          refine VC_sound tabOk 100 ?_
          refine ⟨fun h5 => ?_, fun h5 => ?_⟩
          · have e : keepF (xs.take (i + 1)) ks = keepF (xs.take i) ks ++ [xs[i]] := by rw [hs, if_pos (by rw [List.getElem?_eq_getElem hik, h5])]
            refine Go_with (∃ b o, A1 = some ⟨b, o, none⟩) (fun w hm _ => hm.own_some (i := 3) rfl (ne_nil_of_lt hil)) ?_
            rintro ⟨b', o', rfl⟩
            refine Go_res [own (encI .i64) 1 2 A' c' (keepF (xs.take i) ks), .blk b2 26 [.int .i64 (1 + (K : Int) + (J : Int)), .slice A' (keepF (xs.take i) ks).length c'], .blk b1 26 [.int .i64 (1 + (K : Int)), .slice (some ⟨b', o', none⟩) xs.length c1], own (encI .i64) 1 2 (some ⟨b', o', none⟩) c1 xs] (fun _ h => h) ?_
            show Go _ _ _ _
            refine Go_any mixed [8, 10] [(0, false), (2, false), (4, false), (1, false), (3, false), (5, false), (6, false), (7, true), (8, true), (9, false), (10, true)] rfl (by kernel_rfl) (by kernel_rfl) [.blk b2 26 [.int .i64 (1 + (K : Int) + (J : Int)), .slice A' (keepF (xs.take i) ks).length c'], .blk b1 26 [.int .i64 (1 + (K : Int)), .slice (some ⟨b', o', none⟩) xs.length c1]] (fun w => RdI w (some ⟨b', o', none⟩) xs) (fun _ _ hk h => h.old hk) (fun w hm _ => ⟨Holds.of_mod hm (by simp), hm.own_rd (i := 3) rfl⟩) ?_
            refine VC_sound tabOk 100 ?_
            (repeat (first | refine Or.inl ⟨rfl, rfl, ?_⟩ | refine Or.inl ⟨rfl, ?_⟩ | refine Or.inr ?_))
            refine ⟨⟨by omega, by omega⟩, ?_⟩
            (repeat (first | refine Or.inl ⟨rfl, rfl, ?_⟩ | refine Or.inl ⟨rfl, ?_⟩ | refine Or.inr ?_))
            refine Go_first (v := .int .i64 xs[i]) rfl rfl rfl rfl (fun w _ hw => rxLoadRow tabOk rfl (encI_is .i64) rfl (fun _ => rfl) hw (List.getElem?_eq_getElem hil) rfl rfl) ?_
            refine VC_sound tabOk 100 ?_
            intro b3 _
            refine Go_aloneM rfl rfl rfl (OpTo_append tabOk (encI_is .i64) (ys := [xs[i]]) (i := 1) rfl rfl rfl rfl rfl rfl rfl rfl rfl rfl rfl (fun w hm _ => hm.blk_rd (i := 0) rfl) (by simp; omega) (by simp; omega) (fun A2 c2 => ?_))
            refine VC_sound tabOk 100 ?_
            (repeat (first | refine Or.inl ⟨rfl, rfl, ?_⟩ | refine Or.inl ⟨rfl, ?_⟩ | refine Or.inr ?_))
            refine ⟨_, wrap_i64 (n := (i : Int) + 1) (by omega) (by omega), ?_⟩
            refine Go_fin (i + 1, A2, c2) (by simp; omega) (by simp; omega) ⟨rfl, rfl, rfl, rfl, trivial⟩ (fun _ h => ?_)
            have h := h.sel [1, 2, 3, 4] rfl
            simp only [e, List.length_append, List.length_cons, List.length_nil]
            exact h
          · refine ⟨_, wrap_i64 (n := (i : Int) + 1) (by omega) (by omega), ?_⟩
            have e := skip (by rw [List.getElem?_eq_getElem hik, h5]; simp)
            refine Go_fin (i + 1, A', c') (by simp; omega) (by simp; omega) ⟨rfl, rfl, rfl, rfl, trivial⟩ (fun _ h => by simpa only [e] using h)
        · refine ⟨_, wrap_i64 (n := (i : Int) + 1) (by omega) (by omega), ?_⟩
          have e := skip (by rw [List.getElem?_eq_none (by simp at h4; omega)]; simp)
          refine Go_fin (i + 1, A', c') (by simp; omega) (by simp; omega) ⟨rfl, rfl, rfl, rfl, trivial⟩ (fun _ h => by simpa only [e] using h)
      · have hge : xs.length ≤ i := by simpa using h3
        rw [List.take_of_length_le hge]
        have hsub := keepF_sub xs ks
        have hl2 := hsub.length_le
        have hb : SnOk (1 + (K : Int) + (J : Int)) (keepF xs ks) := ⟨by omega, ha.asc.sublist hsub, fun x hx => by have := ha.in_ x (hsub.subset hx); omega⟩
        have hsee : ∀ x, snSees (1 + (K : Int)) xs x = true → snSees (1 + (K : Int) + (J : Int)) (keepF xs ks) x = true := fun x hx => by
          have := snSees_iff.1 hx
          exact snSees_iff.2 ⟨this.1, by omega, fun hm => this.2.2 (hsub.subset hm)⟩
        have hcv := (snCovers_iff hb ha).2 hsee
        have hls : snLeast (1 + (K : Int)) xs ≤ snLeast (1 + (K : Int) + (J : Int)) (keepF xs ks) := by
          refine Int.not_lt.1 fun hlt => ?_
          have h1 := hsee _ (ha.least_sees hb.least_le.1 hlt)
          rw [hb.least_not] at h1; cases h1
        refine Go_res [own (encI .i64) 1 2 A' c' (keepF xs ks), .blk b2 26 [.int .i64 (1 + (K : Int) + (J : Int)), .slice A' (keepF xs ks).length c'], .blk b1 26 [.int .i64 (1 + (K : Int)), .slice A1 xs.length c1], own (encI .i64) 1 2 A1 c1 xs] (fun _ h => h) ?_
        show Go _ _ _ _
        refine Go_any mixed [] [(0, true), (1, false), (2, false), (3, true), (4, false), (5, false), (6, false), (7, false), (8, true), (9, false), (10, false), (11, false), (13, false), (12, true), (14, true), (15, false), (16, false), (17, false)] rfl (by kernel_rfl) (by kernel_rfl) [.blk b2 26 [.int .i64 (1 + (K : Int) + (J : Int)), .slice A' (keepF xs ks).length c'], .blk b1 26 [.int .i64 (1 + (K : Int)), .slice A1 xs.length c1]] (FrmX [heapOf w0]) (FrmX.stable _) (fun w hm _ => ⟨Holds.of_mod hm (by simp), FrmX.of_mod hm⟩) ?_
        refine VC_sound tabOk 100 ?_
        refine Go_aloneS rfl rfl (fun w hm _ => ⟨Holds.of_mod hm (by simp), FrmX.of_mod hm⟩) (OpTo_pcall (v := .bool true) rfl rfl rfl rfl rfl (by kernel_rfl) (fun w hm _ => l05_five w) ?_)
        refine And.intro rfl ?_
        refine VC_sound tabOk 100 ?_
        refine ⟨fun _ => ?_, fun h => by simp at h⟩
        (repeat (first | refine Or.inl ⟨rfl, rfl, ?_⟩ | refine Or.inl ⟨rfl, ?_⟩ | refine Or.inr ?_))
        refine Go_aloneS rfl rfl (fun w hm _ => ⟨Holds.of_mod hm (by simp), FrmX.of_mod hm⟩) (OpTo_pcall (v := .bool true) rfl rfl rfl rfl rfl (by kernel_rfl) (fun w hm _ => hb.right ▸ snap_right (1 + (K : Int) + (J : Int)) A' c' (keepF xs ks) w (hm.own_rd (i := 0) rfl) (by omega)) ?_)
        refine And.intro rfl ?_
        refine VC_sound tabOk 100 ?_
        refine ⟨fun _ => ?_, fun h => by simp at h⟩
        (repeat (first | refine Or.inl ⟨rfl, rfl, ?_⟩ | refine Or.inl ⟨rfl, ?_⟩ | refine Or.inr ?_))
        refine Go_aloneS rfl rfl (fun w hm _ => ⟨Holds.of_mod hm (by simp), FrmX.of_mod hm⟩) (OpTo_pcall (v := .bool true) rfl rfl rfl rfl rfl (by kernel_rfl) (fun w hm _ => hcv ▸ snap_covers (1 + (K : Int) + (J : Int)) (1 + (K : Int)) A' A1 c' c1 (keepF xs ks) xs w (hm.own_rd (i := 0) rfl) (hm.own_rd (i := 3) rfl) (by omega) (by omega) (by omega) (by omega)) ?_)
        refine And.intro rfl ?_
        refine VC_sound tabOk 100 ?_
        refine ⟨fun _ => ?_, fun h => by simp at h⟩
        (repeat (first | refine Or.inl ⟨rfl, rfl, ?_⟩ | refine Or.inl ⟨rfl, ?_⟩ | refine Or.inr ?_))
        refine Go_aloneS rfl rfl (fun w hm _ => ⟨Holds.of_mod hm (by simp), FrmX.of_mod hm⟩) (OpTo_pcall (v := .int .i64 (snLeast (1 + (K : Int) + (J : Int)) (keepF xs ks))) rfl rfl rfl rfl rfl (by kernel_rfl) (fun w hm _ => snap_least (1 + (K : Int) + (J : Int)) A' c' (keepF xs ks) w (hm.own_rd (i := 0) rfl)) ?_)
        refine And.intro rfl ?_
        refine VC_sound tabOk 100 ?_
        refine Go_aloneS rfl rfl (fun w hm _ => ⟨Holds.of_mod hm (by simp), FrmX.of_mod hm⟩) (OpTo_pcall (v := .int .i64 (snLeast (1 + (K : Int)) xs)) rfl rfl rfl rfl rfl (by kernel_rfl) (fun w hm _ => snap_least (1 + (K : Int)) A1 c1 xs w (hm.own_rd (i := 3) rfl)) ?_)
        refine And.intro rfl ?_
        refine VC_sound tabOk 100 ?_
        exact congrArg Value.bool (by simpa using hls)
end Go.Proofs.Ytifkpphkfmdlbaa
