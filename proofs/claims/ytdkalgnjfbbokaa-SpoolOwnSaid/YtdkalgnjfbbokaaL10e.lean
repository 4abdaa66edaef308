/- The law SpoolOwn: what its run comes to. -/
import Derived.Test.YtdkalgnjfbbokaaL10d
set_option autoImplicit false
set_option linter.unusedVariables false
set_option linter.unusedSimpArgs false
namespace Go.Proofs.Ytdkalgnjfbbokaa
open Go.RX Go Go.RowKit Go.ChangeShapes Go.WideShapes Go.ChangeAt


theorem crc_more_nil (w0 : World) : Calls Try.prog 33 #[.int .u32 0, .slice none 0 0] w0 fun e w' => e = .returned (.int .u32 0) ∧ Below w0.heap.size w0 w' := by
  refine enterP (tab := tab) Try.func33 rfl Try.ntmps33 rfl (args := [_, _]) rfl ?_
  refine VC_sound tabOk 100 ?_
  refine ⟨(4294967295 : Int), by decide, ?_⟩
  refine Go_loop (σ := Unit) (fun _ => [(1, .v (.slice none 0 0)), (5, .v (.int .u32 4294967295)), (6, .v (.int .i64 0))]) (fun _ => []) (fun _ => True) (fun _ => 0) () trivial ⟨rfl, rfl, rfl, trivial⟩ (fun _ h => h) ?_
  rintro ⟨⟩ _
  refine VC_sound tabOk 100 ?_
  refine ⟨fun h => by first | (simp at h; done) | (simp at h; omega) | (simp_all; done), fun _ => ?_⟩
  refine ⟨(0 : Int), by decide, ?_⟩
  rfl
theorem crc_of_nil (w0 : World) : Calls Try.prog 19 #[.slice none 0 0] w0 fun e w' => e = .returned (.int .u32 0) ∧ Below w0.heap.size w0 w' := by
  refine enterP (tab := tab) Try.func19 rfl Try.ntmps19 rfl (args := [_]) rfl ?_
  refine VC_sound tabOk 100 ?_
  refine Go_ops rfl (OpTo_pcall (v := .int .u32 0) rfl rfl rfl rfl rfl (by kernel_rfl) (fun w hm _ => crc_more_nil w) ?_)
  refine VC_sound tabOk 100 ?_
  rfl

def nums (n : Nat) : List EventM := (List.range n).map fun (j : Nat) => evF ((j : Int) + 1) 0
theorem nums_succ (n : Nat) : nums (n + 1) = nums n ++ [evF ((n : Int) + 1) 0] := by simp [nums, List.range_succ]
theorem nums_len (n : Nat) : (nums n).length = n := by simp [nums]

set_option maxHeartbeats 16000000 in
theorem l10_SpoolOwn (n id : Int) (w0 : World) (hn : 0 ≤ n ∧ n ≤ 255) :
    Calls Try.prog 5 #[.int .u8 n, .int .i64 id] w0 fun e w' => e = .returned (.bool true) ∧ Below w0.heap.size w0 w' := by
  obtain ⟨K, hK, hK5⟩ := tmod_nat 5 (by decide) hn.1
  refine enterP (tab := tab) Try.func5 rfl Try.ntmps5 rfl (args := [_, _]) rfl ?_
  refine VC_sound tabOk 100 ?_
  refine Go_ops rfl (OpTo_pcall (v := .bool true) rfl rfl rfl rfl rfl (by kernel_rfl) (fun w hm _ => l10_turns w) ?_)
  refine VC_sound tabOk 100 ?_
  refine ⟨fun h => by first | (simp at h; done) | (simp at h; omega) | (simp_all; done), fun _ => ?_⟩
  show Go _ _ _ _
  refine Go_ops rfl (OpTo_ncall rfl rfl rfl rfl rfl (by kernel_rfl) (fun w hm _ => spool_new w) ?_)
  rintro _ _ ⟨bs, rfl, rfl⟩
  refine VC_sound tabOk 100 ?_
  refine Go_loop (σ := Nat × Option Addr × Nat) (fun s => [(0, .v (.int .u8 n)), (1, .v (.int .i64 id)), (5, .v (.pointer (some ⟨bs, 0, none⟩))), (6, .v (.int .i64 s.1))]) (fun s => spR bs noTb ⟨s.2.1, s.2.2, nums s.1⟩ noTb 0) (fun s => s.1 ≤ K + 1) (fun s => K + 1 - s.1) (0, none, 0) (by dsimp only; omega) ⟨rfl, rfl, rfl, rfl, trivial⟩ (fun _ h => h) ?_
  rintro ⟨i, A, c⟩ hi
  dsimp only at hi ⊢
  have hnl := nums_len i
  refine VC_sound tabOk 100 ?_
  refine ⟨by decide, _, hK.symm, ?_⟩
  refine ⟨_, wrap_i64 (n := (K : Int)) (by omega) (by omega), ?_⟩
  refine ⟨_, wrap_i64 (n := 1 + (K : Int)) (by omega) (by omega), ?_⟩
  refine ⟨fun hc => ?_, fun hc => ?_⟩
  · have hlt : i < K + 1 := by simp at hc; omega
    refine ⟨_, wrap_i64 (n := (i : Int) + 1) (by omega) (by omega), ?_⟩
    show Go _ _ _ _
    refine Go_ops rfl (OpTo_mcall (spR bs noTb ⟨A, c, nums i⟩ noTb 0) [] (List.Perm.of_eq (by simp)) rfl rfl rfl rfl rfl (by kernel_rfl) (fun w hb hm hio hsp k => spool_addTo bs noTb ⟨A, c, nums i⟩ noTb 0 1 (evF ((i : Int) + 1) 0) w _ k (by omega) (by decide) (by dsimp only; omega) (by decide)) ?_)
    rintro _ _ ⟨A', c', rfl, rfl⟩
    refine VC_sound tabOk 100 ?_
    refine ⟨_, wrap_i64 (n := (i : Int) + 1) (by omega) (by omega), ?_⟩
    exact Go_fin (i + 1, A', c') (by dsimp only; omega) (by dsimp only; omega) ⟨rfl, rfl, rfl, rfl, trivial⟩ (fun _ h => by dsimp only; rw [nums_succ]; exact h.sel [0, 1, 2, 3] rfl)
  have he : i = K + 1 := by simp at hc; omega
  subst he
  have hpos : 0 < (nums (K + 1)).length := by omega
  generalize hxs : nums (K + 1) = xs at hnl hpos ⊢
  have rd : ∀ {Rs : List Res} {w : World} {m : Nat} {hfs : List PH}, Mod hfs Rs w → Rs[m]? = some (noTb.r) → Rs[m + 1]? = some (Tb.mk A c xs).r → ∀ i, RdW w (pick3 noTb ⟨A, c, xs⟩ noTb i).A ((pick3 noTb ⟨A, c, xs⟩ noTb i).xs.flatMap encE) := fun hm h0 h1 i => by
    match i with
    | 0 => exact .inl rfl
    | 1 => exact hm.own_rd h1
    | i + 2 => exact .inl rfl
  show Go _ _ _ _
  refine Go_ops rfl (OpTo_ncall rfl rfl rfl rfl rfl (by kernel_rfl) (fun w hm _ => spool_list bs noTb ⟨A, c, xs⟩ noTb 0 1 w (hm.blk_at (i := 0) rfl) (rd (m := 1) hm rfl rfl 1) (by omega) (by simp only [pick3]; omega)) ?_)
  rintro _ _ ⟨A1, c1, rfl, rfl⟩
  simp only [pick3]
  refine Go_with _ (fun w hm _ => hm.own_some (i := 0) rfl (ne_nil_of_lt hpos)) ?_
  rintro ⟨a1, o1, rfl⟩
  refine VC_sound tabOk 100 ?_
  show Go _ _ _ _
  refine Go_ops rfl (OpTo_ncall rfl rfl rfl rfl rfl (by kernel_rfl) (fun w hm _ => spool_all bs noTb ⟨A, c, xs⟩ noTb 0 w (hm.blk_at (i := 1) rfl) (rd (m := 2) hm rfl rfl) (by simp [pre3, noTb]; omega)) ?_)
  rintro _ _ ⟨ys, ⟨s1, s2, s3⟩, A2, c2, rfl, rfl⟩
  have hyl : ys.length = xs.length := by rw [s3]; simp [pre3, noTb]
  refine Go_with _ (fun w hm _ => hm.own_some (i := 0) rfl (ne_nil_of_lt (by omega : 0 < ys.length))) ?_
  rintro ⟨a2, o2, rfl⟩
  refine VC_sound tabOk 100 ?_
  show Go _ _ _ _
  refine Go_ops rfl (OpTo_ncall rfl rfl rfl rfl rfl (by kernel_rfl) (fun w hm _ => spool_next bs noTb ⟨A, c, xs⟩ noTb 0 w (hm.blk_at (i := 2) rfl) (rd (m := 3) hm rfl rfl (nxt 0)) (by omega) (by show xs.length ≤ _; omega)) ?_)
  rintro _ _ ⟨A3, c3, rfl, rfl⟩
  show Go _ _ _ _
  refine Go_with _ (fun w hm _ => hm.own_some (i := 0) (xs := xs) rfl (ne_nil_of_lt hpos)) ?_
  rintro ⟨a3, o3, rfl⟩
  refine VC_sound tabOk 100 ?_
  intro b33 _
  refine Go_loop (σ := Nat × List EventM × List EventM × List EventM) (fun s => [(0, .v (.int .u8 n)), (1, .v (.int .i64 id)), (5, .v (.pointer (some ⟨bs, 0, none⟩))), (33, .v (.slice (some ⟨b33, 0, none⟩) 3 3)), (34, .v (.int .i64 (3 : Nat))), (35, .v (.int .i64 s.1))]) (fun s => [.blk b33 39 [.slice (some ⟨a1, o1, none⟩) xs.length c1, .slice (some ⟨a2, o2, none⟩) ys.length c2, .slice (some ⟨a3, o3, none⟩) xs.length c3], own encE 8 29 (some ⟨a3, o3, none⟩) c3 s.2.2.2, own encE 8 29 (some ⟨a2, o2, none⟩) c2 s.2.2.1, own encE 8 29 (some ⟨a1, o1, none⟩) c1 s.2.1] ++ spR bs noTb ⟨A, c, xs⟩ noTb 0) (fun s => s.1 ≤ 3 ∧ s.2.1.length = xs.length ∧ s.2.2.1.length = ys.length ∧ s.2.2.2.length = xs.length) (fun s => 3 - s.1) (0, xs, ys, xs) ⟨by dsimp only; omega, rfl, rfl, rfl⟩ ⟨rfl, rfl, rfl, rfl, rfl, rfl, trivial⟩ (fun _ h => h) ?_
  rintro ⟨j, X1, X2, X3⟩ ⟨hj, l1, l2, l3⟩
  dsimp only at hj l1 l2 l3 ⊢
  have hj' : j = 0 ∨ j = 1 ∨ j = 2 ∨ j = 3 := by omega
  rcases hj' with rfl | rfl | rfl | rfl
  · refine VC_sound tabOk 100 ?_
    refine ⟨fun _ => ?_, fun h => by simp at h⟩
    refine ⟨⟨by omega, by omega⟩, ?_⟩
    (repeat (first | refine Or.inl ⟨rfl, rfl, ?_⟩ | refine Or.inl ⟨rfl, ?_⟩ | refine Or.inr ?_))
    refine Go_loop (σ := Nat × List EventM) (fun s => [(0, .v (.int .u8 n)), (1, .v (.int .i64 id)), (5, .v (.pointer (some ⟨bs, 0, none⟩))), (33, .v (.slice (some ⟨b33, 0, none⟩) 3 3)), (34, .v (.int .i64 (3 : Nat))), (35, .v (.int .i64 ((0 : Nat) : Int))), (8, .v (.slice (some ⟨a1, o1, none⟩) xs.length c1)), (9, .v (.int .i64 s.1))]) (fun s => [.blk b33 39 [.slice (some ⟨a1, o1, none⟩) xs.length c1, .slice (some ⟨a2, o2, none⟩) ys.length c2, .slice (some ⟨a3, o3, none⟩) xs.length c3], own encE 8 29 (some ⟨a3, o3, none⟩) c3 X3, own encE 8 29 (some ⟨a2, o2, none⟩) c2 X2, own encE 8 29 (some ⟨a1, o1, none⟩) c1 s.2] ++ spR bs noTb ⟨A, c, xs⟩ noTb 0) (fun s => s.1 ≤ xs.length ∧ s.2.length = xs.length) (fun s => xs.length - s.1) (0, X1) ⟨Nat.zero_le _, l1⟩ ⟨rfl, rfl, rfl, rfl, rfl, rfl, rfl, rfl, trivial⟩ (fun _ h => h) ?_
    rintro ⟨i, Z⟩ ⟨hi, hz⟩
    dsimp only at hi hz ⊢
    refine VC_sound tabOk 100 ?_
    refine ⟨fun hc => ?_, fun hc => ?_⟩
    · have hlt : i < Z.length := by simp at hc; omega
      refine ⟨⟨by omega, by omega⟩, ?_⟩
      (repeat (first | refine Or.inl ⟨rfl, rfl, ?_⟩ | refine Or.inl ⟨rfl, ?_⟩ | refine Or.inr ?_))
      refine Go_ops rfl (OpTo_storePart tabOk encE_is (n := i) (j := 0) (u := Z[i]) (u' := { Z[i] with id := id }) 3 rfl rfl rfl rfl rfl rfl (List.getElem?_eq_getElem hlt) rfl rfl rfl (by simp only [addA]; rfl) ?_)
      refine VC_sound tabOk 100 ?_
      refine ⟨_, wrap_i64 (n := (i : Int) + 1) (by omega) (by omega), ?_⟩
      exact Go_fin (i + 1, Z.set i { Z[i] with id := id }) ⟨by dsimp only; omega, by simpa using hz⟩ (by dsimp only; omega) ⟨rfl, rfl, rfl, rfl, rfl, rfl, rfl, rfl, trivial⟩ (fun _ h => h)
    · refine ⟨_, wrap_i64 (n := ((0 : Nat) : Int) + 1) (by omega) (by omega), ?_⟩
      exact Go_fin (1, Z, X2, X3) ⟨by dsimp only; omega, hz, l2, l3⟩ (by dsimp only; omega) ⟨rfl, rfl, rfl, rfl, rfl, rfl, trivial⟩ (fun _ h => h)
  · refine VC_sound tabOk 100 ?_
    refine ⟨fun _ => ?_, fun h => by simp at h⟩
    refine ⟨⟨by omega, by omega⟩, ?_⟩
    (repeat (first | refine Or.inl ⟨rfl, rfl, ?_⟩ | refine Or.inl ⟨rfl, ?_⟩ | refine Or.inr ?_))
    refine Go_loop (σ := Nat × List EventM) (fun s => [(0, .v (.int .u8 n)), (1, .v (.int .i64 id)), (5, .v (.pointer (some ⟨bs, 0, none⟩))), (33, .v (.slice (some ⟨b33, 0, none⟩) 3 3)), (34, .v (.int .i64 (3 : Nat))), (35, .v (.int .i64 ((1 : Nat) : Int))), (8, .v (.slice (some ⟨a2, o2, none⟩) ys.length c2)), (9, .v (.int .i64 s.1))]) (fun s => [.blk b33 39 [.slice (some ⟨a1, o1, none⟩) xs.length c1, .slice (some ⟨a2, o2, none⟩) ys.length c2, .slice (some ⟨a3, o3, none⟩) xs.length c3], own encE 8 29 (some ⟨a3, o3, none⟩) c3 X3, own encE 8 29 (some ⟨a2, o2, none⟩) c2 s.2, own encE 8 29 (some ⟨a1, o1, none⟩) c1 X1] ++ spR bs noTb ⟨A, c, xs⟩ noTb 0) (fun s => s.1 ≤ ys.length ∧ s.2.length = ys.length) (fun s => ys.length - s.1) (0, X2) ⟨Nat.zero_le _, l2⟩ ⟨rfl, rfl, rfl, rfl, rfl, rfl, rfl, rfl, trivial⟩ (fun _ h => h) ?_
    rintro ⟨i, Z⟩ ⟨hi, hz⟩
    dsimp only at hi hz ⊢
    refine VC_sound tabOk 100 ?_
    refine ⟨fun hc => ?_, fun hc => ?_⟩
    · have hlt : i < Z.length := by simp at hc; omega
      refine ⟨⟨by omega, by omega⟩, ?_⟩
      (repeat (first | refine Or.inl ⟨rfl, rfl, ?_⟩ | refine Or.inl ⟨rfl, ?_⟩ | refine Or.inr ?_))
      refine Go_ops rfl (OpTo_storePart tabOk encE_is (n := i) (j := 0) (u := Z[i]) (u' := { Z[i] with id := id }) 2 rfl rfl rfl rfl rfl rfl (List.getElem?_eq_getElem hlt) rfl rfl rfl (by simp only [addA]; rfl) ?_)
      refine VC_sound tabOk 100 ?_
      refine ⟨_, wrap_i64 (n := (i : Int) + 1) (by omega) (by omega), ?_⟩
      exact Go_fin (i + 1, Z.set i { Z[i] with id := id }) ⟨by dsimp only; omega, by simpa using hz⟩ (by dsimp only; omega) ⟨rfl, rfl, rfl, rfl, rfl, rfl, rfl, rfl, trivial⟩ (fun _ h => h)
    · refine ⟨_, wrap_i64 (n := ((1 : Nat) : Int) + 1) (by omega) (by omega), ?_⟩
      exact Go_fin (2, X1, Z, X3) ⟨by dsimp only; omega, l1, hz, l3⟩ (by dsimp only; omega) ⟨rfl, rfl, rfl, rfl, rfl, rfl, trivial⟩ (fun _ h => h)
  · refine VC_sound tabOk 100 ?_
    refine ⟨fun _ => ?_, fun h => by simp at h⟩
    refine ⟨⟨by omega, by omega⟩, ?_⟩
    (repeat (first | refine Or.inl ⟨rfl, rfl, ?_⟩ | refine Or.inl ⟨rfl, ?_⟩ | refine Or.inr ?_))
    refine Go_loop (σ := Nat × List EventM) (fun s => [(0, .v (.int .u8 n)), (1, .v (.int .i64 id)), (5, .v (.pointer (some ⟨bs, 0, none⟩))), (33, .v (.slice (some ⟨b33, 0, none⟩) 3 3)), (34, .v (.int .i64 (3 : Nat))), (35, .v (.int .i64 ((2 : Nat) : Int))), (8, .v (.slice (some ⟨a3, o3, none⟩) xs.length c3)), (9, .v (.int .i64 s.1))]) (fun s => [.blk b33 39 [.slice (some ⟨a1, o1, none⟩) xs.length c1, .slice (some ⟨a2, o2, none⟩) ys.length c2, .slice (some ⟨a3, o3, none⟩) xs.length c3], own encE 8 29 (some ⟨a3, o3, none⟩) c3 s.2, own encE 8 29 (some ⟨a2, o2, none⟩) c2 X2, own encE 8 29 (some ⟨a1, o1, none⟩) c1 X1] ++ spR bs noTb ⟨A, c, xs⟩ noTb 0) (fun s => s.1 ≤ xs.length ∧ s.2.length = xs.length) (fun s => xs.length - s.1) (0, X3) ⟨Nat.zero_le _, l3⟩ ⟨rfl, rfl, rfl, rfl, rfl, rfl, rfl, rfl, trivial⟩ (fun _ h => h) ?_
    rintro ⟨i, Z⟩ ⟨hi, hz⟩
    dsimp only at hi hz ⊢
    refine VC_sound tabOk 100 ?_
    refine ⟨fun hc => ?_, fun hc => ?_⟩
    · have hlt : i < Z.length := by simp at hc; omega
      refine ⟨⟨by omega, by omega⟩, ?_⟩
      (repeat (first | refine Or.inl ⟨rfl, rfl, ?_⟩ | refine Or.inl ⟨rfl, ?_⟩ | refine Or.inr ?_))
      refine Go_ops rfl (OpTo_storePart tabOk encE_is (n := i) (j := 0) (u := Z[i]) (u' := { Z[i] with id := id }) 1 rfl rfl rfl rfl rfl rfl (List.getElem?_eq_getElem hlt) rfl rfl rfl (by simp only [addA]; rfl) ?_)
      refine VC_sound tabOk 100 ?_
      refine ⟨_, wrap_i64 (n := (i : Int) + 1) (by omega) (by omega), ?_⟩
      exact Go_fin (i + 1, Z.set i { Z[i] with id := id }) ⟨by dsimp only; omega, by simpa using hz⟩ (by dsimp only; omega) ⟨rfl, rfl, rfl, rfl, rfl, rfl, rfl, rfl, trivial⟩ (fun _ h => h)
    · refine ⟨_, wrap_i64 (n := ((2 : Nat) : Int) + 1) (by omega) (by omega), ?_⟩
      exact Go_fin (3, X1, X2, Z) ⟨by dsimp only; omega, l1, l2, hz⟩ (by dsimp only; omega) ⟨rfl, rfl, rfl, rfl, rfl, rfl, trivial⟩ (fun _ h => h)
  · refine VC_sound tabOk 100 ?_
    refine ⟨fun h => by simp at h, fun _ => ?_⟩
    show Go _ _ _ _
    refine Go_ops rfl (OpTo_ncall rfl rfl rfl rfl rfl (by kernel_rfl) (fun w hm _ => spool_next bs noTb ⟨A, c, xs⟩ noTb 0 w (hm.blk_at (i := 4) rfl) (rd (m := 5) hm rfl rfl (nxt 0)) (by omega) (by show xs.length ≤ _; omega)) ?_)
    rintro _ _ ⟨A4, c4, rfl, rfl⟩
    show Go _ _ _ _
    refine Go_with _ (fun w hm _ => hm.own_some (i := 0) (xs := xs) rfl (ne_nil_of_lt hpos)) ?_
    rintro ⟨a4, o4, rfl⟩
    refine VC_sound tabOk 100 ?_
    refine ⟨by decide, _, hK.symm, ?_⟩
    refine ⟨_, wrap_i64 (n := (K : Int)) (by omega) (by omega), ?_⟩
    refine ⟨_, wrap_i64 (n := 1 + (K : Int)) (by omega) (by omega), ?_⟩
    refine ⟨fun hc => ?_, fun hc => ?_⟩
    rotate_left
    · have : ((xs.length : Nat) : Int) = 1 + K := by omega
      have hc' := of_decide_eq_false hc
      exact absurd this hc'
    have h0 : xs[0]? = some (evF 1 0) := by rw [← hxs]; simp [nums, List.range_succ_eq_map]
    refine ⟨⟨by omega, by show (0 : Int) < (xs.length : Nat); omega⟩, ?_⟩
    (repeat (first | refine Or.inl ⟨rfl, rfl, ?_⟩ | refine Or.inl ⟨rfl, ?_⟩ | refine Or.inr ?_))
    refine Go_ops rfl (OpTo_loadPart tabOk encE_is (n := 0) (j := 0) (.int .i64 1) rfl rfl rfl (fun w hm _ => hm.own_rd (i := 0) (xs := xs) rfl) h0 rfl (by simp [addA]) ?_)
    refine VC_sound tabOk 100 ?_
    refine ⟨fun _ => ?_, fun h => by first | (simp at h; done) | (simp at h; omega) | (simp_all; done)⟩
    refine Go_ops rfl (OpTo_pcall (v := .int .u32 0) rfl rfl rfl rfl rfl (by kernel_rfl) (fun w hm _ => crc_of_nil w) ?_)
    refine VC_sound tabOk 100 ?_
    rfl
end Go.Proofs.Ytdkalgnjfbbokaa
