/- What the reference of layer 7 hands back, and changes. -/
import Derived.Test.YtbhlkninmbafcaaGreatR07
set_option maxRecDepth 100000
set_option autoImplicit false
set_option linter.unusedVariables false
set_option linter.unusedSimpArgs false
namespace Go.Proofs.YtbhlkninmbafcaaGreat
open Go.RX Go Go.RowKit


theorem RdW.take_ {α : Type} {enc : α → List Value} {k : Nat} (he : IsEnc enc k) {w : World} {A : Option Addr} {xs : List α} (h : RdW w A (xs.flatMap enc)) (n : Nat) : RdW w A ((xs.take n).flatMap enc) := by
  rcases h with h | ⟨b, o, h1, h2⟩
  · have := he.flat_nil h; subst this; exact .inl (by simp)
  · refine .inr ⟨b, o, h1, fun j v hv => h2 j v ?_⟩
    rw [← List.take_append_drop n xs, List.flatMap_append, List.getElem?_append_left (List.getElem?_eq_some_iff.1 hv).1]; exact hv
theorem RdW.drop_ {α : Type} {enc : α → List Value} {k : Nat} (he : IsEnc enc k) {w : World} {A : Option Addr} {xs : List α} (h : RdW w A (xs.flatMap enc)) (c n : Nat) (hn : n ≤ xs.length) (hc : xs.length ≤ c) : RdW w (slA A c n k) ((xs.drop n).flatMap enc) := by
  by_cases hcn : c = n
  · exact .inl (by rw [List.drop_of_length_le (by omega)]; rfl)
  rcases h with h | ⟨b, o, rfl, h2⟩
  · have := he.flat_nil h; subst this; exact .inl (by simp)
  · refine .inr ⟨b, o + n * k, ?_, fun j v hv => ?_⟩
    · rw [slA, if_neg hcn]
      show some (Addr.add _ _) = _
      rw [← addA_eq]; rfl
    · have := h2 (n * k + j) v (by
        have e := he.flat_len (xs.take n)
        rw [List.length_take, Nat.min_eq_left hn] at e
        rw [← List.take_append_drop n xs, List.flatMap_append, List.getElem?_append_right (by omega), e, Nat.add_sub_cancel_left]; exact hv)
      rwa [← Nat.add_assoc] at this
theorem seenL_step {st : Int → Int} {v : VwM} {vs : List VerM} {i : Nat} {x : VerM} (hgx : vs[i]? = some x) : seenL st v (vs.take (i + 1)) = seenL st v (vs.take i) ++ if seesP st v x = true then [rowOf x] else [] := by
  simp only [seenL, List.take_add_one, hgx, Option.toList_some, List.filter_append, List.map_append]
  congr 1
  by_cases h : seesP st v x = true <;> simp [h]
theorem seenL_len (st : Int → Int) (v : VwM) (vs : List VerM) : (seenL st v vs).length ≤ vs.length := by
  rw [seenL, List.length_map]; exact List.length_filter_le _ _

set_option maxHeartbeats 8000000 in
theorem r7_scan (h br : Nat) (Ar : Option Addr) (cr : Nat) (R : List Int) (A : Option Addr) (c : Nat) (vs : List VerM) (v : VwM) (w0 : World) (hp : RpAt w0 h br Ar cr R A c vs) (hR : R.length ≤ 2000000) (hS : RdI w0 v.S v.op) (hl : v.op.length ≤ 1000000) (hn : vs.length ≤ 10000) :
    Calls Tryz.prog 42 #[.pointer (some ⟨h, 0, none⟩), v.v] w0 fun e w' => ∃ u Rs', e = .returned u ∧ (∃ ys, SrtS (seenL (rState R) v vs) ys ∧ rowsQ ys u Rs') ∧ Mod [heapOf w0] Rs' w' ∧ Oth w0 w' := by
  refine enterN (tab := tab) Tryz.func42 rfl Tryz.ntmps42 rfl (args := [_, _]) rfl (Mod.start w0) ?_
  refine VC_sound tabOk 100 ?_
  intro b3 _
  have hrd := hp.rd
  refine Go_loop (σ := Nat × Option Addr × Nat × List RowM) (fun s => [(0, .v (.pointer (some ⟨h, 0, none⟩))), (3, .v (.pointer (some ⟨b3, 0, none⟩))), (5, .v (.slice s.2.1 s.2.2.2.length s.2.2.1)), (6, .v (.int .i64 s.1))]) (fun s => [own encR 2 55 s.2.1 s.2.2.1 s.2.2.2, .blk b3 50 v.cs]) (fun s => SrtS (seenL (rState R) v (vs.take s.1)) s.2.2.2 ∧ s.1 ≤ vs.length) (fun s => vs.length - s.1) (0, none, 0, []) ⟨⟨SameBy.refl _ _, List.Pairwise.nil, rfl⟩, Nat.zero_le _⟩ ⟨rfl, rfl, rfl, rfl, trivial⟩ (fun _ h => h.own_nil none) ?_
  rintro ⟨i, A1, c1, ys⟩ ⟨hS1, hi⟩
  dsimp only at hS1 hi ⊢
  have hyl : ys.length ≤ i := by rw [hS1.2.2]; exact Nat.le_trans (seenL_len _ _ _) (by simp; omega)
  refine Go_with _ (fun w hm _ => hm.own_le (i := 0) rfl) ?_
  rintro ⟨hc1, hc2⟩
  refine Go_with (ys ≠ [] → ∃ b o, A1 = some ⟨b, o, none⟩) (fun w hm _ h => hm.own_some (i := 0) rfl h) ?_
  intro hA
  refine VC_sound tabOk 100 ?_
  (repeat (first | refine Or.inl ⟨rfl, rfl, ?_⟩ | refine Or.inl ⟨rfl, ?_⟩ | refine Or.inr ?_))
  refine Go_ops rfl (OpTo_loadBlk tabOk (cs := hpV br A vs.length c) (.slice A vs.length c) rfl rfl rfl (fun w hm _ => hm.block_old hp.blk) rfl ?_)
  refine VC_sound tabOk 100 ?_
  by_cases hlt : i < vs.length
  rotate_left
  · have he : i = vs.length := by omega
    subst he
    rw [List.take_length] at hS1
    refine ⟨fun h => by first | (simp at h; done) | (simp at h; omega) | (simp_all; done), fun _ => ?_⟩
    exact ⟨_, ⟨ys, hS1, A1, c1, rfl, rfl⟩, fun _ _ h => h.sel [0] rfl⟩
  obtain ⟨ba, oa, rfl⟩ := RdW.some encV_is hrd (ne_nil_of_lt hlt)
  obtain ⟨x, hgx⟩ : ∃ x, vs[i]? = some x := ⟨_, List.getElem?_eq_getElem hlt⟩
  have hstep := seenL_step (st := rState R) (v := v) hgx
  refine ⟨fun _ => ?_, fun h => by first | (simp at h; done) | (simp at h; omega) | (simp_all; done)⟩
  (repeat (first | refine Or.inl ⟨rfl, rfl, ?_⟩ | refine Or.inl ⟨rfl, ?_⟩ | refine Or.inr ?_))
  refine Go_ops rfl (OpTo_pcall (v := .bool (seesP (rState R) v x)) rfl rfl rfl rfl rfl (by kernel_rfl) (fun w hm _ => r7_sees h br Ar cr R _ c vs v w (hp.mod hm) hR i x hgx (by omega) (hS.mod hm) hl) ?_)
  refine VC_sound tabOk 100 ?_
  refine ⟨fun h1 => ?_, fun h1 => ?_⟩
  · have hns : ¬ seesP (rState R) v x = true := by simpa using h1
    rw [if_neg hns, List.append_nil] at hstep
    refine ⟨_, wrap_i64 (n := (i : Int) + 1) (by omega) (by omega), ?_⟩
    exact Go_fin (i + 1, A1, c1, ys) ⟨by dsimp only; rw [hstep]; exact hS1, by dsimp only; omega⟩ (by dsimp only; omega) ⟨rfl, rfl, rfl, rfl, trivial⟩ (fun _ h => h)
  have hsee : seesP (rState R) v x = true := by simpa using h1
  rw [if_pos hsee] at hstep
  refine Go_join (E := ?jE) (k := ?jk) (σ := Nat) (fun n => [(0, .v (.pointer (some ⟨h, 0, none⟩))), (3, .v (.pointer (some ⟨b3, 0, none⟩))), (5, .v (.slice A1 ys.length c1)), (6, .v (.int .i64 i)), (7, .v (.int .i64 n)), (8, .v (.slice none 0 0)), (47, .v (.slice none 0 0)), (50, .v (.slice A1 n c1))]) (fun _ => [own encR 2 55 A1 c1 ys, .blk b3 50 v.cs])
      (fun n => n ≤ ys.length ∧ (∀ y ∈ ys.drop n, ltI x.key y.key = true) ∧ ∀ y ∈ ys.take n, ltI x.key y.key = false) ?jm ?jr
  case jm =>
    intro J
    refine Go_loop (σ := Nat) (fun n => [(0, .v (.pointer (some ⟨h, 0, none⟩))), (3, .v (.pointer (some ⟨b3, 0, none⟩))), (5, .v (.slice A1 ys.length c1)), (6, .v (.int .i64 i)), (7, .v (.int .i64 n))]) (fun _ => [own encR 2 55 A1 c1 ys, .blk b3 50 v.cs]) (fun n => n ≤ ys.length ∧ ∀ y ∈ ys.drop n, ltI x.key y.key = true) (fun n => n) ys.length ⟨Nat.le_refl _, by simp⟩ ⟨rfl, rfl, rfl, rfl, rfl, trivial⟩ (fun _ h => h) ?_
    rintro n ⟨hn, hd⟩
    dsimp only at hn hd ⊢
    refine VC_sound tabOk 100 ?_
    show Go _ _ _ _
    refine Go_any mixed [] [(0, false), (1, false), (2, false), (3, false), (4, false), (5, false), (6, false), (7, false), (9, false), (10, false), (11, false), (13, false), (8, false), (12, false), (14, false), (15, false), (16, false), (17, false), (18, false), (19, false)] rfl (by kernel_rfl) (by kernel_rfl) [] (fun w => RdW w A1 (ys.flatMap encR) ∧ FrmX [heapOf w0] w) (fun w w' hk h => ⟨h.1.old hk, FrmX.stable _ w w' hk h.2⟩) (fun w hm _ => ⟨trivial, by exact Mod.own_rd (k := 2) (T := 55) (c := c1) (i := 0) hm rfl, FrmX.of_mod hm⟩) ?_
    refine VC_sound tabOk 100 ?_
    refine ⟨fun hj => ?_, fun hj => ?_⟩
    · have h0 : 0 < n := by simpa using hj
      obtain ⟨y, hgy⟩ : ∃ y, ys[n - 1]? = some y := ⟨_, List.getElem?_eq_getElem (by omega)⟩
      have hidx : ((n : Int) - 1).toNat = n - 1 := by omega
      obtain ⟨b1, o1, rfl⟩ := hA (ne_nil_of_lt (by omega : 0 < ys.length))
      refine ⟨_, wrap_i64 (n := (n : Int) - 1) (by omega) (by omega), ?_⟩
      refine ⟨⟨by omega, by omega⟩, ?_⟩
      (repeat (first | refine Or.inl ⟨rfl, rfl, ?_⟩ | refine Or.inl ⟨rfl, ?_⟩ | refine Or.inr ?_))
      refine Go_first (v := .int .i64 y.key) rfl rfl rfl rfl (fun w _ hw => rxLoadPart tabOk rfl encR_is hw.1 hgy (off := 0) rfl (by simp only [addA, hidx])) ?_
      refine VC_sound tabOk 100 ?_
      (repeat (first | refine Or.inl ⟨rfl, rfl, ?_⟩ | refine Or.inl ⟨rfl, ?_⟩ | refine Or.inr ?_))
      refine Go_first (v := .slice (some ⟨ba, oa, none⟩) vs.length c) rfl rfl rfl rfl (fun w _ hw => run_loadVar_at tabOk rfl (hw.2 (heapOf w0) (by simp) _ _ hp.blk) rfl) ?_
      refine VC_sound tabOk 100 ?_
      refine ⟨⟨by omega, by omega⟩, ?_⟩
      (repeat (first | refine Or.inl ⟨rfl, rfl, ?_⟩ | refine Or.inl ⟨rfl, ?_⟩ | refine Or.inr ?_))
      refine Go_first (v := .int .i64 x.key) rfl rfl rfl rfl (fun w _ hw => rxLoadPart tabOk rfl encV_is (hrd.heap.world (hw.2 (heapOf w0) (by simp))) hgx (off := 0) rfl (by first | (simp only [addA]; rfl) | rfl)) ?_
      refine VC_sound tabOk 100 ?_
      refine ⟨fun hgt => ?_, fun hgt => ?_⟩
      · refine ⟨_, wrap_i64 (n := (n : Int) - 1) (by omega) (by omega), ?_⟩
        refine Go_fin (n - 1) ⟨by omega, fun z hz => ?_⟩ (by omega) ⟨rfl, rfl, rfl, rfl, congrArg (Value.int .i64) (by omega), trivial⟩ (fun _ h => h)
        have hdr : ys.drop (n - 1) = y :: ys.drop n := by
          obtain ⟨hh, rfl⟩ := List.getElem?_eq_some_iff.1 hgy
          rw [List.drop_eq_getElem_cons hh]; congr 2; omega
        rw [hdr] at hz
        rcases List.mem_cons.1 hz with rfl | hz
        · simpa [ltI] using hgt
        · exact hd z hz
      · refine ⟨⟨by omega, by omega⟩, ?_⟩
        refine J n ⟨hn, hd, fun z hz => ?_⟩ _ _ ?_ ?_
        rotate_left
        · exact ⟨rfl, rfl, rfl, rfl, rfl, rfl, rfl, rfl, trivial⟩
        · exact fun _ h => h
        obtain ⟨j, hj1, hj2⟩ := mem_take_at hz
        have h1 : ltI y.key z.key = false := hS1.2.1.at_ ordI hj2 hgy (by omega)
        simp [ltI] at h1 hgt ⊢; omega
    · have h0 : n = 0 := by simp at hj; omega
      subst h0
      refine ⟨⟨by omega, by omega⟩, ?_⟩
      refine J 0 ⟨hn, hd, by simp⟩ _ _ ?_ ?_
      · exact ⟨rfl, rfl, rfl, rfl, rfl, rfl, rfl, rfl, trivial⟩
      · exact fun _ h => h
  case jr =>
    rintro n ⟨hn, hd, ht⟩
    have hput := put_ok' ordI (key := RowM.key) (x := rowOf x) (t := n) hS1.2.1 ht hd
    refine Go_res (own encR 2 55 none 0 [] :: [own encR 2 55 A1 c1 ys, .blk b3 50 v.cs]) (fun w h => h.own_nil none) ?_
    show Go _ _ _ _
    refine Go_ops rfl (OpTo_append tabOk encR_is (xs := []) (ys := ys.take n) (i := 0) rfl rfl rfl rfl rfl rfl rfl rfl rfl rfl (by simp; omega) (fun w hm _ => RdW.take_ encR_is (hm.own_rd (i := 1) rfl) n) (by simp; omega) (by simp; omega) (fun A2 c2 => ?_))
    refine VC_sound tabOk 100 ?_
    (repeat (first | refine Or.inl ⟨rfl, rfl, ?_⟩ | refine Or.inl ⟨rfl, ?_⟩ | refine Or.inr ?_))
    refine Go_ops rfl (OpTo_loadBlk tabOk (cs := hpV br (some ⟨ba, oa, none⟩) vs.length c) (.slice (some ⟨ba, oa, none⟩) vs.length c) rfl rfl rfl (fun w hm _ => hm.block_old hp.blk) rfl ?_)
    refine VC_sound tabOk 100 ?_
    refine ⟨⟨by omega, by omega⟩, ?_⟩
    (repeat (first | refine Or.inl ⟨rfl, rfl, ?_⟩ | refine Or.inl ⟨rfl, ?_⟩ | refine Or.inr ?_))
    refine Go_ops rfl (OpTo_loadPart tabOk encV_is (n := i) (j := 0) (mkR (rowOf x)) rfl rfl rfl (fun w hm _ => hrd.mod hm) hgx rfl (by simp only [addA]; rfl) ?_)
    refine VC_sound tabOk 100 ?_
    intro b61 _
    show Go _ _ _ _
    refine Go_ops rfl (OpTo_append tabOk encR_is (ys := [rowOf x]) (i := 1) rfl rfl rfl rfl rfl rfl rfl rfl rfl (by simp; omega) rfl (fun w hm _ => hm.blk_rd (i := 0) rfl) (by simp; omega) (by simp; omega) (fun A3 c3 => ?_))
    refine VC_sound tabOk 100 ?_
    refine ⟨⟨by omega, by omega⟩, ?_⟩
    show Go _ _ _ _
    refine Go_ops rfl (OpTo_append tabOk encR_is (ys := ys.drop n) (i := 1) rfl rfl rfl rfl rfl rfl rfl rfl rfl (by simp; omega) (by simp) (fun w hm _ => RdW.drop_ encR_is (hm.own_rd (i := 2) rfl) c1 n hn hc1) (by simp; omega) (by simp; omega) (fun A4 c4 => ?_))
    refine VC_sound tabOk 100 ?_
    refine ⟨_, wrap_i64 (n := (i : Int) + 1) (by omega) (by omega), ?_⟩
    have e1 : [] ++ ys.take n ++ [rowOf x] ++ ys.drop n = ys.take n ++ rowOf x :: ys.drop n := by simp
    refine Go_fin (i + 1, A4, c4, ys.take n ++ rowOf x :: ys.drop n) ⟨⟨?_, hput.2, ?_⟩, by dsimp only; omega⟩ (by dsimp only; omega) ⟨rfl, rfl, ?_, rfl, trivial⟩ (fun _ h => by dsimp only; rw [← e1]; exact h.sel [1, 3] rfl)
    · dsimp only
      rw [hstep]
      exact (hS1.1.append (SameBy.refl _ _)).trans hput.1
    · dsimp only
      have h3 := hS1.2.2
      rw [hstep]
      simp; omega
    · show Value.slice _ _ _ = Value.slice _ _ _
      congr 1
      simp; omega
end Go.Proofs.YtbhlkninmbafcaaGreat
