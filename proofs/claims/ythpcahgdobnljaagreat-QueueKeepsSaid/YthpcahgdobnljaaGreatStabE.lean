/- Go's stable sort of events. -/
import Derived.Test.YthpcahgdobnljaaGreatEvent
import Derived.Test.YthpcahgdobnljaaGreatRxB
set_option maxRecDepth 100000
set_option autoImplicit false
set_option linter.unusedVariables false
set_option linter.unusedSimpArgs false
namespace Go.Proofs.YthpcahgdobnljaaGreat
open Go.RX Go Go.RowKit


abbrev rwE (A : Option Addr) (c : Nat) (xs : List EventM) : Res := own encE 8 65 A c xs

set_option maxHeartbeats 2000000 in
theorem sl_swapRange_E (A : Option Addr) (c : Nat) (P X M Y S : List EventM) (fv : Value) (N n a b : Nat) (w0 : World) (hfs : List PH) (hm : Mod hfs [rwE A c (P ++ X ++ M ++ Y ++ S)] w0)
    (hX : X.length = n) (hY : Y.length = n) (ha : a = P.length) (hb : b = P.length + n + M.length) (hN : N = P.length + n + M.length + n + S.length) (hn : N ≤ 1000000) :
    Calls Tryz.prog 233 #[.slice A N c, .int .i64 a, .int .i64 b, .int .i64 n, fv] w0 fun e w' => ∃ v Rs', e = .returned v ∧ (v = .tuple #[] ∧ Rs' = [rwE A c (P ++ Y ++ M ++ X ++ S)]) ∧ Mod hfs Rs' w' ∧ Oth w0 w' := by
  refine enterN (tab := tab) Tryz.func233 rfl Tryz.ntmps233 rfl (args := [_, _, _, _, _]) rfl hm ?_
  refine VC_sound tabOk 100 ?_
  refine Go_loop (σ := Nat) (fun i => [(0, .v (.slice A N c)), (1, .v (.int .i64 a)), (2, .v (.int .i64 b)), (3, .v (.int .i64 n)), (10, .v (.int .i64 i))]) (fun i => [rwE A c (swp P X M Y S i)]) (fun i => i ≤ n) (fun i => n - i) 0 (Nat.zero_le _) ⟨rfl, rfl, rfl, rfl, rfl, trivial⟩ (fun _ h => by rw [swp_zero]; exact h) ?_
  intro i hi
  dsimp only at hi ⊢
  refine VC_sound tabOk 100 ?_
  refine ⟨fun h1 => ?_, fun h1 => ?_⟩
  · have hlt : i < n := by simpa using h1
    have hiX : i < X.length := by omega
    have hiY : i < Y.length := by omega
    have hXY : X.length = Y.length := by omega
    have hl := swp_len (P := P) (M := M) (S := S) hXY (i := i) (by omega)
    have g1 := swp_get1 (P := P) (M := M) (S := S) hXY hiX
    have g2 := swp_get2 (P := P) (M := M) (S := S) hXY hiX hiY
    have st := swp_step (P := P) (M := M) (S := S) hXY hiX hiY
    rw [show P.length + X.length + M.length = b from by omega] at g2 st
    rw [← ha] at g1 st
    refine Go_with _ (fun w hm _ => hm.own_some (i := 0) rfl (ne_nil_of_lt (by omega : 0 < (swp P X M Y S i).length))) ?_
    rintro ⟨bb, o, rfl⟩
    show Go _ _ _ _
    refine Go_any mixed [21, 23] [(0, false), (1, false), (2, false), (3, false), (4, false), (5, false), (6, false), (7, false), (8, false), (9, false), (10, false), (11, false), (12, false), (14, false), (15, false), (16, false), (17, false), (18, false), (13, false), (19, false), (20, false), (21, true), (22, false), (23, true)] rfl (by kernel_rfl) (by kernel_rfl) [] (fun w => RdW w (some ⟨bb, o, none⟩) ((swp P X M Y S i).flatMap encE)) (fun w w' hk h => h.old hk) (fun w hm _ => ⟨trivial, by exact Mod.own_rd (k := 8) (T := 65) (c := c) (i := 0) hm rfl⟩) ?_
    refine VC_sound tabOk 100 ?_
    have i1 : ((a : Int) + (i : Int)).toNat = a + i := by omega
    have i2 : ((b : Int) + (i : Int)).toNat = b + i := by omega
    refine ⟨_, wrap_i64 (n := (a : Int) + i) (by omega) (by omega), ?_⟩
    refine ⟨_, wrap_i64 (n := (b : Int) + i) (by omega) (by omega), ?_⟩
    refine ⟨_, wrap_i64 (n := (b : Int) + i) (by omega) (by omega), ?_⟩
    refine ⟨⟨by omega, by omega⟩, ?_⟩
    refine ⟨_, wrap_i64 (n := (a : Int) + i) (by omega) (by omega), ?_⟩
    refine ⟨⟨by omega, by omega⟩, ?_⟩
    refine Go_first (v := mkE Y[i]) rfl rfl rfl rfl (fun w _ hw => rxLoadRow tabOk rfl encE_is rfl (fun h => by first | rfl | cases h) hw g2 (by simp only [addA, i2]) rfl) ?_
    refine VC_sound tabOk 100 ?_
    refine Go_first (v := mkE X[i]) rfl rfl rfl rfl (fun w _ hw => rxLoadRow tabOk rfl encE_is rfl (fun h => by first | rfl | cases h) hw g1 (by simp only [addA, i1]) rfl) ?_
    refine VC_sound tabOk 100 ?_
    refine ⟨⟨by omega, by omega⟩, ?_⟩
    show Go _ _ _ _
    refine Go_aloneM rfl rfl rfl (OpTo_storeRow tabOk encE_is (n := a + i) (u := Y[i]) 0 rfl rfl rfl rfl rfl rfl rfl (by omega) (by simp only [addA, i1]) rfl ?_)
    refine VC_sound tabOk 100 ?_
    refine ⟨⟨by omega, by omega⟩, ?_⟩
    show Go _ _ _ _
    refine Go_aloneM rfl rfl rfl (OpTo_storeRow tabOk encE_is (n := b + i) (u := X[i]) (xs := (swp P X M Y S i).set (a + i) Y[i]) 0 rfl rfl rfl rfl rfl rfl rfl (by rw [List.length_set]; omega) (by simp only [addA, i2]) rfl ?_)
    refine VC_sound tabOk 100 ?_
    refine ⟨_, wrap_i64 (n := (i : Int) + 1) (by omega) (by omega), ?_⟩
    refine Go_fin (i + 1) (by omega) (by omega) ⟨rfl, rfl, rfl, rfl, rfl, trivial⟩ (fun w h => ?_)
    rw [← st]
    exact h
  · have he : i = n := by simp at h1; omega
    subst he
    exact ⟨_, ⟨rfl, rfl⟩, fun _ _ h => by rw [swp_full hX hY] at h; exact h⟩

set_option maxHeartbeats 2000000 in
theorem sl_rotate_E (A : Option Addr) (c : Nat) (P X Y S : List EventM) (fv : Value) (N a m b : Nat) (w0 : World) (hfs : List PH) (hm : Mod hfs [rwE A c (P ++ X ++ Y ++ S)] w0)
    (hX : 0 < X.length) (hY : 0 < Y.length) (ha : a = P.length) (hmm : m = a + X.length) (hb : b = m + Y.length) (hN : N = b + S.length) (hn : N ≤ 1000000) :
    Calls Tryz.prog 213 #[.slice A N c, .int .i64 a, .int .i64 m, .int .i64 b, fv] w0 fun e w' => ∃ v Rs', e = .returned v ∧ (v = .tuple #[] ∧ Rs' = [rwE A c (P ++ Y ++ X ++ S)]) ∧ Mod hfs Rs' w' ∧ Oth w0 w' := by
  refine enterN (tab := tab) Tryz.func213 rfl Tryz.ntmps213 rfl (args := [_, _, _, _, _]) rfl hm ?_
  refine VC_sound tabOk 100 ?_
  refine ⟨_, wrap_i64 (n := (m : Int) - a) (by omega) (by omega), ?_⟩
  refine ⟨_, wrap_i64 (n := (b : Int) - m) (by omega) (by omega), ?_⟩
  rw [show ((m : Int) - a) = (X.length : Nat) from by omega, show ((b : Int) - m) = (Y.length : Nat) from by omega]
  refine Go_loop (σ := List EventM × List EventM × List EventM × List EventM) (fun s => [(0, .v (.slice A N c)), (1, .v (.int .i64 a)), (2, .v (.int .i64 m)), (3, .v (.int .i64 b)), (4, .v fv), (10, .v (.int .i64 s.2.1.length)), (11, .v (.int .i64 s.2.2.1.length))]) (fun s => [rwE A c ((P ++ s.1) ++ s.2.1 ++ s.2.2.1 ++ (s.2.2.2 ++ S))])
    (fun s => 0 < s.2.1.length ∧ 0 < s.2.2.1.length ∧ a + s.1.length + s.2.1.length = m ∧ m + s.2.2.1.length + s.2.2.2.length = b ∧ s.1 ++ s.2.2.1 ++ s.2.1 ++ s.2.2.2 = Y ++ X) (fun s => s.2.1.length + s.2.2.1.length) ([], X, Y, []) ⟨hX, hY, by simp; omega, by simp; omega, by simp⟩ ⟨rfl, rfl, rfl, rfl, rfl, rfl, rfl, trivial⟩ (fun _ h => by simpa using h) ?_
  rintro ⟨D1, X', Y', D2⟩ ⟨h1, h2, h3, h4, h5⟩
  dsimp only at h1 h2 h3 h4 h5 ⊢
  refine VC_sound tabOk 100 ?_
  refine ⟨fun hc => ?_, fun hc => ?_⟩
  · have hne : X'.length ≠ Y'.length := by simp at hc; omega
    refine ⟨fun hg => ?_, fun hg => ?_⟩
    · have hgt : Y'.length < X'.length := by simpa using hg
      have el : (X'.take Y'.length).length = Y'.length := by simp; omega
      have er : (X'.drop Y'.length).length = X'.length - Y'.length := by simp
      refine ⟨_, wrap_i64 (n := (m : Int) - X'.length) (by omega) (by omega), ?_⟩
      rw [show ((m : Int) - X'.length) = ((a + D1.length : Nat) : Int) from by omega]
      show Go _ _ _ _
      refine Go_ops rfl (OpTo_mcall [rwE A c ((P ++ D1) ++ X'.take Y'.length ++ X'.drop Y'.length ++ Y' ++ (D2 ++ S))] [] (List.Perm.of_eq (by rw [List.append_nil, List.append_assoc (P ++ D1) (X'.take _), List.take_append_drop])) rfl rfl rfl rfl rfl (by kernel_rfl)
        (fun w hb hm hio hsp k => sl_swapRange_E A c (P ++ D1) (X'.take Y'.length) (X'.drop Y'.length) Y' (D2 ++ S) fv N Y'.length (a + D1.length) m w _ k el rfl (by simp; omega) (by simp; omega) (by simp; omega) hn) ?_)
      rintro _ _ ⟨rfl, rfl⟩
      refine VC_sound tabOk 100 ?_
      refine ⟨_, wrap_i64 (n := (X'.length : Int) - Y'.length) (by omega) (by omega), ?_⟩
      refine Go_fin (D1 ++ Y', X'.drop Y'.length, X'.take Y'.length, D2) ⟨by rw [er]; omega, by rw [el]; exact h2, by simp; omega, by rw [el]; exact h4, ?_⟩ (by simp only [el, er]; omega) ⟨rfl, rfl, rfl, rfl, rfl, ?_, ?_, trivial⟩ (fun _ h => by simpa only [List.append_assoc, List.append_nil] using h)
      · rw [List.append_assoc (D1 ++ Y'), List.take_append_drop, h5]
      · dsimp only; rw [er]; exact congrArg (Value.int .i64) (by omega)
      · dsimp only; rw [el]
    · have hgt : X'.length < Y'.length := by simp at hg; omega
      have el : (Y'.take (Y'.length - X'.length)).length = Y'.length - X'.length := by simp
      have er : (Y'.drop (Y'.length - X'.length)).length = X'.length := by simp; omega
      refine ⟨_, wrap_i64 (n := (m : Int) - X'.length) (by omega) (by omega), ?_⟩
      refine ⟨_, wrap_i64 (n := (m : Int) + Y'.length) (by omega) (by omega), ?_⟩
      refine ⟨_, wrap_i64 (n := (m : Int) + Y'.length - X'.length) (by omega) (by omega), ?_⟩
      rw [show ((m : Int) - X'.length) = ((a + D1.length : Nat) : Int) from by omega, show ((m : Int) + Y'.length - X'.length) = ((m + Y'.length - X'.length : Nat) : Int) from by omega]
      show Go _ _ _ _
      refine Go_ops rfl (OpTo_mcall [rwE A c ((P ++ D1) ++ X' ++ Y'.take (Y'.length - X'.length) ++ Y'.drop (Y'.length - X'.length) ++ (D2 ++ S))] [] (List.Perm.of_eq (by rw [List.append_nil, List.append_assoc (P ++ D1 ++ X') (Y'.take _), List.take_append_drop])) rfl rfl rfl rfl rfl (by kernel_rfl)
        (fun w hb hm hio hsp k => sl_swapRange_E A c (P ++ D1) X' (Y'.take (Y'.length - X'.length)) (Y'.drop (Y'.length - X'.length)) (D2 ++ S) fv N X'.length (a + D1.length) (m + Y'.length - X'.length) w _ k rfl er (by simp; omega) (by rw [el]; simp; omega) (by simp; omega) hn) ?_)
      rintro _ _ ⟨rfl, rfl⟩
      refine VC_sound tabOk 100 ?_
      refine ⟨_, wrap_i64 (n := (Y'.length : Int) - X'.length) (by omega) (by omega), ?_⟩
      refine Go_fin (D1, Y'.drop (Y'.length - X'.length), Y'.take (Y'.length - X'.length), X' ++ D2) ⟨by rw [er]; omega, by rw [el]; omega, by rw [er]; exact h3, by rw [el]; simp; omega, ?_⟩ (by simp only [el, er]; omega) ⟨rfl, rfl, rfl, rfl, rfl, ?_, ?_, trivial⟩ (fun _ h => by simpa only [List.append_assoc, List.append_nil] using h)
      · rw [List.append_assoc D1, List.take_append_drop, ← h5]; simp only [List.append_assoc]
      · dsimp only; rw [er]
      · dsimp only; rw [el]; exact congrArg (Value.int .i64) (by omega)
  · have he : X'.length = Y'.length := by simp at hc; omega
    refine ⟨_, wrap_i64 (n := (m : Int) - X'.length) (by omega) (by omega), ?_⟩
    rw [show ((m : Int) - X'.length) = ((a + D1.length : Nat) : Int) from by omega]
    show Go _ _ _ _
    refine Go_ops rfl (OpTo_mcall [rwE A c ((P ++ D1) ++ X' ++ [] ++ Y' ++ (D2 ++ S))] [] (List.Perm.of_eq (by simp only [List.append_nil])) rfl rfl rfl rfl rfl (by kernel_rfl)
        (fun w hb hm hio hsp k => sl_swapRange_E A c (P ++ D1) X' [] Y' (D2 ++ S) fv N X'.length (a + D1.length) m w _ k rfl he.symm (by simp; omega) (by simp; omega) (by simp; omega) hn) ?_)
    rintro _ _ ⟨rfl, rfl⟩
    refine VC_sound tabOk 100 ?_
    refine ⟨_, ⟨rfl, rfl⟩, fun _ _ h => ?_⟩
    have e : P ++ D1 ++ Y' ++ [] ++ X' ++ (D2 ++ S) = P ++ Y ++ X ++ S := by
      rw [List.append_assoc P Y X, ← h5]; simp only [List.append_assoc, List.append_nil, List.nil_append]
    rw [e] at h
    exact h

set_option maxHeartbeats 4000000 in
theorem sl_insC_E {κ : Type} [DecidableEq κ] {lt : κ → κ → Bool} {key : EventM → κ} (or_ : Ord lt) {cp : EventM → EventM → Int} (hcp : Cmps lt key cp) (f : FuncId) (first cap : Array Value) (hf : callable Tryz.prog f = true) (hA : AnsC Tryz.prog f first cap mkE cp)
    (A : Option Addr) (c : Nat) (P xs S : List EventM) (N a b : Nat) (w0 : World) (hfs : List PH) (hm : Mod hfs [rwE A c (P ++ xs ++ S)] w0) (ha : a = P.length) (hb : b = a + xs.length) (hN : N = b + S.length) (hn : N ≤ 1000000) :
    Calls Tryz.prog 182 #[.slice A N c, .int .i64 a, .int .i64 b, .func (.func f) first cap] w0 fun e w' => ∃ v Rs', e = .returned v ∧ (v = .tuple #[] ∧ ∃ ys, SameBy key xs ys ∧ Rise lt key ys ∧ ys.length = xs.length ∧ Rs' = [rwE A c (P ++ ys ++ S)]) ∧ Mod hfs Rs' w' ∧ Oth w0 w' := by
  refine enterN (tab := tab) Tryz.func182 rfl Tryz.ntmps182 rfl (args := [_, _, _, _]) rfl hm ?_
  refine VC_sound tabOk 100 ?_
  refine ⟨_, wrap_i64 (n := (a : Int) + 1) (by omega) (by omega), ?_⟩
  refine Go_loop (σ := Nat × List EventM) (fun s => [(0, .v (.slice A N c)), (1, .v (.int .i64 a)), (2, .v (.int .i64 b)), (3, .v (.func (.func f) first cap)), (8, .v (.int .i64 ((a + s.1 : Nat) : Int)))]) (fun s => [rwE A c (P ++ s.2 ++ S)]) (fun s => Upto lt key xs s.2 s.1 ∧ 1 ≤ s.1 ∧ s.1 ≤ xs.length + 1) (fun s => xs.length + 1 - s.1) (1, xs) ⟨Upto.start xs, by omega, by omega⟩ ⟨rfl, rfl, rfl, rfl, congrArg (Value.int .i64) (by omega), trivial⟩ (fun _ h => h) ?_
  rintro ⟨i, ys⟩ ⟨hu, hi1, hi2⟩
  dsimp only at hu hi1 hi2 ⊢
  have hyl := hu.len
  refine VC_sound tabOk 100 ?_
  refine ⟨fun hb => ?_, fun hb => ?_⟩
  · have hlt : i < xs.length := by simp at hb; omega
    refine Go_loop (σ := Nat × List EventM) (fun s => [(0, .v (.slice A N c)), (1, .v (.int .i64 a)), (2, .v (.int .i64 b)), (3, .v (.func (.func f) first cap)), (8, .v (.int .i64 ((a + i : Nat) : Int))), (9, .v (.int .i64 ((a + s.1 : Nat) : Int)))]) (fun s => [rwE A c (P ++ s.2 ++ S)]) (fun s => Ins lt key xs s.2 i s.1) (fun s => s.1) (i, ys) (hu.ins (by omega)) ⟨rfl, rfl, rfl, rfl, rfl, rfl, trivial⟩ (fun _ h => h) ?_
    rintro ⟨j, zs⟩ hI
    dsimp only at hI ⊢
    have hzl := hI.len
    have hji := hI.le
    refine VC_sound tabOk 100 ?_
    refine Go_with _ (fun w hm _ => hm.own_some (i := 0) rfl (ne_nil_of_lt (by simp; omega : 0 < (P ++ zs ++ S).length))) ?_
    rintro ⟨bb, o, rfl⟩
    show Go _ _ _ _
    refine Go_any mixed [14] [(0, false), (1, false), (2, false), (3, false), (4, false), (5, false), (6, false), (7, false), (9, false), (10, false), (11, false), (12, false), (8, false), (13, false), (14, true), (15, false), (16, false)] rfl (by kernel_rfl) (by kernel_rfl) [] (fun w => RdW w (some ⟨bb, o, none⟩) ((P ++ zs ++ S).flatMap encE)) (fun w w' hk h => h.old hk) (fun w hm _ => ⟨trivial, by exact Mod.own_rd (k := 8) (T := 65) (c := c) (i := 0) hm rfl⟩) ?_
    refine VC_sound tabOk 100 ?_
    refine ⟨fun hj => ?_, fun hj => ?_⟩
    · have h0 : 0 < j := by simp at hj; omega
      have hjl : j < zs.length := by omega
      have hj1 : j - 1 < zs.length := by omega
      have g1 := get_in (P := P) (S := S) hjl
      have g2 := get_in (P := P) (S := S) hj1
      rw [← ha] at g1 g2
      have x1 : (((a + j : Nat) : Int)).toNat = a + j := by omega
      have x2 : (((a + j : Nat) : Int) - 1).toNat = a + (j - 1) := by omega
      refine ⟨⟨by omega, by omega⟩, ?_⟩
      refine ⟨_, wrap_i64 (n := ((a + j : Nat) : Int) - 1) (by omega) (by omega), ?_⟩
      refine ⟨⟨by omega, by omega⟩, ?_⟩
      refine Go_first (v := mkE zs[j]) rfl rfl rfl rfl (fun w _ hw => rxLoadRow tabOk rfl encE_is rfl (fun h => by first | rfl | cases h) hw g1 (by simp only [addA, x1]) rfl) ?_
      refine VC_sound tabOk 100 ?_
      refine Go_first (v := mkE zs[j - 1]) rfl rfl rfl rfl (fun w _ hw => rxLoadRow tabOk rfl encE_is rfl (fun h => by first | rfl | cases h) hw g2 (by simp only [addA, x2]) rfl) ?_
      refine VC_sound tabOk 100 ?_
      refine Go_aloneM rfl rfl rfl (OpTo_pcall (v := .int .i64 (cp zs[j] zs[j - 1])) (av := first.toList ++ [mkE zs[j], mkE zs[j - 1]] ++ cap.toList) rfl rfl rfl rfl rfl hf (fun w hm hio => hA zs[j] zs[j - 1] w) ?_)
      refine VC_sound tabOk 100 ?_
      have hcp' := hcp zs[j] zs[j - 1]
      refine ⟨fun hl => ?_, fun hl => ?_⟩
      · rw [hcp'] at hl
        have hI2 := hI.swap or_ h0 hjl hl
        show Go _ _ _ _
        refine Go_any mixed [15, 17] [(0, false), (1, false), (2, false), (3, false), (4, false), (5, false), (6, false), (7, false), (8, false), (10, false), (11, false), (12, false), (9, false), (13, false), (14, false), (15, true), (16, false), (17, true)] rfl (by kernel_rfl) (by kernel_rfl) [] (fun w => RdW w (some ⟨bb, o, none⟩) ((P ++ zs ++ S).flatMap encE)) (fun w w' hk h => h.old hk) (fun w hm _ => ⟨trivial, by exact Mod.own_rd (k := 8) (T := 65) (c := c) (i := 0) hm rfl⟩) ?_
        refine VC_sound tabOk 100 ?_
        refine ⟨_, wrap_i64 (n := ((a + j : Nat) : Int) - 1) (by omega) (by omega), ?_⟩
        refine ⟨_, wrap_i64 (n := ((a + j : Nat) : Int) - 1) (by omega) (by omega), ?_⟩
        refine ⟨⟨by omega, by omega⟩, ?_⟩
        refine ⟨⟨by omega, by omega⟩, ?_⟩
        refine Go_first (v := mkE zs[j - 1]) rfl rfl rfl rfl (fun w _ hw => rxLoadRow tabOk rfl encE_is rfl (fun h => by first | rfl | cases h) hw g2 (by simp only [addA, x2]) rfl) ?_
        refine VC_sound tabOk 100 ?_
        refine Go_first (v := mkE zs[j]) rfl rfl rfl rfl (fun w _ hw => rxLoadRow tabOk rfl encE_is rfl (fun h => by first | rfl | cases h) hw g1 (by simp only [addA, x1]) rfl) ?_
        refine VC_sound tabOk 100 ?_
        refine ⟨⟨by omega, by omega⟩, ?_⟩
        show Go _ _ _ _
        refine Go_aloneM rfl rfl rfl (OpTo_storeRow tabOk encE_is (n := a + j) (u := zs[j - 1]) 0 rfl rfl rfl rfl rfl rfl rfl (by simp; omega) (by simp only [addA, x1]) rfl ?_)
        rw [ha, set_in hjl, ← ha]
        refine VC_sound tabOk 100 ?_
        refine ⟨⟨by omega, by omega⟩, ?_⟩
        show Go _ _ _ _
        refine Go_aloneM rfl rfl rfl (OpTo_storeRow tabOk encE_is (n := a + (j - 1)) (u := zs[j]) (xs := P ++ zs.set j zs[j - 1] ++ S) 0 rfl rfl rfl rfl rfl rfl rfl (by simp; omega) (by simp only [addA, x2]) rfl ?_)
        rw [ha, set_in (by simp; omega), ← ha]
        refine VC_sound tabOk 100 ?_
        refine ⟨_, wrap_i64 (n := ((a + j : Nat) : Int) - 1) (by omega) (by omega), ?_⟩
        exact Go_fin (j - 1, (zs.set j zs[j - 1]).set (j - 1) zs[j]) hI2 (by simp; omega) ⟨rfl, rfl, rfl, rfl, rfl, congrArg (Value.int .i64) (by omega), trivial⟩ (fun _ h => h)
      · rw [hcp'] at hl
        have hU := hI.done or_ (.inr ⟨h0, hjl, hl⟩)
        refine ⟨_, wrap_i64 (n := ((a + i : Nat) : Int) + 1) (by omega) (by omega), ?_⟩
        exact Go_fin (i + 1, zs) ⟨hU, by omega, by omega⟩ (by simp; omega) ⟨rfl, rfl, rfl, rfl, congrArg (Value.int .i64) (by omega), trivial⟩ (fun _ h => h)
    · have h0 : j = 0 := by simp at hj; omega
      have hU := hI.done or_ (.inl h0)
      refine ⟨_, wrap_i64 (n := ((a + i : Nat) : Int) + 1) (by omega) (by omega), ?_⟩
      exact Go_fin (i + 1, zs) ⟨hU, by omega, by omega⟩ (by simp; omega) ⟨rfl, rfl, rfl, rfl, congrArg (Value.int .i64) (by omega), trivial⟩ (fun _ h => h)
  · have hge : xs.length ≤ i := by simp at hb; omega
    exact ⟨_, ⟨rfl, ys, hu.same, hu.rise (by omega), hyl, rfl⟩, fun _ _ h => h⟩

/-- Half of it. -/
theorem sym_half_E (x y q : Nat) (h : q = (x + y) / 2) : ((x : Int) + (y : Int)) / 2 = (q : Int) := by omega

set_option maxHeartbeats 4000000 in
theorem sl_sym1_E {κ : Type} [DecidableEq κ] {lt : κ → κ → Bool} {key : EventM → κ} (or_ : Ord lt) {cp : EventM → EventM → Int} (hcp : Cmps lt key cp) (f : FuncId) (first cap : Array Value) (hf : callable Tryz.prog f = true) (hA : AnsC Tryz.prog f first cap mkE cp)
    (A : Option Addr) (c : Nat) (P : List EventM) (x : EventM) (V S : List EventM) (N a m b : Nat) (w0 : World) (hfs : List PH) (hm : Mod hfs [rwE A c (P ++ [x] ++ V ++ S)] w0) (hV : Rise lt key V) (ha : a = P.length) (hmm : m = a + 1) (hb : b = m + V.length) (hN : N = b + S.length) (hn : N ≤ 1000000) :
    Calls Tryz.prog 183 #[.slice A N c, .int .i64 a, .int .i64 m, .int .i64 b, .func (.func f) first cap] w0 fun e w' => ∃ v Rs', e = .returned v ∧ (v = .tuple #[] ∧ ∃ W, SameBy key ([x] ++ V) W ∧ Rise lt key W ∧ W.length = 1 + V.length ∧ Rs' = [rwE A c (P ++ W ++ S)]) ∧ Mod hfs Rs' w' ∧ Oth w0 w' := by
  have e0 : P ++ [x] ++ V ++ S = P ++ x :: (V ++ S) := by simp
  have g0 : (P ++ [x] ++ V ++ S)[a]? = some x := by rw [e0]; exact get_mid ha
  have hlen : (P ++ [x] ++ V ++ S).length = N := by simp; omega
  have gq : ∀ q (h : q < V.length), (P ++ [x] ++ V ++ S)[m + q]? = some V[q] := fun q h => by
    have := get_in (P := P ++ [x]) (X := V) (S := S) h
    rwa [show (P ++ [x]).length = m from by simp; omega] at this
  refine enterN (tab := tab) Tryz.func183 rfl Tryz.ntmps183 rfl (args := [_, _, _, _, _]) rfl hm ?_
  refine VC_sound tabOk 100 ?_
  refine ⟨_, wrap_i64 (n := (m : Int) - a) (by omega) (by omega), ?_⟩
  refine ⟨fun _ => ?_, fun h => by first | (simp at h; done) | (simp at h; omega) | (simp_all; done)⟩
  refine Go_loop (σ := Nat × Nat) (fun s => [(0, .v (.slice A N c)), (1, .v (.int .i64 a)), (2, .v (.int .i64 m)), (3, .v (.int .i64 b)), (4, .v (.func (.func f) first cap)), (10, .v (.int .i64 ((m + s.1 : Nat) : Int))), (11, .v (.int .i64 ((m + s.2 : Nat) : Int)))]) (fun _ => [rwE A c (P ++ [x] ++ V ++ S)])
    (fun s => s.1 ≤ s.2 ∧ s.2 ≤ V.length ∧ (s.1 = 0 ∨ ∃ y, V[s.1 - 1]? = some y ∧ lt (key y) (key x) = true) ∧ (s.2 = V.length ∨ ∃ y, V[s.2]? = some y ∧ lt (key y) (key x) = false)) (fun s => s.2 - s.1) (0, V.length) ⟨Nat.zero_le _, Nat.le_refl _, .inl rfl, .inl rfl⟩ ⟨rfl, rfl, rfl, rfl, rfl, rfl, congrArg (Value.int .i64) (by dsimp only; omega), trivial⟩ (fun _ h => h) ?_
  rintro ⟨lo, hi⟩ ⟨h1, h2, h3, h4⟩
  dsimp only at h1 h2 h3 h4 ⊢
  refine VC_sound tabOk 100 ?_
  refine ⟨fun hc => ?_, fun hc => ?_⟩
  · have hlt : lo < hi := by simp at hc; omega
    obtain ⟨q, hq⟩ : ∃ q, q = (lo + hi) / 2 := ⟨_, rfl⟩
    have hq1 : lo ≤ q ∧ q < hi := by omega
    have hqV : q < V.length := by omega
    refine ⟨_, wrap_i64 (n := ((m + lo : Nat) : Int) + ((m + hi : Nat) : Int)) (by omega) (by omega), ?_⟩
    refine ⟨_, wrap_u64 (n := ((m + lo : Nat) : Int) + ((m + hi : Nat) : Int)) (by omega) (by omega), ?_⟩
    refine Go_ops rfl (OpTo_bin (.int .u64 ((m + q : Nat) : Int)) rfl rfl rfl (fun w => by rw [← sym_half_E (m + lo) (m + hi) (m + q) (by omega)]; exact run_shr1 _ w) ?_)
    refine VC_sound tabOk 100 ?_
    refine ⟨_, wrap_i64 (n := ((m + q : Nat) : Int)) (by omega) (by omega), ?_⟩
    refine Go_with _ (fun w hm _ => hm.own_some (i := 0) rfl (ne_nil_of_lt (by omega : 0 < (P ++ [x] ++ V ++ S).length))) ?_
    rintro ⟨bb, o, rfl⟩
    show Go _ _ _ _
    refine Go_any mixed [9] [(0, false), (1, false), (2, false), (3, false), (5, false), (6, false), (7, false), (4, false), (8, false), (9, true), (10, false)] rfl (by kernel_rfl) (by kernel_rfl) [] (fun w => RdW w (some ⟨bb, o, none⟩) ((P ++ [x] ++ V ++ S).flatMap encE)) (fun w w' hk h => h.old hk) (fun w hm _ => ⟨trivial, by exact Mod.own_rd (k := 8) (T := 65) (c := c) (i := 0) hm rfl⟩) ?_
    refine VC_sound tabOk 100 ?_
    refine ⟨⟨by omega, by omega⟩, ?_⟩
    refine ⟨⟨by omega, by omega⟩, ?_⟩
    refine Go_first (v := mkE V[q]) rfl rfl rfl rfl (fun w _ hw => rxLoadRow tabOk rfl encE_is rfl (fun h => by first | rfl | cases h) hw (gq q hqV) (by simp only [addA]; rfl) rfl) ?_
    refine VC_sound tabOk 100 ?_
    refine Go_first (v := mkE x) rfl rfl rfl rfl (fun w _ hw => rxLoadRow tabOk rfl encE_is rfl (fun h => by first | rfl | cases h) hw g0 (by simp only [addA]; rfl) rfl) ?_
    refine VC_sound tabOk 100 ?_
    refine Go_aloneM rfl rfl rfl (OpTo_pcall (v := .int .i64 (cp V[q] x)) (av := first.toList ++ [mkE V[q], mkE x] ++ cap.toList) rfl rfl rfl rfl rfl hf (fun w hm hio => hA V[q] x w) ?_)
    refine VC_sound tabOk 100 ?_
    have hcp' := hcp V[q] x
    refine ⟨fun hl => ?_, fun hl => ?_⟩
    · rw [hcp'] at hl
      refine ⟨_, wrap_i64 (n := ((m + q : Nat) : Int) + 1) (by omega) (by omega), ?_⟩
      exact Go_fin (q + 1, hi) ⟨by omega, h2, .inr ⟨V[q], by simp, hl⟩, h4⟩ (by simp only; omega) ⟨rfl, rfl, rfl, rfl, rfl, congrArg (Value.int .i64) (by omega), rfl, trivial⟩ (fun _ h => h)
    · rw [hcp'] at hl
      exact Go_fin (lo, q) ⟨by omega, by omega, h3, .inr ⟨V[q], List.getElem?_eq_getElem hqV, hl⟩⟩ (by simp only; omega) ⟨rfl, rfl, rfl, rfl, rfl, rfl, rfl, trivial⟩ (fun _ h => h)
  · have he : lo = hi := by simp at hc; omega
    subst he
    have hok := put_ok or_ hV (x := x) (t := lo)
      (fun y hy => by
        obtain ⟨i, hi, ey⟩ := mem_take_at hy
        rcases h3 with h3 | ⟨z, hz, h3⟩
        · omega
        · exact or_.lt_of_le_lt (hV.at_ or_ ey hz (by omega)) h3)
      (fun y hy => by
        obtain ⟨i, hi, ey⟩ := mem_drop_at hy
        rcases h4 with h4 | ⟨z, hz, h4⟩
        · have := (List.getElem?_eq_some_iff.1 ey).1; omega
        · exact or_.le_trans h4 (hV.at_ or_ hz ey hi))
    have hstart : P ++ [x] ++ V ++ S = put P x V S 0 := by simp [put]
    refine Go_loop (σ := Nat) (fun j => [(0, .v (.slice A N c)), (10, .v (.int .i64 ((m + lo : Nat) : Int))), (13, .v (.int .i64 ((a + j : Nat) : Int)))]) (fun j => [rwE A c (put P x V S j)]) (fun j => j ≤ lo) (fun j => lo - j) 0 (Nat.zero_le _) ⟨rfl, rfl, rfl, trivial⟩ (fun _ h => by rw [← hstart]; exact h) ?_
    intro j hj
    dsimp only at hj ⊢
    refine VC_sound tabOk 100 ?_
    refine ⟨_, wrap_i64 (n := ((m + lo : Nat) : Int) - 1) (by omega) (by omega), ?_⟩
    refine ⟨fun hc => ?_, fun hc => ?_⟩
    · have hjl : j < lo := by simp at hc; omega
      have hjV : j < V.length := by omega
      have hpl := put_len (P := P) (S := S) (x := x) (V := V) (j := j) (by omega)
      have p0 := put_get (P := P) (S := S) (x := x) (V := V) (j := j) (by omega)
      have p1 := put_get1 (P := P) (S := S) (x := x) hjV
      have pu := put_up (P := P) (S := S) (x := x) hjV
      rw [← ha] at p0 p1 pu
      have x1 : (((a + j : Nat) : Int)).toNat = a + j := by omega
      have x2 : (((a + j : Nat) : Int) + 1).toNat = a + j + 1 := by omega
      refine Go_with _ (fun w hm _ => hm.own_some (i := 0) rfl (ne_nil_of_lt (by omega : 0 < (put P x V S j).length))) ?_
      rintro ⟨bb, o, rfl⟩
      show Go _ _ _ _
      refine Go_any mixed [15, 17] [(0, false), (1, false), (2, false), (3, false), (4, false), (5, false), (6, false), (7, false), (8, false), (10, false), (11, false), (12, false), (9, false), (13, false), (14, false), (15, true), (16, false), (17, true)] rfl (by kernel_rfl) (by kernel_rfl) [] (fun w => RdW w (some ⟨bb, o, none⟩) ((put P x V S j).flatMap encE)) (fun w w' hk h => h.old hk) (fun w hm _ => ⟨trivial, by exact Mod.own_rd (k := 8) (T := 65) (c := c) (i := 0) hm rfl⟩) ?_
      refine VC_sound tabOk 100 ?_
      refine ⟨_, wrap_i64 (n := ((a + j : Nat) : Int) + 1) (by omega) (by omega), ?_⟩
      refine ⟨_, wrap_i64 (n := ((a + j : Nat) : Int) + 1) (by omega) (by omega), ?_⟩
      refine ⟨⟨by omega, by omega⟩, ?_⟩
      refine ⟨⟨by omega, by omega⟩, ?_⟩
      refine Go_first (v := mkE V[j]) rfl rfl rfl rfl (fun w _ hw => rxLoadRow tabOk rfl encE_is rfl (fun h => by first | rfl | cases h) hw p1 (by simp only [addA, x2]) rfl) ?_
      refine VC_sound tabOk 100 ?_
      refine Go_first (v := mkE x) rfl rfl rfl rfl (fun w _ hw => rxLoadRow tabOk rfl encE_is rfl (fun h => by first | rfl | cases h) hw p0 (by simp only [addA, x1]) rfl) ?_
      refine VC_sound tabOk 100 ?_
      refine ⟨⟨by omega, by omega⟩, ?_⟩
      show Go _ _ _ _
      refine Go_aloneM rfl rfl rfl (OpTo_storeRow tabOk encE_is (n := a + j) (u := V[j]) 0 rfl rfl rfl rfl rfl rfl rfl (by omega) (by simp only [addA, x1]) rfl ?_)
      refine VC_sound tabOk 100 ?_
      refine ⟨⟨by omega, by omega⟩, ?_⟩
      show Go _ _ _ _
      refine Go_aloneM rfl rfl rfl (OpTo_storeRow tabOk encE_is (n := a + j + 1) (u := x) (xs := (put P x V S j).set (a + j) V[j]) 0 rfl rfl rfl rfl rfl rfl rfl (by rw [List.length_set]; omega) (by simp only [addA, x2]) rfl ?_)
      refine VC_sound tabOk 100 ?_
      refine ⟨_, wrap_i64 (n := ((a + j : Nat) : Int) + 1) (by omega) (by omega), ?_⟩
      exact Go_fin (j + 1) (by omega) (by omega) ⟨rfl, rfl, congrArg (Value.int .i64) (by omega), trivial⟩ (fun _ h => by rw [← pu]; exact h)
    · have he : j = lo := by simp at hc; omega
      subst he
      exact ⟨_, ⟨rfl, _, hok.1, hok.2, by simp; omega, rfl⟩, fun _ _ h => h⟩

set_option maxHeartbeats 4000000 in
theorem sl_sym2_E {κ : Type} [DecidableEq κ] {lt : κ → κ → Bool} {key : EventM → κ} (or_ : Ord lt) {cp : EventM → EventM → Int} (hcp : Cmps lt key cp) (f : FuncId) (first cap : Array Value) (hf : callable Tryz.prog f = true) (hA : AnsC Tryz.prog f first cap mkE cp)
    (A : Option Addr) (c : Nat) (P V : List EventM) (x : EventM) (S : List EventM) (N a m b : Nat) (w0 : World) (hfs : List PH) (hm : Mod hfs [rwE A c (P ++ V ++ [x] ++ S)] w0) (hV : Rise lt key V) (ha : a = P.length) (hV2 : 2 ≤ V.length) (hmm : m = a + V.length) (hb : b = m + 1) (hN : N = b + S.length) (hn : N ≤ 1000000) :
    Calls Tryz.prog 183 #[.slice A N c, .int .i64 a, .int .i64 m, .int .i64 b, .func (.func f) first cap] w0 fun e w' => ∃ v Rs', e = .returned v ∧ (v = .tuple #[] ∧ ∃ W, SameBy key (V ++ [x]) W ∧ Rise lt key W ∧ W.length = V.length + 1 ∧ Rs' = [rwE A c (P ++ W ++ S)]) ∧ Mod hfs Rs' w' ∧ Oth w0 w' := by
  have e0 : P ++ V ++ [x] ++ S = (P ++ V) ++ x :: S := by simp
  have g0 : (P ++ V ++ [x] ++ S)[m]? = some x := by rw [e0]; exact get_mid (by simp; omega)
  have hlen : (P ++ V ++ [x] ++ S).length = N := by simp; omega
  have gq : ∀ q (h : q < V.length), (P ++ V ++ [x] ++ S)[a + q]? = some V[q] := fun q h => by
    have := get_in (P := P) (X := V) (S := [x] ++ S) h
    rwa [← List.append_assoc, ← ha] at this
  refine enterN (tab := tab) Tryz.func183 rfl Tryz.ntmps183 rfl (args := [_, _, _, _, _]) rfl hm ?_
  refine VC_sound tabOk 100 ?_
  refine ⟨_, wrap_i64 (n := (m : Int) - a) (by omega) (by omega), ?_⟩
  refine ⟨fun h => by first | (simp at h; done) | (simp at h; omega) | (simp_all; done), fun _ => ?_⟩
  refine ⟨_, wrap_i64 (n := (b : Int) - m) (by omega) (by omega), ?_⟩
  refine ⟨fun _ => ?_, fun h => by first | (simp at h; done) | (simp at h; omega) | (simp_all; done)⟩
  refine Go_loop (σ := Nat × Nat) (fun s => [(0, .v (.slice A N c)), (1, .v (.int .i64 a)), (2, .v (.int .i64 m)), (3, .v (.int .i64 b)), (4, .v (.func (.func f) first cap)), (14, .v (.int .i64 ((a + s.1 : Nat) : Int))), (15, .v (.int .i64 ((a + s.2 : Nat) : Int)))]) (fun _ => [rwE A c (P ++ V ++ [x] ++ S)])
    (fun s => s.1 ≤ s.2 ∧ s.2 ≤ V.length ∧ (s.1 = 0 ∨ ∃ y, V[s.1 - 1]? = some y ∧ lt (key x) (key y) = false) ∧ (s.2 = V.length ∨ ∃ y, V[s.2]? = some y ∧ lt (key x) (key y) = true)) (fun s => s.2 - s.1) (0, V.length) ⟨Nat.zero_le _, Nat.le_refl _, .inl rfl, .inl rfl⟩ ⟨rfl, rfl, rfl, rfl, rfl, rfl, congrArg (Value.int .i64) (by dsimp only; omega), trivial⟩ (fun _ h => h) ?_
  rintro ⟨lo, hi⟩ ⟨h1, h2, h3, h4⟩
  dsimp only at h1 h2 h3 h4 ⊢
  refine VC_sound tabOk 100 ?_
  refine ⟨fun hc => ?_, fun hc => ?_⟩
  · have hlt : lo < hi := by simp at hc; omega
    obtain ⟨q, hq⟩ : ∃ q, q = (lo + hi) / 2 := ⟨_, rfl⟩
    have hq1 : lo ≤ q ∧ q < hi := by omega
    have hqV : q < V.length := by omega
    refine ⟨_, wrap_i64 (n := ((a + lo : Nat) : Int) + ((a + hi : Nat) : Int)) (by omega) (by omega), ?_⟩
    refine ⟨_, wrap_u64 (n := ((a + lo : Nat) : Int) + ((a + hi : Nat) : Int)) (by omega) (by omega), ?_⟩
    refine Go_ops rfl (OpTo_bin (.int .u64 ((a + q : Nat) : Int)) rfl rfl rfl (fun w => by rw [← sym_half_E (a + lo) (a + hi) (a + q) (by omega)]; exact run_shr1 _ w) ?_)
    refine VC_sound tabOk 100 ?_
    refine ⟨_, wrap_i64 (n := ((a + q : Nat) : Int)) (by omega) (by omega), ?_⟩
    refine Go_with _ (fun w hm _ => hm.own_some (i := 0) rfl (ne_nil_of_lt (by omega : 0 < (P ++ V ++ [x] ++ S).length))) ?_
    rintro ⟨bb, o, rfl⟩
    show Go _ _ _ _
    refine Go_any mixed [9] [(0, false), (1, false), (2, false), (3, false), (5, false), (6, false), (7, false), (4, false), (8, false), (9, true), (10, false), (11, false)] rfl (by kernel_rfl) (by kernel_rfl) [] (fun w => RdW w (some ⟨bb, o, none⟩) ((P ++ V ++ [x] ++ S).flatMap encE)) (fun w w' hk h => h.old hk) (fun w hm _ => ⟨trivial, by exact Mod.own_rd (k := 8) (T := 65) (c := c) (i := 0) hm rfl⟩) ?_
    refine VC_sound tabOk 100 ?_
    refine ⟨⟨by omega, by omega⟩, ?_⟩
    refine ⟨⟨by omega, by omega⟩, ?_⟩
    refine Go_first (v := mkE x) rfl rfl rfl rfl (fun w _ hw => rxLoadRow tabOk rfl encE_is rfl (fun h => by first | rfl | cases h) hw g0 (by simp only [addA]; rfl) rfl) ?_
    refine VC_sound tabOk 100 ?_
    refine Go_first (v := mkE V[q]) rfl rfl rfl rfl (fun w _ hw => rxLoadRow tabOk rfl encE_is rfl (fun h => by first | rfl | cases h) hw (gq q hqV) (by simp only [addA]; rfl) rfl) ?_
    refine VC_sound tabOk 100 ?_
    refine Go_aloneM rfl rfl rfl (OpTo_pcall (v := .int .i64 (cp x V[q])) (av := first.toList ++ [mkE x, mkE V[q]] ++ cap.toList) rfl rfl rfl rfl rfl hf (fun w hm hio => hA x V[q] w) ?_)
    refine VC_sound tabOk 100 ?_
    have hcp' := hcp x V[q]
    refine ⟨fun hl => ?_, fun hl => ?_⟩
    · rw [hcp', Bool.not_eq_true'] at hl
      refine ⟨_, wrap_i64 (n := ((a + q : Nat) : Int) + 1) (by omega) (by omega), ?_⟩
      exact Go_fin (q + 1, hi) ⟨by omega, h2, .inr ⟨V[q], by simp, hl⟩, h4⟩ (by simp only; omega) ⟨rfl, rfl, rfl, rfl, rfl, congrArg (Value.int .i64) (by omega), rfl, trivial⟩ (fun _ h => h)
    · rw [hcp', Bool.not_eq_false'] at hl
      exact Go_fin (lo, q) ⟨by omega, by omega, h3, .inr ⟨V[q], List.getElem?_eq_getElem hqV, hl⟩⟩ (by simp only; omega) ⟨rfl, rfl, rfl, rfl, rfl, rfl, rfl, trivial⟩ (fun _ h => h)
  · have he : lo = hi := by simp at hc; omega
    subst he
    have hok := put_ok' or_ hV (x := x) (t := lo)
      (fun y hy => by
        obtain ⟨i, hi, ey⟩ := mem_take_at hy
        rcases h3 with h3 | ⟨z, hz, h3⟩
        · omega
        · exact or_.le_trans (hV.at_ or_ ey hz (by omega)) h3)
      (fun y hy => by
        obtain ⟨i, hi, ey⟩ := mem_drop_at hy
        rcases h4 with h4 | ⟨z, hz, h4⟩
        · have := (List.getElem?_eq_some_iff.1 ey).1; omega
        · exact or_.lt_of_lt_le h4 (hV.at_ or_ hz ey hi))
    have hstart : P ++ V ++ [x] ++ S = put P x V S V.length := by simp [put]
    refine Go_loop (σ := Nat) (fun j => [(0, .v (.slice A N c)), (14, .v (.int .i64 ((a + lo : Nat) : Int))), (17, .v (.int .i64 ((a + j : Nat) : Int)))]) (fun j => [rwE A c (put P x V S j)]) (fun j => lo ≤ j ∧ j ≤ V.length) (fun j => j) V.length ⟨h2, Nat.le_refl _⟩ ⟨rfl, rfl, congrArg (Value.int .i64) (by omega), trivial⟩ (fun _ h => by rw [← hstart]; exact h) ?_
    intro j1 ⟨hj, hj'⟩
    dsimp only at hj hj' ⊢
    refine VC_sound tabOk 100 ?_
    refine ⟨fun hc => ?_, fun hc => ?_⟩
    · obtain ⟨j, rfl⟩ : ∃ j, j1 = j + 1 := ⟨j1 - 1, by simp at hc; omega⟩
      have hjl : lo ≤ j := by simp at hc; omega
      have hjV : j < V.length := by omega
      have hpl := put_len (P := P) (S := S) (x := x) (V := V) (j := j + 1) (by omega)
      have p0 := put_get (P := P) (S := S) (x := x) (V := V) (j := j + 1) (by omega)
      have p1 := put_get0 (P := P) (S := S) (x := x) hjV
      have pu := put_down (P := P) (S := S) (x := x) hjV
      rw [← ha] at p0 p1 pu
      have x1 : (((a + (j + 1) : Nat) : Int)).toNat = a + (j + 1) := by omega
      have x2 : (((a + (j + 1) : Nat) : Int) - 1).toNat = a + j := by omega
      refine Go_with _ (fun w hm _ => hm.own_some (i := 0) rfl (ne_nil_of_lt (by omega : 0 < (put P x V S (j + 1)).length))) ?_
      rintro ⟨bb, o, rfl⟩
      show Go _ _ _ _
      refine Go_any mixed [15, 17] [(0, false), (1, false), (2, false), (3, false), (4, false), (5, false), (6, false), (7, false), (8, false), (10, false), (11, false), (12, false), (9, false), (13, false), (14, false), (15, true), (16, false), (17, true)] rfl (by kernel_rfl) (by kernel_rfl) [] (fun w => RdW w (some ⟨bb, o, none⟩) ((put P x V S (j + 1)).flatMap encE)) (fun w w' hk h => h.old hk) (fun w hm _ => ⟨trivial, by exact Mod.own_rd (k := 8) (T := 65) (c := c) (i := 0) hm rfl⟩) ?_
      refine VC_sound tabOk 100 ?_
      refine ⟨_, wrap_i64 (n := ((a + (j + 1) : Nat) : Int) - 1) (by omega) (by omega), ?_⟩
      refine ⟨_, wrap_i64 (n := ((a + (j + 1) : Nat) : Int) - 1) (by omega) (by omega), ?_⟩
      refine ⟨⟨by omega, by omega⟩, ?_⟩
      refine ⟨⟨by omega, by omega⟩, ?_⟩
      refine Go_first (v := mkE V[j]) rfl rfl rfl rfl (fun w _ hw => rxLoadRow tabOk rfl encE_is rfl (fun h => by first | rfl | cases h) hw p1 (by simp only [addA, x2]) rfl) ?_
      refine VC_sound tabOk 100 ?_
      refine Go_first (v := mkE x) rfl rfl rfl rfl (fun w _ hw => rxLoadRow tabOk rfl encE_is rfl (fun h => by first | rfl | cases h) hw p0 (by simp only [addA, x1]) rfl) ?_
      refine VC_sound tabOk 100 ?_
      refine ⟨⟨by omega, by omega⟩, ?_⟩
      show Go _ _ _ _
      refine Go_aloneM rfl rfl rfl (OpTo_storeRow tabOk encE_is (n := a + (j + 1)) (u := V[j]) 0 rfl rfl rfl rfl rfl rfl rfl (by omega) (by simp only [addA, x1]) rfl ?_)
      refine VC_sound tabOk 100 ?_
      refine ⟨⟨by omega, by omega⟩, ?_⟩
      show Go _ _ _ _
      refine Go_aloneM rfl rfl rfl (OpTo_storeRow tabOk encE_is (n := a + j) (u := x) (xs := (put P x V S (j + 1)).set (a + (j + 1)) V[j]) 0 rfl rfl rfl rfl rfl rfl rfl (by rw [List.length_set]; omega) (by simp only [addA, x2]) rfl ?_)
      refine VC_sound tabOk 100 ?_
      refine ⟨_, wrap_i64 (n := ((a + (j + 1) : Nat) : Int) - 1) (by omega) (by omega), ?_⟩
      exact Go_fin j ⟨by omega, by omega⟩ (by omega) ⟨rfl, rfl, congrArg (Value.int .i64) (by omega), trivial⟩ (fun _ h => by rw [← pu]; exact h)
    · have he : j1 = lo := by simp at hc; omega
      subst he
      exact ⟨_, ⟨rfl, _, hok.1, hok.2, by simp; omega, rfl⟩, fun _ _ h => h⟩

/-- What merging two rows comes to. -/
def MrgE {κ : Type} [DecidableEq κ] (lt : κ → κ → Bool) (key : EventM → κ) (A : Option Addr) (c : Nat) (P U V S : List EventM) (v : Value) (Rs' : List Res) : Prop :=
  v = .tuple #[] ∧ ∃ W, SameBy key (U ++ V) W ∧ Rise lt key W ∧ W.length = U.length + V.length ∧ Rs' = [rwE A c (P ++ W ++ S)]

set_option maxHeartbeats 8000000 in
theorem sl_symN_E {κ : Type} [DecidableEq κ] {lt : κ → κ → Bool} {key : EventM → κ} (or_ : Ord lt) {cp : EventM → EventM → Int} (hcp : Cmps lt key cp) (f : FuncId) (first cap : Array Value) (hf : callable Tryz.prog f = true) (hA : AnsC Tryz.prog f first cap mkE cp)
    (A : Option Addr) (c : Nat) (P U V S : List EventM) (N a m b : Nat) (w0 : World) (hfs : List PH) (hm : Mod hfs [rwE A c (P ++ U ++ V ++ S)] w0) (hU : Rise lt key U) (hV : Rise lt key V) (hU2 : 2 ≤ U.length) (hV2 : 2 ≤ V.length) (ha : a = P.length) (hmm : m = a + U.length) (hb : b = m + V.length) (hN : N = b + S.length) (hn : N ≤ 1000000)
    (ih : ∀ (A : Option Addr) (P' U' V' S' : List EventM) (a' m' b' : Nat) (w : World) (hfs : List PH), Mod hfs [rwE A c (P' ++ U' ++ V' ++ S')] w → Rise lt key U' → Rise lt key V' → 0 < U'.length → 0 < V'.length → U'.length + V'.length < U.length + V.length → a' = P'.length → m' = a' + U'.length → b' = m' + V'.length → N = b' + S'.length →
      Calls Tryz.prog 183 #[.slice A N c, .int .i64 a', .int .i64 m', .int .i64 b', .func (.func f) first cap] w fun e w' => ∃ v Rs', e = .returned v ∧ MrgE lt key A c P' U' V' S' v Rs' ∧ Mod hfs Rs' w' ∧ Oth w w') :
    Calls Tryz.prog 183 #[.slice A N c, .int .i64 a, .int .i64 m, .int .i64 b, .func (.func f) first cap] w0 fun e w' => ∃ v Rs', e = .returned v ∧ MrgE lt key A c P U V S v Rs' ∧ Mod hfs Rs' w' ∧ Oth w0 w' := by
  have hlen : (P ++ U ++ V ++ S).length = N := by simp; omega
  have gU : ∀ q (h : q < U.length), (P ++ U ++ V ++ S)[a + q]? = some U[q] := fun q h => by
    have := get_in (P := P) (X := U) (S := V ++ S) h
    rwa [← List.append_assoc, ← ha] at this
  have gV : ∀ q (h : q < V.length), (P ++ U ++ V ++ S)[m + q]? = some V[q] := fun q h => by
    have := get_in (P := P ++ U) (X := V) (S := S) h
    rwa [show (P ++ U).length = m from by simp; omega] at this
  obtain ⟨h, hh⟩ : ∃ h, h = (U.length + V.length) / 2 := ⟨_, rfl⟩
  refine enterN (tab := tab) Tryz.func183 rfl Tryz.ntmps183 rfl (args := [_, _, _, _, _]) rfl hm ?_
  refine VC_sound tabOk 100 ?_
  refine ⟨_, wrap_i64 (n := (m : Int) - a) (by omega) (by omega), ?_⟩
  refine ⟨fun h => by first | (simp at h; done) | (simp at h; omega) | (simp_all; done), fun _ => ?_⟩
  refine ⟨_, wrap_i64 (n := (b : Int) - m) (by omega) (by omega), ?_⟩
  refine ⟨fun h => by first | (simp at h; done) | (simp at h; omega) | (simp_all; done), fun _ => ?_⟩
  refine ⟨_, wrap_i64 (n := (a : Int) + b) (by omega) (by omega), ?_⟩
  refine ⟨_, wrap_u64 (n := (a : Int) + b) (by omega) (by omega), ?_⟩
  refine Go_ops rfl (OpTo_bin (.int .u64 ((a + h : Nat) : Int)) rfl rfl rfl (fun w => by rw [← sym_half_E a b (a + h) (by omega)]; exact run_shr1 _ w) ?_)
  refine VC_sound tabOk 100 ?_
  refine ⟨_, wrap_i64 (n := ((a + h : Nat) : Int)) (by omega) (by omega), ?_⟩
  refine ⟨_, wrap_i64 (n := ((a + h : Nat) : Int) + m) (by omega) (by omega), ?_⟩
  rw [show ((a + h : Nat) : Int) + m = ((a + h + m : Nat) : Int) from by omega]
  refine Go_join (E := ?jE) (k := ?jk) (σ := Nat × Nat) (fun s => [(0, .v (.slice A N c)), (1, .v (.int .i64 a)), (2, .v (.int .i64 m)), (3, .v (.int .i64 b)), (4, .v (.func (.func f) first cap)), (18, .v (.int .i64 ((a + h : Nat) : Int))), (19, .v (.int .i64 ((a + h + m : Nat) : Int))), (20, .v (.int .i64 ((a + s.1 : Nat) : Int))), (21, .v (.int .i64 ((a + s.2 : Nat) : Int))), (22, .v (.int .i64 (((a + h + m : Nat) : Int) - 1)))]) (fun _ => [rwE A c (P ++ U ++ V ++ S)])
    (fun s => s.1 ≤ s.2 ∧ s.2 ≤ U.length ∧ s.2 ≤ h ∧ h ≤ s.1 + V.length ∧ (s.1 = 0 ∨ h = s.1 + V.length) ∧ (s.2 = U.length ∨ s.2 = h)) ?jm ?jr
  case jm =>
    intro J
    refine ⟨fun hc => ?_, fun hc => ?_⟩
    · have hgt : h < U.length := by simp at hc; omega
      refine ⟨_, wrap_i64 (n := ((a + h + m : Nat) : Int) - b) (by omega) (by omega), ?_⟩
      refine ⟨_, wrap_i64 (n := ((a + h + m : Nat) : Int) - 1) (by omega) (by omega), ?_⟩
      refine J (h - V.length, h) ?_ _ _ ?_ ?_
      · exact ⟨by dsimp only; omega, by dsimp only; omega, by dsimp only; omega, by dsimp only; omega, .inr (by dsimp only; omega), .inr rfl⟩
      · exact ⟨rfl, rfl, rfl, rfl, rfl, rfl, rfl, congrArg (Value.int .i64) (by dsimp only; omega), rfl, rfl, trivial⟩
      · exact fun _ h => h
    · have hle : U.length ≤ h := by simp at hc; omega
      refine ⟨_, wrap_i64 (n := ((a + h + m : Nat) : Int) - 1) (by omega) (by omega), ?_⟩
      refine J (0, U.length) ?_ _ _ ?_ ?_
      · exact ⟨by dsimp only; omega, by dsimp only; omega, by dsimp only; omega, by dsimp only; omega, .inl rfl, .inl rfl⟩
      · exact ⟨rfl, rfl, rfl, rfl, rfl, rfl, rfl, rfl, congrArg (Value.int .i64) (by dsimp only; omega), rfl, trivial⟩
      · exact fun _ h => h
  case jr =>
    rintro ⟨T0, T1⟩ ⟨t1, t2, t3, t4, t5, t6⟩
    dsimp only at t1 t2 t3 t4 t5 t6 ⊢
    refine Go_loop (σ := Nat × Nat) (fun s => [(0, .v (.slice A N c)), (1, .v (.int .i64 a)), (2, .v (.int .i64 m)), (3, .v (.int .i64 b)), (4, .v (.func (.func f) first cap)), (18, .v (.int .i64 ((a + h : Nat) : Int))), (19, .v (.int .i64 ((a + h + m : Nat) : Int))), (20, .v (.int .i64 ((a + s.1 : Nat) : Int))), (21, .v (.int .i64 ((a + s.2 : Nat) : Int))), (22, .v (.int .i64 (((a + h + m : Nat) : Int) - 1)))]) (fun _ => [rwE A c (P ++ U ++ V ++ S)])
      (fun s => T0 ≤ s.1 ∧ s.1 ≤ s.2 ∧ s.2 ≤ T1 ∧ (s.1 = T0 ∨ ∃ x y, U[s.1 - 1]? = some x ∧ V[h - s.1]? = some y ∧ lt (key y) (key x) = false) ∧ (s.2 = T1 ∨ ∃ x y, U[s.2]? = some x ∧ V[h - s.2 - 1]? = some y ∧ lt (key y) (key x) = true)) (fun s => s.2 - s.1) (T0, T1) ⟨Nat.le_refl _, t1, Nat.le_refl _, .inl rfl, .inl rfl⟩ ⟨rfl, rfl, rfl, rfl, rfl, rfl, rfl, rfl, rfl, rfl, trivial⟩ (fun _ h => h) ?_
    rintro ⟨lo, hi⟩ ⟨h0, h1, h2, h3, h4⟩
    dsimp only at h0 h1 h2 h3 h4 ⊢
    refine VC_sound tabOk 100 ?_
    refine ⟨fun hc => ?_, fun hc => ?_⟩
    · have hlt : lo < hi := by simp at hc; omega
      obtain ⟨q, hq⟩ : ∃ q, q = (lo + hi) / 2 := ⟨_, rfl⟩
      have hq1 : lo ≤ q ∧ q < hi := by omega
      have hqU : q < U.length := by omega
      have hqV : h - q - 1 < V.length := by omega
      refine ⟨_, wrap_i64 (n := ((a + lo : Nat) : Int) + ((a + hi : Nat) : Int)) (by omega) (by omega), ?_⟩
      refine ⟨_, wrap_u64 (n := ((a + lo : Nat) : Int) + ((a + hi : Nat) : Int)) (by omega) (by omega), ?_⟩
      refine Go_ops rfl (OpTo_bin (.int .u64 ((a + q : Nat) : Int)) rfl rfl rfl (fun w => by rw [← sym_half_E (a + lo) (a + hi) (a + q) (by omega)]; exact run_shr1 _ w) ?_)
      refine VC_sound tabOk 100 ?_
      refine ⟨_, wrap_i64 (n := ((a + q : Nat) : Int)) (by omega) (by omega), ?_⟩
      refine Go_with _ (fun w hm _ => hm.own_some (i := 0) rfl (ne_nil_of_lt (by omega : 0 < (P ++ U ++ V ++ S).length))) ?_
      rintro ⟨bb, o, rfl⟩
      have x1 : (((a + h + m : Nat) : Int) - 1 - ((a + q : Nat) : Int)).toNat = m + (h - q - 1) := by omega
      show Go _ _ _ _
      refine Go_any mixed [11] [(0, false), (1, false), (2, false), (3, false), (4, false), (5, false), (7, false), (8, false), (9, false), (6, false), (10, false), (11, true), (12, false), (13, false)] rfl (by kernel_rfl) (by kernel_rfl) [] (fun w => RdW w (some ⟨bb, o, none⟩) ((P ++ U ++ V ++ S).flatMap encE)) (fun w w' hk h => h.old hk) (fun w hm _ => ⟨trivial, by exact Mod.own_rd (k := 8) (T := 65) (c := c) (i := 0) hm rfl⟩) ?_
      refine VC_sound tabOk 100 ?_
      refine ⟨_, wrap_i64 (n := ((a + h + m : Nat) : Int) - 1 - ((a + q : Nat) : Int)) (by omega) (by omega), ?_⟩
      refine ⟨⟨by omega, by omega⟩, ?_⟩
      refine ⟨⟨by omega, by omega⟩, ?_⟩
      refine Go_first (v := mkE V[h - q - 1]) rfl rfl rfl rfl (fun w _ hw => rxLoadRow tabOk rfl encE_is rfl (fun h => by first | rfl | cases h) hw (gV (h - q - 1) hqV) (by simp only [addA, x1]) rfl) ?_
      refine VC_sound tabOk 100 ?_
      refine Go_first (v := mkE U[q]) rfl rfl rfl rfl (fun w _ hw => rxLoadRow tabOk rfl encE_is rfl (fun h => by first | rfl | cases h) hw (gU q hqU) (by simp only [addA]; rfl) rfl) ?_
      refine VC_sound tabOk 100 ?_
      refine Go_aloneM rfl rfl rfl (OpTo_pcall (v := .int .i64 (cp V[h - q - 1] U[q])) (av := first.toList ++ [mkE V[h - q - 1], mkE U[q]] ++ cap.toList) rfl rfl rfl rfl rfl hf (fun w hm hio => hA V[h - q - 1] U[q] w) ?_)
      refine VC_sound tabOk 100 ?_
      have hcp' := hcp V[h - q - 1] U[q]
      refine ⟨fun hl => ?_, fun hl => ?_⟩
      · rw [hcp', Bool.not_eq_true'] at hl
        refine ⟨_, wrap_i64 (n := ((a + q : Nat) : Int) + 1) (by omega) (by omega), ?_⟩
        exact Go_fin (q + 1, hi) ⟨by dsimp only; omega, by dsimp only; omega, h2, .inr ⟨U[q], V[h - q - 1], by simp, by rw [show h - (q + 1) = h - q - 1 from by omega]; exact List.getElem?_eq_getElem hqV, hl⟩, h4⟩ (by simp only; omega) ⟨rfl, rfl, rfl, rfl, rfl, rfl, rfl, congrArg (Value.int .i64) (by omega), rfl, rfl, trivial⟩ (fun _ h => h)
      · rw [hcp', Bool.not_eq_false'] at hl
        exact Go_fin (lo, q) ⟨h0, by dsimp only; omega, by dsimp only; omega, h3, .inr ⟨U[q], V[h - q - 1], List.getElem?_eq_getElem hqU, List.getElem?_eq_getElem hqV, hl⟩⟩ (by simp only; omega) ⟨rfl, rfl, rfl, rfl, rfl, rfl, rfl, rfl, rfl, rfl, trivial⟩ (fun _ h => h)
    have he : lo = hi := by simp at hc; omega
    subst he
    clear hc h1
    obtain ⟨u, hu⟩ : ∃ u, u = h - lo := ⟨_, rfl⟩
    have huV : u ≤ V.length := by omega
    have c1 := cut_le or_ hU hV (t := lo) (u := u) (by
      rcases h3 with rfl | ⟨x, y, k1, k2, k3⟩
      · rcases t5 with rfl | t5
        · exact .inl rfl
        · exact .inr (.inl (by omega))
      · rw [hu]; exact .inr (.inr ⟨x, y, k1, k2, k3⟩))
    have c2 := cut_lt or_ hU hV (t := lo) (u := u) (by
      rcases h4 with rfl | ⟨x, y, k1, k2, k3⟩
      · rcases t6 with rfl | rfl
        · exact .inl (Nat.le_refl _)
        · exact .inr (.inl (by omega))
      · rw [hu]; exact .inr (.inr ⟨x, y, k1, k2, k3⟩))
    obtain ⟨A1, A2, B1, B2, eU, eV, lA1, lB1, d1, d2⟩ : ∃ A1 A2 B1 B2 : List EventM, U = A1 ++ A2 ∧ V = B1 ++ B2 ∧ A1.length = lo ∧ B1.length = u ∧ (∀ x ∈ A1, ∀ y ∈ B2, lt (key y) (key x) = false) ∧ (∀ y ∈ B1, ∀ x ∈ A2, lt (key y) (key x) = true) :=
      ⟨U.take lo, U.drop lo, V.take u, V.drop u, (List.take_append_drop _ _).symm, (List.take_append_drop _ _).symm, by simp; omega, by simp; omega, c1, c2⟩
    clear gU gV h3 h4
    subst eU eV
    have lU : (A1 ++ A2).length = lo + A2.length := by simp [lA1]
    have lV : (B1 ++ B2).length = u + B2.length := by simp [lB1]
    have rA1 := hU.left
    have rA2 := hU.right
    have rB1 := hV.left
    have rB2 := hV.right
    refine ⟨_, wrap_i64 (n := ((a + h + m : Nat) : Int) - ((a + lo : Nat) : Int)) (by omega) (by omega), ?_⟩
    rw [show ((a + h + m : Nat) : Int) - ((a + lo : Nat) : Int) = ((m + u : Nat) : Int) from by omega]
    by_cases k1 : 0 < A2.length
    · by_cases k2 : 0 < u
      · refine ⟨fun _ => ?_, fun h => by first | (simp at h; done) | (simp at h; omega) | (simp_all; done)⟩
        refine ⟨fun _ => ?_, fun h => by first | (simp at h; done) | (simp at h; omega) | (simp_all; done)⟩
        show Go _ _ _ _
        refine Go_ops rfl (OpTo_mcall [rwE A c ((P ++ A1) ++ A2 ++ B1 ++ (B2 ++ S))] [] (List.Perm.of_eq (by simp only [List.append_assoc, List.append_nil, List.nil_append])) rfl rfl rfl rfl rfl (by kernel_rfl) (fun w hb hm hio hsp k => sl_rotate_E A c (P ++ A1) A2 B1 (B2 ++ S) (.func (.func f) first cap) N (a + lo) m (m + u) w _ k k1 (by omega) (by simp; omega) (by omega) (by omega) (by simp; omega) hn) ?_)
        rintro _ _ ⟨rfl, rfl⟩
        refine VC_sound tabOk 100 ?_
        by_cases k3 : 0 < lo
        · refine ⟨fun _ => ?_, fun h => by first | (simp at h; done) | (simp at h; omega) | (simp_all; done)⟩
          refine ⟨fun _ => ?_, fun h => by first | (simp at h; done) | (simp at h; omega) | (simp_all; done)⟩
          show Go _ _ _ _
          refine Go_ops rfl (OpTo_mcall [rwE A c (P ++ A1 ++ B1 ++ (A2 ++ (B2 ++ S)))] [] (List.Perm.of_eq (by simp only [List.append_assoc, List.append_nil, List.nil_append])) rfl rfl rfl rfl rfl (by kernel_rfl) (fun w hb hm hio hsp k => ih A P A1 B1 (A2 ++ (B2 ++ S)) a (a + lo) (a + h) w _ k rA1 rB1 (by omega) (by omega) (by omega) ha (by omega) (by omega) (by simp; omega)) ?_)
          rintro _ _ ⟨rfl, W1, s1, r1, l1, rfl⟩
          refine VC_sound tabOk 100 ?_
          by_cases k4 : 0 < B2.length
          · refine ⟨fun _ => ?_, fun h => by first | (simp at h; done) | (simp at h; omega) | (simp_all; done)⟩
            refine ⟨fun _ => ?_, fun h => by first | (simp at h; done) | (simp at h; omega) | (simp_all; done)⟩
            show Go _ _ _ _
            refine Go_ops rfl (OpTo_mcall [rwE A c ((P ++ W1) ++ A2 ++ B2 ++ S)] [] (List.Perm.of_eq (by simp only [List.append_assoc, List.append_nil, List.nil_append])) rfl rfl rfl rfl rfl (by kernel_rfl) (fun w hb hm hio hsp k => ih A (P ++ W1) A2 B2 S (a + h) (m + u) b w _ k rA2 rB2 (by omega) (by omega) (by omega) (by simp; omega) (by omega) (by omega) hN) ?_)
            rintro _ _ ⟨rfl, W2, s2, r2, l2, rfl⟩
            refine VC_sound tabOk 100 ?_
            have mo := merge_ok or_ hU hV d1 d2 s1 r1 s2 r2
            exact ⟨_, ⟨rfl, W1 ++ W2, mo.1, mo.2, by first | (simp; done) | (simp; omega), rfl⟩, fun _ _ h => by simp only [List.append_assoc, List.append_nil, List.nil_append] at h ⊢; exact h⟩
          · refine ⟨fun _ => ?_, fun h => by first | (simp at h; done) | (simp at h; omega) | (simp_all; done)⟩
            refine ⟨fun h => by first | (simp at h; done) | (simp at h; omega) | (simp_all; done), fun _ => ?_⟩
            obtain rfl : B2 = [] := List.length_eq_zero_iff.1 (by omega)
            have mo := merge_ok or_ hU hV d1 d2 s1 r1 (SameBy.refl _ (A2 ++ [])) (by rw [List.append_nil]; exact rA2)
            exact ⟨_, ⟨rfl, W1 ++ (A2 ++ []), mo.1, mo.2, by first | (simp; done) | (simp; omega), rfl⟩, fun _ _ h => by simp only [List.append_assoc, List.append_nil, List.nil_append] at h ⊢; exact h⟩
        · refine ⟨fun h => by first | (simp at h; done) | (simp at h; omega) | (simp_all; done), fun _ => ?_⟩
          obtain rfl : A1 = [] := List.length_eq_zero_iff.1 (by omega)
          by_cases k4 : 0 < B2.length
          · refine ⟨fun _ => ?_, fun h => by first | (simp at h; done) | (simp at h; omega) | (simp_all; done)⟩
            refine ⟨fun _ => ?_, fun h => by first | (simp at h; done) | (simp at h; omega) | (simp_all; done)⟩
            show Go _ _ _ _
            refine Go_ops rfl (OpTo_mcall [rwE A c ((P ++ B1) ++ A2 ++ B2 ++ S)] [] (List.Perm.of_eq (by simp only [List.append_assoc, List.append_nil, List.nil_append])) rfl rfl rfl rfl rfl (by kernel_rfl) (fun w hb hm hio hsp k => ih A (P ++ B1) A2 B2 S (a + h) (m + u) b w _ k rA2 rB2 (by omega) (by omega) (by omega) (by simp; omega) (by omega) (by omega) hN) ?_)
            rintro _ _ ⟨rfl, W2, s2, r2, l2, rfl⟩
            refine VC_sound tabOk 100 ?_
            have mo := merge_ok or_ hU hV d1 d2 (SameBy.refl _ ([] ++ B1)) (by rw [List.nil_append]; exact rB1) s2 r2
            exact ⟨_, ⟨rfl, ([] ++ B1) ++ W2, mo.1, mo.2, by first | (simp; done) | (simp; omega), rfl⟩, fun _ _ h => by simp only [List.append_assoc, List.append_nil, List.nil_append] at h ⊢; exact h⟩
          · refine ⟨fun _ => ?_, fun h => by first | (simp at h; done) | (simp at h; omega) | (simp_all; done)⟩
            refine ⟨fun h => by first | (simp at h; done) | (simp at h; omega) | (simp_all; done), fun _ => ?_⟩
            obtain rfl : B2 = [] := List.length_eq_zero_iff.1 (by omega)
            have mo := merge_ok or_ hU hV d1 d2 (SameBy.refl _ ([] ++ B1)) (by rw [List.nil_append]; exact rB1) (SameBy.refl _ (A2 ++ [])) (by rw [List.append_nil]; exact rA2)
            exact ⟨_, ⟨rfl, ([] ++ B1) ++ (A2 ++ []), mo.1, mo.2, by first | (simp; done) | (simp; omega), rfl⟩, fun _ _ h => by simp only [List.append_assoc, List.append_nil, List.nil_append] at h ⊢; exact h⟩
      · refine ⟨fun _ => ?_, fun h => by first | (simp at h; done) | (simp at h; omega) | (simp_all; done)⟩
        refine ⟨fun h => by first | (simp at h; done) | (simp at h; omega) | (simp_all; done), fun _ => ?_⟩
        obtain rfl : B1 = [] := List.length_eq_zero_iff.1 (by omega)
        refine ⟨fun _ => ?_, fun h => by first | (simp at h; done) | (simp at h; omega) | (simp_all; done)⟩
        refine ⟨fun h => by first | (simp at h; done) | (simp at h; omega) | (simp_all; done), fun _ => ?_⟩
        refine ⟨fun _ => ?_, fun h => by first | (simp at h; done) | (simp at h; omega) | (simp_all; done)⟩
        refine ⟨fun _ => ?_, fun h => by first | (simp at h; done) | (simp at h; omega) | (simp_all; done)⟩
        show Go _ _ _ _
        refine Go_ops rfl (OpTo_mcall [rwE A c ((P ++ A1) ++ A2 ++ B2 ++ S)] [] (List.Perm.of_eq (by simp only [List.append_assoc, List.append_nil, List.nil_append])) rfl rfl rfl rfl rfl (by kernel_rfl) (fun w hb hm hio hsp k => ih A (P ++ A1) A2 B2 S (a + h) (m + u) b w _ k rA2 rB2 (by omega) (by omega) (by omega) (by simp; omega) (by omega) (by omega) hN) ?_)
        rintro _ _ ⟨rfl, W2, s2, r2, l2, rfl⟩
        refine VC_sound tabOk 100 ?_
        have mo := merge_ok or_ hU hV d1 d2 (SameBy.refl _ (A1 ++ [])) (by rw [List.append_nil]; exact rA1) s2 r2
        exact ⟨_, ⟨rfl, (A1 ++ []) ++ W2, mo.1, mo.2, by first | (simp; done) | (simp; omega), rfl⟩, fun _ _ h => by simp only [List.append_assoc, List.append_nil, List.nil_append] at h ⊢; exact h⟩
    · refine ⟨fun h => by first | (simp at h; done) | (simp at h; omega) | (simp_all; done), fun _ => ?_⟩
      obtain rfl : A2 = [] := List.length_eq_zero_iff.1 (by omega)
      refine ⟨fun _ => ?_, fun h => by first | (simp at h; done) | (simp at h; omega) | (simp_all; done)⟩
      by_cases k2 : 0 < u
      · refine ⟨fun _ => ?_, fun h => by first | (simp at h; done) | (simp at h; omega) | (simp_all; done)⟩
        show Go _ _ _ _
        refine Go_ops rfl (OpTo_mcall [rwE A c (P ++ A1 ++ B1 ++ (B2 ++ S))] [] (List.Perm.of_eq (by simp only [List.append_assoc, List.append_nil, List.nil_append])) rfl rfl rfl rfl rfl (by kernel_rfl) (fun w hb hm hio hsp k => ih A P A1 B1 (B2 ++ S) a (a + lo) (a + h) w _ k rA1 rB1 (by omega) (by omega) (by omega) ha (by omega) (by omega) (by simp; omega)) ?_)
        rintro _ _ ⟨rfl, W1, s1, r1, l1, rfl⟩
        refine VC_sound tabOk 100 ?_
        refine ⟨fun h => by first | (simp at h; done) | (simp at h; omega) | (simp_all; done), fun _ => ?_⟩
        have mo := merge_ok or_ hU hV d1 d2 s1 r1 (SameBy.refl _ ([] ++ B2)) (by rw [List.nil_append]; exact rB2)
        exact ⟨_, ⟨rfl, W1 ++ ([] ++ B2), mo.1, mo.2, by first | (simp; done) | (simp; omega), rfl⟩, fun _ _ h => by simp only [List.append_assoc, List.append_nil, List.nil_append] at h ⊢; exact h⟩
      · refine ⟨fun h => by first | (simp at h; done) | (simp at h; omega) | (simp_all; done), fun _ => ?_⟩
        refine ⟨fun h => by first | (simp at h; done) | (simp at h; omega) | (simp_all; done), fun _ => ?_⟩
        obtain rfl : B1 = [] := List.length_eq_zero_iff.1 (by omega)
        have mo := merge_ok or_ hU hV d1 d2 (SameBy.refl _ (A1 ++ [])) (by rw [List.append_nil]; exact rA1) (SameBy.refl _ ([] ++ B2)) (by rw [List.nil_append]; exact rB2)
        exact ⟨_, ⟨rfl, (A1 ++ []) ++ ([] ++ B2), mo.1, mo.2, by first | (simp; done) | (simp; omega), rfl⟩, fun _ _ h => by simp only [List.append_assoc, List.append_nil, List.nil_append] at h ⊢; exact h⟩

theorem sl_symMerge_E {κ : Type} [DecidableEq κ] {lt : κ → κ → Bool} {key : EventM → κ} (or_ : Ord lt) {cp : EventM → EventM → Int} (hcp : Cmps lt key cp) (f : FuncId) (first cap : Array Value) (hf : callable Tryz.prog f = true) (hA : AnsC Tryz.prog f first cap mkE cp) (c N : Nat) (hn : N ≤ 1000000) :
    ∀ (Z : Nat) (A : Option Addr) (P U V S : List EventM) (a m b : Nat) (w0 : World) (hfs : List PH), Mod hfs [rwE A c (P ++ U ++ V ++ S)] w0 → Rise lt key U → Rise lt key V → 0 < U.length → 0 < V.length → U.length + V.length ≤ Z → a = P.length → m = a + U.length → b = m + V.length → N = b + S.length →
      Calls Tryz.prog 183 #[.slice A N c, .int .i64 a, .int .i64 m, .int .i64 b, .func (.func f) first cap] w0 fun e w' => ∃ v Rs', e = .returned v ∧ MrgE lt key A c P U V S v Rs' ∧ Mod hfs Rs' w' ∧ Oth w0 w' := by
  intro Z
  induction Z with
  | zero => intros; omega
  | succ Z ih =>
    intro A P U V S a m b w0 hfs hm hU hV u0 v0 hZ ha hmm hb hN
    by_cases h1 : U.length = 1
    · obtain ⟨x, rfl⟩ := List.length_eq_one_iff.1 h1
      exact sl_sym1_E or_ hcp f first cap hf hA A c P x V S N a m b w0 hfs hm hV ha hmm hb hN hn
    · by_cases h2 : V.length = 1
      · obtain ⟨x, rfl⟩ := List.length_eq_one_iff.1 h2
        exact sl_sym2_E or_ hcp f first cap hf hA A c P U x S N a m b w0 hfs hm hU ha (by omega) hmm hb hN hn
      · exact sl_symN_E or_ hcp f first cap hf hA A c P U V S N a m b w0 hfs hm hU hV (by omega) (by omega) ha hmm hb hN hn
          (fun A P' U' V' S' a' m' b' w hfs k1 k2 k3 k4 k5 k6 k7 k8 k9 k10 => ih A P' U' V' S' a' m' b' w hfs k1 k2 k3 k4 k5 (by omega) k7 k8 k9 k10)

set_option maxHeartbeats 8000000 in
theorem sl_stable_E {κ : Type} [DecidableEq κ] {lt : κ → κ → Bool} {key : EventM → κ} (or_ : Ord lt) {cp : EventM → EventM → Int} (hcp : Cmps lt key cp) (f : FuncId) (first cap : Array Value) (hf : callable Tryz.prog f = true) (hA : AnsC Tryz.prog f first cap mkE cp)
    (A : Option Addr) (c : Nat) (xs : List EventM) (n : Nat) (w0 : World) (hfs : List PH) (hm : Mod hfs [rwE A c xs] w0) (hl : xs.length = n) (hn : n ≤ 100000) :
    Calls Tryz.prog 149 #[.slice A n c, .int .i64 n, .func (.func f) first cap] w0 fun e w' => ∃ v Rs', e = .returned v ∧ (v = .tuple #[] ∧ ∃ ys, SameBy key xs ys ∧ Rise lt key ys ∧ ys.length = n ∧ Rs' = [rwE A c ys]) ∧ Mod hfs Rs' w' ∧ Oth w0 w' := by
  refine enterN (tab := tab) Tryz.func149 rfl Tryz.ntmps149 rfl (args := [_, _, _]) rfl hm ?_
  refine VC_sound tabOk 100 ?_
  refine Go_loop (σ := List EventM × List EventM) (fun s => [(0, .v (.slice A n c)), (1, .v (.int .i64 n)), (2, .v (.func (.func f) first cap)), (6, .v (.int .i64 20)), (7, .v (.int .i64 s.1.length)), (8, .v (.int .i64 ((s.1.length + 20 : Nat) : Int)))]) (fun s => [rwE A c (s.1 ++ s.2)])
    (fun s => s.1.length + s.2.length = n ∧ SameBy key xs (s.1 ++ s.2) ∧ Chk lt key 20 s.1 ∧ ∃ q, s.1.length = q * 20) (fun s => s.2.length) ([], xs) ⟨by simpa using hl, SameBy.refl _ _, Chk.nil _, 0, by simp⟩ ⟨rfl, rfl, rfl, rfl, rfl, rfl, trivial⟩ (fun _ h => h) ?_
  rintro ⟨D, R⟩ ⟨h1, h2, h3, q, h4⟩
  dsimp only at h1 h2 h3 h4 ⊢
  refine VC_sound tabOk 100 ?_
  refine ⟨fun hc => ?_, fun hc => ?_⟩
  · have hR : 20 ≤ R.length := by simp at hc; omega
    have l1 : (R.take 20).length = 20 := by simp; omega
    have l2 : (R.drop 20).length = R.length - 20 := by simp
    show Go _ _ _ _
    refine Go_ops rfl (OpTo_mcall [rwE A c (D ++ R.take 20 ++ R.drop 20)] [] (List.Perm.of_eq (by rw [List.append_assoc, List.take_append_drop, List.append_nil])) rfl rfl rfl rfl rfl (by kernel_rfl) (fun w hb hm hio hsp k => sl_insC_E or_ hcp f first cap hf hA A c D (R.take 20) (R.drop 20) n D.length (D.length + 20) w _ k rfl (by rw [l1]) (by omega) (by omega)) ?_)
    rintro _ _ ⟨rfl, ys, s1, r1, e1, rfl⟩
    refine VC_sound tabOk 100 ?_
    refine ⟨_, wrap_i64 (n := ((D.length + 20 : Nat) : Int) + 20) (by omega) (by omega), ?_⟩
    have e2 : (D ++ ys).length = D.length + 20 := by simp; omega
    refine Go_fin (D ++ ys, R.drop 20) ⟨by dsimp only; omega, ?_, ?_, q + 1, by dsimp only; omega⟩ (by dsimp only; omega) ⟨rfl, rfl, rfl, rfl, congrArg (fun z : Nat => Value.int .i64 z) e2.symm, congrArg (Value.int .i64) (by dsimp only; omega), trivial⟩ (fun _ h => h)
    · refine h2.trans ?_
      dsimp only
      conv => lhs; rw [← List.take_append_drop 20 R]
      rw [List.append_assoc]
      exact (SameBy.refl _ D).append (s1.append (SameBy.refl _ _))
    · exact h3.append h4 (Chk.one r1 (by omega))
  · have hR : R.length < 20 := by simp at hc; omega
    show Go _ _ _ _
    refine Go_ops rfl (OpTo_mcall [rwE A c (D ++ R ++ [])] [] (List.Perm.of_eq (by rw [List.append_nil, List.append_nil])) rfl rfl rfl rfl rfl (by kernel_rfl) (fun w hb hm hio hsp k => sl_insC_E or_ hcp f first cap hf hA A c D R [] n D.length n w _ k rfl (by omega) (by simp) (by omega)) ?_)
    rintro _ _ ⟨rfl, ys0, s1, r1, e1, rfl⟩
    refine VC_sound tabOk 100 ?_
    refine Go_loop (σ := Nat × List EventM) (fun s => [(0, .v (.slice A n c)), (1, .v (.int .i64 n)), (2, .v (.func (.func f) first cap)), (6, .v (.int .i64 s.1))]) (fun s => [rwE A c s.2])
      (fun s => s.2.length = n ∧ SameBy key xs s.2 ∧ Chk lt key s.1 s.2 ∧ 20 ≤ s.1 ∧ s.1 ≤ 2 * n + 20) (fun s => n - s.1) (20, D ++ ys0) ⟨by simp; omega, h2.trans ((SameBy.refl _ D).append s1), h3.append h4 (Chk.one r1 (by omega)), Nat.le_refl _, by omega⟩ ⟨rfl, rfl, rfl, rfl, trivial⟩ (fun _ h => by simpa only [List.append_nil] using h) ?_
    clear h1 h2 h3 h4 hR s1 r1 e1 hc
    rintro ⟨bs, ys⟩ ⟨h1, h2, h3, h4, h5⟩
    dsimp only at h1 h2 h3 h4 h5 ⊢
    refine VC_sound tabOk 100 ?_
    refine ⟨fun hc => ?_, fun hc => ?_⟩
    · have hlt : bs < n := by simp at hc; omega
      refine ⟨_, wrap_i64 (n := (2 : Int) * bs) (by omega) (by omega), ?_⟩
      refine Go_loop (σ := List EventM × List EventM) (fun s => [(0, .v (.slice A n c)), (1, .v (.int .i64 n)), (2, .v (.func (.func f) first cap)), (6, .v (.int .i64 bs)), (7, .v (.int .i64 s.1.length)), (8, .v (.int .i64 ((s.1.length + 2 * bs : Nat) : Int)))]) (fun s => [rwE A c (s.1 ++ s.2)])
        (fun s => s.1.length + s.2.length = n ∧ SameBy key xs (s.1 ++ s.2) ∧ Chk lt key (2 * bs) s.1 ∧ Chk lt key bs s.2 ∧ ∃ q, s.1.length = q * (2 * bs)) (fun s => s.2.length) ([], ys) ⟨by simpa using h1, h2, Chk.nil _, h3, 0, by simp⟩ ⟨rfl, rfl, rfl, rfl, rfl, congrArg (Value.int .i64) (by simp), trivial⟩ (fun _ h => h) ?_
      rintro ⟨D, R⟩ ⟨g1, g2, g3, g4, q, g5⟩
      dsimp only at g1 g2 g3 g4 g5 ⊢
      have rU : Rise lt key (R.take bs) := g4.head
      refine VC_sound tabOk 100 ?_
      refine ⟨fun hc => ?_, fun hc => ?_⟩
      · have hR : 2 * bs ≤ R.length := by simp at hc; omega
        have l1 : (R.take bs).length = bs := by simp; omega
        have l2 : ((R.drop bs).take bs).length = bs := by simp; omega
        have l3 : (R.drop (2 * bs)).length = R.length - 2 * bs := by simp
        have eR : R.take bs ++ ((R.drop bs).take bs ++ R.drop (2 * bs)) = R := by
          rw [show 2 * bs = bs + bs from by omega, ← List.drop_drop, List.take_append_drop, List.take_append_drop]
        have rV : Rise lt key ((R.drop bs).take bs) := g4.tail.head
        refine ⟨_, wrap_i64 (n := (D.length : Int) + bs) (by omega) (by omega), ?_⟩
        rw [show (D.length : Int) + bs = ((D.length + bs : Nat) : Int) from by omega]
        show Go _ _ _ _
        refine Go_ops rfl (OpTo_mcall [rwE A c (D ++ R.take bs ++ (R.drop bs).take bs ++ R.drop (2 * bs))] [] (List.Perm.of_eq (by rw [List.append_nil, List.append_assoc, List.append_assoc, eR])) rfl rfl rfl rfl rfl (by kernel_rfl)
          (fun w hb hm hio hsp k => sl_symMerge_E or_ hcp f first cap hf hA c n (by omega) (2 * bs) A D (R.take bs) ((R.drop bs).take bs) (R.drop (2 * bs)) D.length (D.length + bs) (D.length + 2 * bs) w _ k rU rV (by omega) (by omega) (by omega) rfl (by omega) (by omega) (by omega)) ?_)
        rintro _ _ ⟨rfl, W, s1, r1, e1, rfl⟩
        refine VC_sound tabOk 100 ?_
        refine ⟨_, wrap_i64 (n := (2 : Int) * bs) (by omega) (by omega), ?_⟩
        refine ⟨_, wrap_i64 (n := ((D.length + 2 * bs : Nat) : Int) + 2 * bs) (by omega) (by omega), ?_⟩
        have e2 : (D ++ W).length = D.length + 2 * bs := by simp; omega
        refine Go_fin (D ++ W, R.drop (2 * bs)) ⟨by dsimp only; omega, ?_, ?_, ?_, q + 1, ?_⟩ (by dsimp only; omega) ⟨rfl, rfl, rfl, rfl, congrArg (fun z : Nat => Value.int .i64 z) e2.symm, congrArg (Value.int .i64) (by dsimp only; omega), trivial⟩ (fun _ h => h)
        · refine g2.trans ?_
          dsimp only
          conv => lhs; rw [← eR]
          rw [← List.append_assoc (R.take bs), List.append_assoc D]
          exact (SameBy.refl _ D).append (s1.append (SameBy.refl _ _))
        · exact g3.append g5 (Chk.one r1 (by omega))
        · have := g4.tail.tail
          rwa [List.drop_drop, show bs + bs = 2 * bs from by omega] at this
        · dsimp only; rw [e2, g5, Nat.add_mul, Nat.one_mul]
      · have hR : R.length < 2 * bs := by simp at hc; omega
        refine ⟨_, wrap_i64 (n := (D.length : Int) + bs) (by omega) (by omega), ?_⟩
        refine ⟨fun hk => ?_, fun hk => ?_⟩
        · have hR2 : bs < R.length := by simp at hk; omega
          have l1 : (R.take bs).length = bs := by simp; omega
          have l2 : (R.drop bs).length = R.length - bs := by simp
          have rV : Rise lt key (R.drop bs) := by
            have := g4.tail.head
            rwa [List.take_of_length_le (by omega)] at this
          rw [show (D.length : Int) + bs = ((D.length + bs : Nat) : Int) from by omega]
          show Go _ _ _ _
          refine Go_ops rfl (OpTo_mcall [rwE A c (D ++ R.take bs ++ R.drop bs ++ [])] [] (List.Perm.of_eq (by rw [List.append_nil, List.append_nil, List.append_assoc, List.take_append_drop])) rfl rfl rfl rfl rfl (by kernel_rfl)
            (fun w hb hm hio hsp k => sl_symMerge_E or_ hcp f first cap hf hA c n (by omega) (2 * bs) A D (R.take bs) (R.drop bs) [] D.length (D.length + bs) n w _ k rU rV (by omega) (by omega) (by omega) rfl (by omega) (by omega) (by simp)) ?_)
          rintro _ _ ⟨rfl, W, s1, r1, e1, rfl⟩
          refine VC_sound tabOk 100 ?_
          refine ⟨_, wrap_i64 (n := (bs : Int) * 2) (by omega) (by omega), ?_⟩
          rw [List.take_append_drop] at s1
          refine Go_fin (bs * 2, D ++ W) ⟨by simp; omega, g2.trans ((SameBy.refl _ D).append s1), ?_, by dsimp only; omega, by dsimp only; omega⟩ (by dsimp only; omega) ⟨rfl, rfl, rfl, congrArg (Value.int .i64) (by dsimp only; omega), trivial⟩ (fun _ h => by simpa only [List.append_nil] using h)
          dsimp only
          rw [Nat.mul_comm bs 2]
          exact g3.append g5 (Chk.one r1 (by omega))
        · have hR2 : R.length ≤ bs := by simp at hk; omega
          rw [List.take_of_length_le hR2] at rU
          refine ⟨_, wrap_i64 (n := (bs : Int) * 2) (by omega) (by omega), ?_⟩
          refine Go_fin (bs * 2, D ++ R) ⟨by simp; omega, g2, ?_, by dsimp only; omega, by dsimp only; omega⟩ (by dsimp only; omega) ⟨rfl, rfl, rfl, congrArg (Value.int .i64) (by dsimp only; omega), trivial⟩ (fun _ h => h)
          dsimp only
          rw [Nat.mul_comm bs 2]
          exact g3.append g5 (Chk.one rU (by omega))
    · have hge : n ≤ bs := by simp at hc; omega
      have hr := h3.head
      rw [List.take_of_length_le (by omega)] at hr
      exact ⟨_, ⟨rfl, ys, h2, hr, h1, rfl⟩, fun _ _ h => h⟩

theorem sl_sortStable_E {κ : Type} [DecidableEq κ] {lt : κ → κ → Bool} {key : EventM → κ} (or_ : Ord lt) {cp : EventM → EventM → Int} (hcp : Cmps lt key cp) (f : FuncId) (first cap : Array Value) (hf : callable Tryz.prog f = true) (hA : AnsC Tryz.prog f first cap mkE cp)
    (A : Option Addr) (c : Nat) (xs : List EventM) (w0 : World) (hfs : List PH) (hm : Mod hfs [rwE A c xs] w0) (hn : xs.length ≤ 100000) :
    Calls Tryz.prog 93 #[.slice A xs.length c, .func (.func f) first cap] w0 fun e w' => ∃ v Rs', e = .returned v ∧ (v = .tuple #[] ∧ ∃ ys, SameBy key xs ys ∧ Rise lt key ys ∧ ys.length = xs.length ∧ Rs' = [rwE A c ys]) ∧ Mod hfs Rs' w' ∧ Oth w0 w' := by
  refine enterN (tab := tab) Tryz.func93 rfl Tryz.ntmps93 rfl (args := [_, _]) rfl hm ?_
  refine VC_sound tabOk 100 ?_
  show Go _ _ _ _
  refine Go_ops rfl (OpTo_mcall [rwE A c xs] [] (List.Perm.of_eq (by simp)) rfl rfl rfl rfl rfl (by kernel_rfl) (fun w hb hm hio hsp k => sl_stable_E or_ hcp f first cap hf hA A c xs xs.length w _ k rfl hn) ?_)
  rintro _ _ ⟨rfl, ys, h1, h2, h3, rfl⟩
  refine VC_sound tabOk 100 ?_
  exact ⟨_, ⟨rfl, ys, h1, h2, h3, rfl⟩, fun _ _ h => h⟩

end Go.Proofs.YthpcahgdobnljaaGreat
