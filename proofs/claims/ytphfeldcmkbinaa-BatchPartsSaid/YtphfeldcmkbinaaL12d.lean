/- The law BatchNeeds: what its run comes to. -/
import Derived.Test.YtphfeldcmkbinaaL12c
import Derived.Test.YtphfeldcmkbinaaR12
set_option autoImplicit false
set_option linter.unusedVariables false
set_option linter.unusedSimpArgs false
namespace Go.Proofs.Ytphfeldcmkbinaa
open Go.RX Go Go.RowKit Go.ChangeShapes Go.WideShapes Go.ChangeAt


theorem RdW.front {w : World} {A : Option Addr} {cs ds : List Value} (h : RdW w A (cs ++ ds)) : RdW w A cs := by
  rcases h with h | ⟨b, o, h1, h2⟩
  · exact .inl (List.append_eq_nil_iff.1 h).1
  · refine .inr ⟨b, o, h1, fun j v hv => h2 j v ?_⟩
    rw [List.getElem?_append_left (List.getElem?_eq_some_iff.1 hv).1]; exact hv

theorem needs_same {R : List Int} (hR : okR R) (sn : List SnM) (e : EventM) : needsB (stE (txOf R)) sn e = needsB (rState R) sn e := by simp only [needsB, stE_txOf hR]
theorem free_same {R : List Int} (hR : okR R) (sn : List SnM) (l : List EventM) : freeB (stE (txOf R)) sn l = freeB (rState R) sn l := by
  rw [freeB, freeB]; congr 2; funext e; exact needs_same hR sn e

set_option maxHeartbeats 8000000 in
theorem l12_BatchNeeds (A : Option Addr) (c : Nat) (l : List BActM) (As : Option Addr) (cs : Nat) (xs : List Int) (a b' : Int) (Ao : Option Addr) (co : Nat) (os : List Int) (Ap : Option Addr) (cp : Nat) (ps : List Int) (n : Int) (w0 : World) (hr : RdW w0 A (l.flatMap encA)) (hok : ∀ z ∈ l, okA w0 z) (hs : RdW w0 As (xs.flatMap encU)) (hx : ∀ z ∈ xs, 0 ≤ z ∧ z ≤ 255) (ha : 0 ≤ a ∧ a ≤ 255) (hb : 0 ≤ b' ∧ b' ≤ 255)
    (ho : RdW w0 Ao (os.flatMap encU)) (hos : ∀ z ∈ os, 0 ≤ z ∧ z ≤ 255) (hp : RdW w0 Ap (ps.flatMap encU)) (hps : ∀ z ∈ ps, 0 ≤ z ∧ z ≤ 255) (hn : 0 ≤ n ∧ n ≤ 255) :
    Calls Try.prog 7 #[.slice A l.length c, .slice As xs.length cs, .int .u8 a, .int .u8 b', .slice Ao os.length co, .slice Ap ps.length cp, .int .u8 n] w0 fun e w' => e = .returned (.bool true) ∧ BelowD w0.heap.size w0 w' := by
  obtain ⟨K, hK, hK40⟩ := tmod_nat 40 (by decide) ha.1
  obtain ⟨J, hJ, hJ40⟩ := tmod_nat 40 (by decide) hb.1
  obtain ⟨N3, hN, hN3⟩ := tmod_nat 3 (by decide) hn.1
  refine enterP (tab := tab) Try.func7 rfl Try.ntmps7 rfl (args := [_, _, _, _, _, _, _]) rfl ?_
  refine VC_sound tabOk 100 ?_
  refine Go_ops rfl (OpTo_pcall (v := .bool true) rfl rfl rfl rfl rfl (by kernel_rfl) (fun w hm _ => l12_seen w) ?_)
  refine VC_sound tabOk 100 ?_
  refine ⟨fun h => by first | (simp at h; done) | (simp at h; omega) | (simp_all; done), fun _ => ?_⟩
  refine ⟨fun hc => ?_, fun hc => ?_⟩
  · refine Go_ops rfl (OpTo_pcall (v := .bool true) rfl rfl rfl rfl rfl (by kernel_rfl) (fun w hm _ => l12_seen w) ?_)
    refine VC_sound tabOk 100 ?_
    rfl
  refine ⟨fun hc2 => ?_, fun hc2 => ?_⟩
  · refine Go_ops rfl (OpTo_pcall (v := .bool true) rfl rfl rfl rfl rfl (by kernel_rfl) (fun w hm _ => l12_seen w) ?_)
    refine VC_sound tabOk 100 ?_
    rfl
  refine ⟨fun hc3 => ?_, fun hc3 => ?_⟩
  · refine Go_ops rfl (OpTo_pcall (v := .bool true) rfl rfl rfl rfl rfl (by kernel_rfl) (fun w hm _ => l12_seen w) ?_)
    refine VC_sound tabOk 100 ?_
    rfl
  refine ⟨fun hc4 => ?_, fun hc4 => ?_⟩
  · refine Go_ops rfl (OpTo_pcall (v := .bool true) rfl rfl rfl rfl rfl (by kernel_rfl) (fun w hm _ => l12_seen w) ?_)
    refine VC_sound tabOk 100 ?_
    rfl
  have hl60 : l.length ≤ 60 := by simp at hc; omega
  have hx30 : xs.length ≤ 30 := by simp at hc2; omega
  have ho10 : os.length ≤ 10 := by simp at hc3; omega
  have hp10 : ps.length ≤ 10 := by simp at hc4; omega
  have hel : (evsB l).length = l.length := evsTo_len l l.length (Nat.le_refl _)
  show Go _ _ _ _
  refine Go_ops rfl (OpTo_ncall rfl rfl rfl rfl rfl (by kernel_rfl) (fun w hm _ => l12_managers As cs xs w (hs.mod hm) hx (by omega)) ?_)
  rintro _ _ ⟨m, b1, b2, br, Ar, cr, R, rfl, hR, hRl, rfl⟩
  refine VC_sound tabOk 100 ?_
  show Go _ _ _ _
  refine Go_ops rfl (OpTo_ncall rfl rfl rfl rfl rfl (by kernel_rfl) (fun w hm _ => r05_of a Ao co os w (ho.mod hm) (by omega) K ha hK hos) ?_)
  rintro _ _ ⟨Ax, cx, rfl, rfl⟩
  have hul := ofUpto_len os K
  refine VC_sound tabOk 100 ?_
  show Go _ _ _ _
  refine Go_ops rfl (OpTo_ncall rfl rfl rfl rfl rfl (by kernel_rfl) (fun w hm _ => r05_of b' Ap cp ps w (hp.mod hm) (by omega) J hb hJ hps) ?_)
  rintro _ _ ⟨Ay, cy, rfl, rfl⟩
  have hvl := ofUpto_len ps J
  generalize ofUpto os K = op at hul ⊢
  generalize ofUpto ps J = oq at hvl ⊢
  refine Go_join (E := ?jE) (k := ?jk) (σ := Nat) (fun b54 => [(0, .v (.slice A l.length c)), (15, .v (.pointer (some ⟨m, 0, none⟩))), (16, .v (.pointer (some ⟨br, 0, none⟩))), (17, .v (.slice (some ⟨b54, 0, none⟩) N3 2)), (58, .v (.slice A l.length c))])
    (fun b54 => .blk b54 31 (encS ⟨1 + (K : Int), Ax, cx, op⟩ ++ encS ⟨1 + (J : Int), Ay, cy, oq⟩) :: own (encI .i64) 1 2 Ay cy oq :: own (encI .i64) 1 2 Ax cx op :: mgrR m b1 b2 br Ar cr R) (fun _ => True) ?jm ?jr
  case jm =>
    intro J'
    refine VC_sound tabOk 100 ?_
    intro b54 _
    refine ⟨by decide, _, hN.symm, ?_⟩
    refine ⟨⟨by omega, by omega⟩, ?_⟩
    refine J' b54 trivial _ _ ?_ ?_
    · exact ⟨rfl, rfl, rfl, rfl, rfl, trivial⟩
    · exact fun _ h => h
  case jr =>
    intro b54 _
    have hsn0 : ∃ sn : List SnM, sn = [(⟨1 + (K : Int), Ax, cx, op⟩ : SnM), ⟨1 + (J : Int), Ay, cy, oq⟩].take N3 := ⟨_, rfl⟩
    obtain ⟨sn, hsn⟩ := hsn0
    have hsl : sn.length = N3 := by rw [hsn]; simp; omega
    have hsm : ∀ s ∈ sn, s = ⟨1 + (K : Int), Ax, cx, op⟩ ∨ s = ⟨1 + (J : Int), Ay, cy, oq⟩ := fun s h => by
      rw [hsn] at h
      have := List.mem_of_mem_take h
      simpa using this
    have hsr : ∀ {w : World}, RdW w (some ⟨b54, 0, none⟩) (encS ⟨1 + (K : Int), Ax, cx, op⟩ ++ encS ⟨1 + (J : Int), Ay, cy, oq⟩) → RdW w (some ⟨b54, 0, none⟩) (sn.flatMap encS) := fun h => by
      refine RdW.front (ds := ([(⟨1 + (K : Int), Ax, cx, op⟩ : SnM), ⟨1 + (J : Int), Ay, cy, oq⟩].drop N3).flatMap encS) ?_
      rw [hsn, ← List.flatMap_append, List.take_append_drop]
      simpa using h
    have hrd : ∀ {w : World}, RdI w Ax op → RdI w Ay oq → ∀ s ∈ sn, s.rd w := fun h1 h2 s hs => by
      rcases hsm s hs with rfl | rfl
      · exact ⟨h1, by dsimp only; omega⟩
      · exact ⟨h2, by dsimp only; omega⟩
    rw [← hsl]
    refine VC_sound tabOk 100 ?_
    show Go _ _ _ _
    refine Go_ops rfl (OpTo_ncall rfl rfl rfl rfl rfl (by kernel_rfl) (fun w hm _ => l12_events A c l w (hr.mod hm) hok (by omega)) ?_)
    rintro _ _ ⟨A1, c1, rfl, rfl⟩
    refine VC_sound tabOk 100 ?_
    refine Go_loop (σ := Nat) (fun i => [(0, .v (.slice A l.length c)), (15, .v (.pointer (some ⟨m, 0, none⟩))), (16, .v (.pointer (some ⟨br, 0, none⟩))), (17, .v (.slice (some ⟨b54, 0, none⟩) sn.length 2)), (18, .v (.slice A1 (evsB l).length c1)), (19, .v (.int .i64 i))]) (fun _ => own encE 8 42 A1 c1 (evsB l) :: .blk b54 31 (encS ⟨1 + (K : Int), Ax, cx, op⟩ ++ encS ⟨1 + (J : Int), Ay, cy, oq⟩) :: own (encI .i64) 1 2 Ay cy oq :: own (encI .i64) 1 2 Ax cx op :: mgrR m b1 b2 br Ar cr R) (fun i => i ≤ l.length) (fun i => l.length - i) 0 (Nat.zero_le _) ⟨rfl, rfl, rfl, rfl, rfl, rfl, trivial⟩ (fun _ h => h) ?_
    intro i hi
    dsimp only at hi ⊢
    by_cases hlt : i < l.length
    · obtain ⟨e, hge⟩ : ∃ e, (evsB l)[i]? = some e := ⟨_, List.getElem?_eq_getElem (by omega)⟩
      refine Go_with _ (fun w hm _ => hm.own_some (i := 0) rfl (ne_nil_of_lt (by omega : 0 < (evsB l).length))) ?_
      rintro ⟨b, of, rfl⟩
      refine VC_sound tabOk 100 ?_
      refine ⟨fun _ => ?_, fun h => by first | (simp at h; done) | (simp at h; omega) | (simp_all; done)⟩
      show Go _ _ _ _
      refine Go_any mixed [] [(0, false), (1, false), (2, false), (4, false), (5, false), (7, false), (8, false), (9, false), (11, false), (12, false), (3, false), (10, false), (6, true), (13, true), (14, false)] rfl (by kernel_rfl) (by kernel_rfl) [] (fun w => RdW w (some ⟨b, of, none⟩) ((evsB l).flatMap encE)) (fun w w' hk h => h.old hk) (fun w hm _ => ⟨trivial, by exact Mod.own_rd (k := 8) (T := 42) (c := c1) (i := 0) hm rfl⟩) ?_
      refine VC_sound tabOk 100 ?_
      refine ⟨⟨by omega, by omega⟩, ?_⟩
      refine ⟨⟨by omega, by omega⟩, ?_⟩
      refine Go_first (v := mkE e) rfl rfl rfl rfl (fun w _ hw => rxLoadRow tabOk rfl encE_is rfl (fun h => by first | rfl | cases h) hw hge (by simp only [addA]; rfl) rfl) ?_
      refine VC_sound tabOk 100 ?_
      refine Go_first (v := mkE e) rfl rfl rfl rfl (fun w _ hw => rxLoadRow tabOk rfl encE_is rfl (fun h => by first | rfl | cases h) hw hge (by simp only [addA]; rfl) rfl) ?_
      refine VC_sound tabOk 100 ?_
      refine Go_aloneL rfl rfl (OpTo_pcall (v := .bool (needsB (stE (txOf R)) sn e)) rfl rfl rfl rfl rfl (by kernel_rfl) (fun w hm _ => batch_needs e (some ⟨m, 0, none⟩) (stE (txOf R)) (some ⟨b54, 0, none⟩) 2 sn w (StOk.some (s := txOf R) (hm.blk_at (i := 4) rfl) (MpAt.of_mod (i := 5) hm rfl) (MpAt.of_mod (i := 6) hm rfl)) (hsr (hm.blk_rd (i := 1) rfl)) (by omega) (hrd (hm.own_rd (i := 3) rfl) (hm.own_rd (i := 2) rfl))) ?_)
      refine And.intro (fun w hm _ => ⟨trivial, by exact Mod.own_rd (k := 8) (T := 42) (c := c1) (i := 0) hm rfl⟩) ?_
      refine VC_sound tabOk 100 ?_
      refine Go_aloneL rfl rfl (OpTo_pcall (v := .bool (needsB (rState R) sn e)) rfl rfl rfl rfl rfl (by kernel_rfl) (fun w hm _ => r12_needs e br Ar cr R (some ⟨b54, 0, none⟩) 2 sn w ⟨hm.blk_at (i := 7) rfl, hm.own_rd (i := 8) rfl, by omega⟩ (hsr (hm.blk_rd (i := 1) rfl)) (by omega) (hrd (hm.own_rd (i := 3) rfl) (hm.own_rd (i := 2) rfl))) ?_)
      refine And.intro (fun w hm _ => ⟨trivial, by exact Mod.own_rd (k := 8) (T := 42) (c := c1) (i := 0) hm rfl⟩) ?_
      refine VC_sound tabOk 100 ?_
      refine ⟨fun h => by rw [needs_same hR] at h; simp at h, fun _ => ?_⟩
      refine ⟨_, wrap_i64 (n := (i : Int) + 1) (by omega) (by omega), ?_⟩
      exact Go_fin (i + 1) (by omega) (by omega) ⟨rfl, rfl, rfl, rfl, rfl, rfl, trivial⟩ (fun _ h => h)
    refine VC_sound tabOk 100 ?_
    refine ⟨fun h => by first | (simp at h; done) | (simp at h; omega) | (simp_all; done), fun _ => ?_⟩
    refine Go_ops rfl (OpTo_pcall (v := .bool (freeB (stE (txOf R)) sn (evsB l))) rfl rfl rfl rfl rfl (by kernel_rfl) (fun w hm _ => batch_free A1 c1 (evsB l) (some ⟨m, 0, none⟩) (stE (txOf R)) (some ⟨b54, 0, none⟩) 2 sn w (hm.own_rd (i := 0) rfl) (by omega) (StOk.some (s := txOf R) (hm.blk_at (i := 4) rfl) (MpAt.of_mod (i := 5) hm rfl) (MpAt.of_mod (i := 6) hm rfl)) (hsr (hm.blk_rd (i := 1) rfl)) (by omega) (hrd (hm.own_rd (i := 3) rfl) (hm.own_rd (i := 2) rfl))) ?_)
    refine VC_sound tabOk 100 ?_
    refine Go_ops rfl (OpTo_pcall (v := .bool (freeB (rState R) sn (evsB l))) rfl rfl rfl rfl rfl (by kernel_rfl) (fun w hm _ => r12_free A1 c1 (evsB l) br Ar cr R (some ⟨b54, 0, none⟩) 2 sn w (hm.own_rd (i := 0) rfl) (by omega) ⟨hm.blk_at (i := 7) rfl, hm.own_rd (i := 8) rfl, by omega⟩ (hsr (hm.blk_rd (i := 1) rfl)) (by omega) (hrd (hm.own_rd (i := 3) rfl) (hm.own_rd (i := 2) rfl))) ?_)
    refine VC_sound tabOk 100 ?_
    refine ⟨fun _ => ?_, fun h => by rw [free_same hR] at h; simp at h⟩
    refine Go_ops rfl (OpTo_pcall (v := .bool (freeB (stE (txOf R)) sn [])) rfl rfl rfl rfl rfl (by kernel_rfl) (fun w hm _ => batch_free none 0 [] (some ⟨m, 0, none⟩) (stE (txOf R)) (some ⟨b54, 0, none⟩) 2 sn w (.inl rfl) (by simp) (StOk.some (s := txOf R) (hm.blk_at (i := 4) rfl) (MpAt.of_mod (i := 5) hm rfl) (MpAt.of_mod (i := 6) hm rfl)) (hsr (hm.blk_rd (i := 1) rfl)) (by omega) (hrd (hm.own_rd (i := 3) rfl) (hm.own_rd (i := 2) rfl))) ?_)
    refine VC_sound tabOk 100 ?_
    rfl
end Go.Proofs.Ytphfeldcmkbinaa
