/- The law BatchFree: what its run comes to. -/
import Derived.Test.YtphfeldcmkbinaaL12b
import Derived.Test.YtphfeldcmkbinaaOf
set_option autoImplicit false
set_option linter.unusedVariables false
set_option linter.unusedSimpArgs false
namespace Go.Proofs.Ytphfeldcmkbinaa
open Go.RX Go Go.RowKit Go.ChangeShapes Go.WideShapes Go.ChangeAt


theorem rd_sub {α : Type} {enc : α → List Value} {k : Nat} (he : IsEnc enc k) {w : World} {b o i : Nat} {xs : List α} {e : α} (h : RdW w (some ⟨b, o, none⟩) (xs.flatMap enc)) (hi : xs[i]? = some e) : RdW w (some ⟨b, o + i * k, none⟩) ([e].flatMap enc) := by
  rcases h with h | ⟨b', o', h1, h2⟩
  · have := he.flat_nil h; subst this; simp at hi
  · cases h1
    refine .inr ⟨b, o + i * k, rfl, fun j v hv => ?_⟩
    simp only [List.flatMap_cons, List.flatMap_nil, List.append_nil] at hv
    have := h2 (i * k + j) v (he.flat_at hi j v hv)
    rwa [← Nat.add_assoc] at this
theorem slA_some {b o c i k : Nat} (h : i < c) : slA (some ⟨b, o, none⟩) c i k = some ⟨b, o + i * k, none⟩ := by
  rw [slA, if_neg (by omega)]
  show some (Addr.add _ _) = _
  rw [← addA_eq]; rfl

theorem free_none (st : Int → Int) (x y t : SnM) (o : ByteArray) (e : EventM) (hf : freeB st [x] [e] = true) (hy : ∀ z, x.sees z = true → y.sees z = true) : [e].filter (bofP st x t o) = [] ∧ [e].filter (bofP st y t o) = [] := by
  have h2 : st e.tx = 2 → x.sees e.tx = true := fun h => by
    simp only [freeB, List.any_cons, List.any_nil, Bool.or_false, Bool.not_eq_true', needsB, h] at hf
    simpa using hf
  constructor
  · rw [List.filter_eq_nil_iff]
    intro e' he' h
    simp at he'; subst he'
    simp only [bofP, Bool.and_eq_true, decide_eq_true_eq, Bool.not_eq_true'] at h
    rw [h2 h.1] at h; simp at h
  · rw [List.filter_eq_nil_iff]
    intro e' he' h
    simp at he'; subst he'
    simp only [bofP, Bool.and_eq_true, decide_eq_true_eq, Bool.not_eq_true'] at h
    rw [hy _ (h2 h.1)] at h; simp at h

set_option maxHeartbeats 8000000 in
theorem l12_BatchFree (A : Option Addr) (c : Nat) (l : List BActM) (As : Option Addr) (cs : Nat) (xs : List Int) (a b' c' : Int) (Ao : Option Addr) (co : Nat) (os : List Int) (w0 : World) (hr : RdW w0 A (l.flatMap encA)) (hok : ∀ z ∈ l, okA w0 z) (hs : RdW w0 As (xs.flatMap encU)) (hx : ∀ z ∈ xs, 0 ≤ z ∧ z ≤ 255) (ha : 0 ≤ a ∧ a ≤ 255) (hb : 0 ≤ b' ∧ b' ≤ 255) (hcc : 0 ≤ c' ∧ c' ≤ 255)
    (ho : RdW w0 Ao (os.flatMap encU)) (hos : ∀ z ∈ os, 0 ≤ z ∧ z ≤ 255) :
    Calls Try.prog 8 #[.slice A l.length c, .slice As xs.length cs, .int .u8 a, .int .u8 b', .int .u8 c', .slice Ao os.length co] w0 fun e w' => e = .returned (.bool true) ∧ BelowD w0.heap.size w0 w' := by
  obtain ⟨K, hK, hK40⟩ := tmod_nat 40 (by decide) ha.1
  obtain ⟨B, hB, hB9⟩ := tmod_nat 9 (by decide) hb.1
  refine enterP (tab := tab) Try.func8 rfl Try.ntmps8 rfl (args := [_, _, _, _, _, _]) rfl ?_
  refine VC_sound tabOk 100 ?_
  refine Go_ops rfl (OpTo_pcall (v := .bool true) rfl rfl rfl rfl rfl (by kernel_rfl) (fun w hm _ => l12_seen w) ?_)
  refine VC_sound tabOk 100 ?_
  refine ⟨fun h => by first | (simp at h; done) | (simp at h; omega) | (simp_all; done), fun _ => ?_⟩
  refine ⟨fun hc => ?_, fun hc => ?_⟩
  · refine Go_ops rfl (OpTo_pcall (v := .bool true) rfl rfl rfl rfl rfl (by kernel_rfl) (fun w hm _ => l12_seen w) ?_)
    refine VC_sound tabOk 100 ?_
    rfl
  refine ⟨fun hc2 => ?_, fun hc2 => ?_⟩
  · refine Go_ops rfl (OpTo_pcall (v := .bool true) rfl rfl rfl rfl rfl (by kernel_rfl) (fun w hm _ => l12_seen w) ?_)
    refine VC_sound tabOk 100 ?_
    rfl
  refine ⟨fun hc3 => ?_, fun hc3 => ?_⟩
  · refine Go_ops rfl (OpTo_pcall (v := .bool true) rfl rfl rfl rfl rfl (by kernel_rfl) (fun w hm _ => l12_seen w) ?_)
    refine VC_sound tabOk 100 ?_
    rfl
  have hl60 : l.length ≤ 60 := by simp at hc; omega
  have hx30 : xs.length ≤ 30 := by simp at hc2; omega
  have ho10 : os.length ≤ 10 := by simp at hc3; omega
  have hel : (evsB l).length = l.length := evsTo_len l l.length (Nat.le_refl _)
  show Go _ _ _ _
  refine Go_ops rfl (OpTo_ncall rfl rfl rfl rfl rfl (by kernel_rfl) (fun w hm _ => l12_managers As cs xs w (hs.mod hm) hx (by omega)) ?_)
  rintro _ _ ⟨m, b1, b2, br, Ar, cr, R, rfl, hR, hRl, rfl⟩
  refine VC_sound tabOk 100 ?_
  show Go _ _ _ _
  refine Go_ops rfl (OpTo_ncall rfl rfl rfl rfl rfl (by kernel_rfl) (fun w hm _ => r05_of a Ao co os w (ho.mod hm) (by omega) K ha hK hos) ?_)
  rintro _ _ ⟨Ax, cx, rfl, rfl⟩
  have hul := ofUpto_len os K
  have hum : ∀ x ∈ ofUpto os K, 1 ≤ x ∧ x ≤ K := fun x hx => ofUpto_mem hx
  generalize ofUpto os K = op at hul hum ⊢
  refine VC_sound tabOk 100 ?_
  intro b15 _
  (repeat (first | refine Or.inl ⟨rfl, rfl, ?_⟩ | refine Or.inl ⟨rfl, ?_⟩ | refine Or.inr ?_))
  refine ⟨by decide, _, hB.symm, ?_⟩
  refine ⟨_, wrap_i64 (n := (B : Int)) (by omega) (by omega), ?_⟩
  refine ⟨_, wrap_i64 (n := 1 + (K : Int) + B) (by omega) (by omega), ?_⟩
  intro b16 _
  (repeat (first | refine Or.inl ⟨rfl, rfl, ?_⟩ | refine Or.inl ⟨rfl, ?_⟩ | refine Or.inr ?_))
  refine ⟨_, wrap_i64 (n := c') (by omega) (by omega), ?_⟩
  refine ⟨_, wrap_i64 (n := 1 + (K : Int) + B + c') (by omega) (by omega), ?_⟩
  intro b17 _
  (repeat (first | refine Or.inl ⟨rfl, rfl, ?_⟩ | refine Or.inl ⟨rfl, ?_⟩ | refine Or.inr ?_))
  show Go _ _ _ _
  refine Go_ops rfl (OpTo_ncall rfl rfl rfl rfl rfl (by kernel_rfl) (fun w hm _ => l12_events A c l w (hr.mod hm) hok (by omega)) ?_)
  rintro _ _ ⟨A1, c1, rfl, rfl⟩
  refine VC_sound tabOk 100 ?_
  have hsee : ∀ z, SnM.sees ⟨1 + (K : Int), Ax, cx, op⟩ z = true → SnM.sees ⟨1 + (K : Int) + B, none, 0, []⟩ z = true := fun z h => by
    simp only [SnM.sees, snSees, Bool.and_eq_true, decide_eq_true_eq] at h ⊢
    exact ⟨h.1, by omega, rfl⟩
  refine Go_loop (σ := Nat) (fun i => [(0, .v (.slice A l.length c)), (13, .v (.pointer (some ⟨m, 0, none⟩))), (15, .v (.pointer (some ⟨b15, 0, none⟩))), (16, .v (.pointer (some ⟨b16, 0, none⟩))), (17, .v (.pointer (some ⟨b17, 0, none⟩))), (18, .v (.slice A1 (evsB l).length c1)), (19, .v (.int .i64 i))]) (fun _ => own encE 8 42 A1 c1 (evsB l) :: .blk b17 31 [.int .i64 (1 + (K : Int) + B + c'), .slice none 0 0] :: .blk b16 31 [.int .i64 (1 + (K : Int) + B), .slice none 0 0] :: .blk b15 31 [.int .i64 (1 + (K : Int)), .slice Ax op.length cx] :: own (encI .i64) 1 2 Ax cx op :: mgrR m b1 b2 br Ar cr R) (fun i => i ≤ l.length) (fun i => l.length - i) 0 (Nat.zero_le _) ⟨rfl, rfl, rfl, rfl, rfl, rfl, rfl, trivial⟩ (fun _ h => h) ?_
  intro i hi
  dsimp only at hi ⊢
  by_cases hlt : i < l.length
  · obtain ⟨e, hge⟩ : ∃ e, (evsB l)[i]? = some e := ⟨_, List.getElem?_eq_getElem (by omega)⟩
    refine Go_with _ (fun w hm _ => hm.own_some (i := 0) rfl (ne_nil_of_lt (by omega : 0 < (evsB l).length))) ?_
    rintro ⟨b, of, rfl⟩
    refine Go_with _ (fun w hm _ => hm.own_le (i := 0) rfl) ?_
    intro hcap
    refine Go_join (E := ?jE) (k := ?jk) (σ := Unit) (fun _ => [(0, .v (.slice A l.length c)), (13, .v (.pointer (some ⟨m, 0, none⟩))), (15, .v (.pointer (some ⟨b15, 0, none⟩))), (16, .v (.pointer (some ⟨b16, 0, none⟩))), (17, .v (.pointer (some ⟨b17, 0, none⟩))), (18, .v (.slice (some ⟨b, of, none⟩) (evsB l).length c1)), (19, .v (.int .i64 i)), (20, .v (.slice (some ⟨b, of + i * 8, none⟩) 1 (c1 - i)))]) (fun _ => own encE 8 42 (some ⟨b, of, none⟩) c1 (evsB l) :: .blk b17 31 [.int .i64 (1 + (K : Int) + B + c'), .slice none 0 0] :: .blk b16 31 [.int .i64 (1 + (K : Int) + B), .slice none 0 0] :: .blk b15 31 [.int .i64 (1 + (K : Int)), .slice Ax op.length cx] :: own (encI .i64) 1 2 Ax cx op :: mgrR m b1 b2 br Ar cr R) (fun _ => True) ?jm ?jr
    case jm =>
      intro J
      refine VC_sound tabOk 100 ?_
      refine ⟨fun _ => ?_, fun h => by first | (simp at h; done) | (simp at h; omega) | (simp_all; done)⟩
      refine ⟨_, wrap_i64 (n := (i : Int) + 1) (by omega) (by omega), ?_⟩
      refine ⟨⟨by omega, by omega, by omega⟩, ?_⟩
      refine J () trivial _ _ ?_ ?_
      · refine ⟨rfl, rfl, rfl, rfl, rfl, rfl, rfl, ?_, trivial⟩
        show Value.slice _ _ _ = Value.slice _ _ _
        have e1 : slA (some ⟨b, of, none⟩) c1 (i : Int).toNat 8 = some ⟨b, of + i * 8, none⟩ := slA_some (by omega)
        have e2 : ((i : Int) + 1).toNat - (i : Int).toNat = 1 := by omega
        have e3 : c1 - (i : Int).toNat = c1 - i := by omega
        rw [e2, e3, ← e1]
      · exact fun _ h => h
    case jr =>
      rintro ⟨⟩ _
      show Go _ _ _ _
      refine Go_any mixed [] [(0, false), (1, false), (2, false), (3, true), (4, true), (5, false), (6, false), (7, false), (10, false), (11, false), (12, false), (13, false), (8, false), (9, false), (14, false), (15, true), (16, false), (17, false), (18, false), (19, false), (20, false), (23, false), (24, false), (25, false), (26, false), (21, false), (22, false), (27, false), (28, true), (29, false), (30, false), (31, false), (32, false)] rfl (by kernel_rfl) (by kernel_rfl) [.blk b17 31 [.int .i64 (1 + (K : Int) + B + c'), .slice none 0 0], .blk b16 31 [.int .i64 (1 + (K : Int) + B), .slice none 0 0], .blk b15 31 [.int .i64 (1 + (K : Int)), .slice Ax op.length cx]] (fun w => (RdW w (some ⟨b, of, none⟩) ((evsB l).flatMap encE))) (fun w w' hk h => h.old hk) (fun w hm _ => ⟨Holds.of_idx [1, 2, 3] hm, by exact Mod.own_rd (k := 8) (T := 42) (c := c1) (i := 0) hm rfl⟩) ?_
      refine VC_sound tabOk 100 ?_
      (repeat (first | refine Or.inl ⟨rfl, rfl, ?_⟩ | refine Or.inl ⟨rfl, ?_⟩ | refine Or.inr ?_))
      intro b76 _
      refine Go_aloneL rfl rfl (OpTo_pcall (v := .bool (freeB (stE (txOf R)) [⟨1 + (K : Int), Ax, cx, op⟩] [e])) rfl rfl rfl rfl rfl (by kernel_rfl) (fun w hm _ => batch_free (some ⟨b, of + i * 8, none⟩) (c1 - i) [e] (some ⟨m, 0, none⟩) (stE (txOf R)) (some ⟨b76, 0, none⟩) 1 [⟨1 + (K : Int), Ax, cx, op⟩] w (rd_sub encE_is (hm.own_rd (i := 1) rfl) hge) (by simp) (StOk.some (s := txOf R) (hm.blk_at (i := 6) rfl) (MpAt.of_mod (i := 7) hm rfl) (MpAt.of_mod (i := 8) hm rfl)) (hm.blk_rd (i := 0) rfl) (by simp) (fun x hx => by
        simp at hx; subst hx; exact ⟨hm.own_rd (i := 5) rfl, by dsimp only; omega⟩)) ?_)
      refine And.intro (fun w hm _ => ⟨Holds.of_idx [2, 3, 4] hm, by exact Mod.own_rd (k := 8) (T := 42) (c := c1) (i := 1) hm rfl⟩) ?_
      refine VC_sound tabOk 100 ?_
      refine ⟨fun hfree => ?_, fun hnf => ?_⟩
      rotate_left
      · refine ⟨_, wrap_i64 (n := (i : Int) + 1) (by omega) (by omega), ?_⟩
        exact Go_fin (i + 1) (by omega) (by omega) ⟨rfl, rfl, rfl, rfl, rfl, rfl, rfl, trivial⟩ (fun _ h => h.sel [1, 2, 3, 4, 5, 6, 7, 8, 9, 10] rfl)
      obtain ⟨n1, n2⟩ := free_none (stE (txOf R)) ⟨1 + (K : Int), Ax, cx, op⟩ ⟨1 + (K : Int) + B, none, 0, []⟩ ⟨1 + (K : Int) + B + c', none, 0, []⟩ e.owner e hfree hsee
      refine ⟨⟨by omega, by omega⟩, ?_⟩
      (repeat (first | refine Or.inl ⟨rfl, rfl, ?_⟩ | refine Or.inl ⟨rfl, ?_⟩ | refine Or.inr ?_))
      refine Go_first (v := .string e.owner) rfl rfl rfl rfl (fun w _ hw => rxLoadPart tabOk rfl encE_is hw hge (off := 2) rfl (by simp only [addA]; rfl)) ?_
      refine VC_sound tabOk 100 ?_
      refine Go_aloneL rfl rfl (OpTo_ncall rfl rfl rfl rfl rfl (by kernel_rfl) (fun w hm _ => batch_of (some ⟨b, of + i * 8, none⟩) (c1 - i) [e] (.pointer (some ⟨m, 0, none⟩)) (stE (txOf R)) ⟨1 + (K : Int), Ax, cx, op⟩ ⟨1 + (K : Int) + B + c', none, 0, []⟩ e.owner w (rd_sub encE_is (hm.own_rd (i := 1) rfl) hge) (by simp) (StOk.some (s := txOf R) (hm.blk_at (i := 6) rfl) (MpAt.of_mod (i := 7) hm rfl) (MpAt.of_mod (i := 8) hm rfl)) ⟨hm.own_rd (i := 5) rfl, by dsimp only; omega⟩ ⟨.inl rfl, by simp⟩) ?_)
      rintro _ _ ⟨ys, hy, A8, c8, rfl, rfl⟩
      have ly := hy.len
      rw [n1] at ly
      have ly0 : ys.length = 0 := ly
      refine And.intro (fun w hm _ => ⟨Holds.of_idx [3, 4, 5] hm, by exact Mod.own_rd (k := 8) (T := 42) (c := c1) (i := 2) hm rfl⟩) ?_
      refine VC_sound tabOk 100 ?_
      refine ⟨fun h => by rw [ly0] at h; simp at h, fun _ => ?_⟩
      refine ⟨⟨by omega, by omega⟩, ?_⟩
      (repeat (first | refine Or.inl ⟨rfl, rfl, ?_⟩ | refine Or.inl ⟨rfl, ?_⟩ | refine Or.inr ?_))
      refine Go_first (v := .string e.owner) rfl rfl rfl rfl (fun w _ hw => rxLoadPart tabOk rfl encE_is hw hge (off := 2) rfl (by simp only [addA]; rfl)) ?_
      refine VC_sound tabOk 100 ?_
      refine Go_aloneL rfl rfl (OpTo_ncall rfl rfl rfl rfl rfl (by kernel_rfl) (fun w hm _ => batch_of (some ⟨b, of + i * 8, none⟩) (c1 - i) [e] (.pointer (some ⟨m, 0, none⟩)) (stE (txOf R)) ⟨1 + (K : Int) + B, none, 0, []⟩ ⟨1 + (K : Int) + B + c', none, 0, []⟩ e.owner w (rd_sub encE_is (hm.own_rd (i := 2) rfl) hge) (by simp) (StOk.some (s := txOf R) (hm.blk_at (i := 7) rfl) (MpAt.of_mod (i := 8) hm rfl) (MpAt.of_mod (i := 9) hm rfl)) ⟨.inl rfl, by simp⟩ ⟨.inl rfl, by simp⟩) ?_)
      rintro _ _ ⟨zs, hz, A9, c9, rfl, rfl⟩
      have lz := hz.len
      rw [n2] at lz
      have lz0 : zs.length = 0 := lz
      refine And.intro (fun w hm _ => ⟨Holds.of_idx [4, 5, 6] hm, by exact Mod.own_rd (k := 8) (T := 42) (c := c1) (i := 3) hm rfl⟩) ?_
      refine VC_sound tabOk 100 ?_
      refine ⟨fun h => by rw [lz0] at h; simp at h, fun _ => ?_⟩
      refine ⟨_, wrap_i64 (n := (i : Int) + 1) (by omega) (by omega), ?_⟩
      exact Go_fin (i + 1) (by omega) (by omega) ⟨rfl, rfl, rfl, rfl, rfl, rfl, rfl, trivial⟩ (fun _ h => h.sel [3, 4, 5, 6, 7, 8, 9, 10, 11, 12] rfl)
  refine VC_sound tabOk 100 ?_
  refine ⟨fun h => by first | (simp at h; done) | (simp at h; omega) | (simp_all; done), fun _ => ?_⟩
  rfl
end Go.Proofs.Ytphfeldcmkbinaa
