/- The law BatchOwners: what its run comes to. -/
import Derived.Test.YtphfeldcmkbinaaL12
import Derived.Test.YtphfeldcmkbinaaMgr
set_option autoImplicit false
set_option linter.unusedVariables false
set_option linter.unusedSimpArgs false
namespace Go.Proofs.Ytphfeldcmkbinaa
open Go.RX Go Go.RowKit Go.ChangeShapes Go.WideShapes Go.ChangeAt


theorem bsEq_iff {a b : ByteArray} : bsEq a b = true ↔ a = b := by
  simp only [bsEq, beq_iff_eq]
  exact ⟨toList_inj, fun h => by rw [h]⟩
theorem dueB_iff {e : EventM} {o : ByteArray} : dueB e o = true ↔ e.owner = emptyS ∨ e.owner = o := by simp [dueB, bsEq_iff]
abbrev sA : ByteArray := ⟨#[97]⟩
abbrev sB : ByteArray := ⟨#[98]⟩
abbrev sC : ByteArray := ⟨#[99]⟩
theorem evsTo_own {l : List BActM} : ∀ {i : Nat} {e : EventM}, e ∈ evsTo l i → e.owner = sA ∨ e.owner = sB ∨ e.owner = emptyS
  | 0, e, h => by simp [evsTo] at h
  | i + 1, e, h => by
    simp only [evsTo, List.mem_append] at h
    rcases h with h | h
    · exact evsTo_own h
    · cases ha : l[i]? with
      | none => rw [ha] at h; simp at h
      | some a =>
        rw [ha] at h
        simp at h
        subst h
        simp only [evB, ownB]
        split
        · exact .inl rfl
        · split
          · exact .inr (.inl rfl)
          · exact .inr (.inr rfl)
theorem ne_AB : sA ≠ sB := by decide
theorem ne_AC : sA ≠ sC := by decide
theorem ne_BC : sB ≠ sC := by decide
theorem ne_A0 : sA ≠ emptyS := by decide
theorem ne_B0 : sB ≠ emptyS := by decide
theorem bofP_due {st : Int → Int} {f t : SnM} {o : ByteArray} {e : EventM} (h : bofP st f t o e = true) : e.owner = emptyS ∨ e.owner = o := by
  simp only [bofP, Bool.and_eq_true] at h
  exact dueB_iff.1 h.2.1
theorem Srt.mem_of {xs ys : List EventM} (h : Srt xs ys) {e : EventM} (he : e ∈ ys) : e ∈ xs := (h.1.mem e).2 he
theorem cnt_C (l : List BActM) (st : Int → Int) (f t : SnM) (o : ByteArray) : ((evsB l).filter (bofP st f t sC)).length ≤ ((evsB l).filter (bofP st f t o)).length := by
  rw [← List.countP_eq_length_filter, ← List.countP_eq_length_filter]
  refine List.countP_mono_left fun e he h => ?_
  have h0 : e.owner = emptyS := by
    rcases bofP_due h with h' | h'
    · exact h'
    · rcases evsTo_own he with h2 | h2 | h2
      · exact absurd (h2.symm.trans h') ne_AC
      · exact absurd (h2.symm.trans h') ne_BC
      · exact h2
  simp only [bofP, Bool.and_eq_true] at h ⊢
  exact ⟨h.1, dueB_iff.2 (.inl h0), h.2.2⟩

set_option maxHeartbeats 8000000 in
theorem l12_BatchOwners (A : Option Addr) (c : Nat) (l : List BActM) (As : Option Addr) (cs : Nat) (xs : List Int) (a : Int) (w0 : World) (hr : RdW w0 A (l.flatMap encA)) (hok : ∀ z ∈ l, okA w0 z) (hs : RdW w0 As (xs.flatMap encU)) (hx : ∀ z ∈ xs, 0 ≤ z ∧ z ≤ 255) (ha : 0 ≤ a ∧ a ≤ 255) :
    Calls Try.prog 5 #[.slice A l.length c, .slice As xs.length cs, .int .u8 a] w0 fun e w' => e = .returned (.bool true) ∧ BelowD w0.heap.size w0 w' := by
  refine enterP (tab := tab) Try.func5 rfl Try.ntmps5 rfl (args := [_, _, _]) rfl ?_
  refine VC_sound tabOk 100 ?_
  refine Go_ops rfl (OpTo_pcall (v := .bool true) rfl rfl rfl rfl rfl (by kernel_rfl) (fun w hm _ => l12_seen w) ?_)
  refine VC_sound tabOk 100 ?_
  refine ⟨fun h => by first | (simp at h; done) | (simp at h; omega) | (simp_all; done), fun _ => ?_⟩
  refine ⟨fun hc => ?_, fun hc => ?_⟩
  · refine Go_ops rfl (OpTo_pcall (v := .bool true) rfl rfl rfl rfl rfl (by kernel_rfl) (fun w hm _ => l12_seen w) ?_)
    refine VC_sound tabOk 100 ?_
    rfl
  refine ⟨fun hc2 => ?_, fun hc2 => ?_⟩
  · refine Go_ops rfl (OpTo_pcall (v := .bool true) rfl rfl rfl rfl rfl (by kernel_rfl) (fun w hm _ => l12_seen w) ?_)
    refine VC_sound tabOk 100 ?_
    rfl
  have hl60 : l.length ≤ 60 := by simp at hc; omega
  have hx30 : xs.length ≤ 30 := by simp at hc2; omega
  have hel : (evsB l).length = l.length := evsTo_len l l.length (Nat.le_refl _)
  show Go _ _ _ _
  refine Go_ops rfl (OpTo_ncall rfl rfl rfl rfl rfl (by kernel_rfl) (fun w hm _ => l12_managers As cs xs w (hs.mod hm) hx (by omega)) ?_)
  rintro _ _ ⟨m, b1, b2, br, Ar, cr, R, rfl, hR, hRl, rfl⟩
  refine VC_sound tabOk 100 ?_
  refine ⟨_, wrap_i64 (n := a) (by omega) (by omega), ?_⟩
  refine ⟨_, wrap_i64 (n := 1 + a) (by omega) (by omega), ?_⟩
  intro b9 _
  intro b10 _
  (repeat (first | refine Or.inl ⟨rfl, rfl, ?_⟩ | refine Or.inl ⟨rfl, ?_⟩ | refine Or.inr ?_))
  show Go _ _ _ _
  refine Go_ops rfl (OpTo_ncall rfl rfl rfl rfl rfl (by kernel_rfl) (fun w hm _ => l12_events A c l w (hr.mod hm) hok (by omega)) ?_)
  rintro _ _ ⟨A1, c1, rfl, rfl⟩
  refine VC_sound tabOk 100 ?_
  show Go _ _ _ _
  refine Go_any mixed [] [(0, false), (1, false), (5, false), (6, false), (10, false), (11, false), (2, false), (3, false), (7, false), (8, false), (12, false), (13, false), (4, true), (9, true), (14, true), (15, false), (16, false), (17, false)] rfl (by kernel_rfl) (by kernel_rfl) [.blk b10 31 [.int .i64 (1 + a), .slice none 0 0], .blk b9 31 [.int .i64 1, .slice none 0 0]] (FrmX [heapOf w0]) (FrmX.stable _) (fun w hm _ => ⟨Holds.of_idx [1, 2] hm, FrmX.of_mod hm⟩) ?_
  refine VC_sound tabOk 100 ?_
  (repeat (first | refine Or.inl ⟨rfl, rfl, ?_⟩ | refine Or.inl ⟨rfl, ?_⟩ | refine Or.inr ?_))
  refine Go_aloneL rfl rfl (OpTo_ncall rfl rfl rfl rfl rfl (by kernel_rfl) (fun w hm _ => batch_of A1 c1 (evsB l) (.pointer (some ⟨m, 0, none⟩)) (stE (txOf R)) ⟨1, none, 0, []⟩ ⟨1 + a, none, 0, []⟩ sA w (hm.own_rd (i := 0) rfl) (by omega) (StOk.some (s := txOf R) (hm.blk_at (i := 3) rfl) (MpAt.of_mod (i := 4) hm rfl) (MpAt.of_mod (i := 5) hm rfl)) ⟨.inl rfl, by simp⟩ ⟨.inl rfl, by simp⟩) ?_)
  rintro _ _ ⟨x, hx', Ax, cx, rfl, rfl⟩
  refine And.intro (fun w hm _ => ⟨Holds.of_idx [2, 3] hm, FrmX.of_mod hm⟩) ?_
  refine VC_sound tabOk 100 ?_
  refine Go_aloneL rfl rfl (OpTo_ncall rfl rfl rfl rfl rfl (by kernel_rfl) (fun w hm _ => batch_of A1 c1 (evsB l) (.pointer (some ⟨m, 0, none⟩)) (stE (txOf R)) ⟨1, none, 0, []⟩ ⟨1 + a, none, 0, []⟩ sB w (hm.own_rd (i := 1) rfl) (by omega) (StOk.some (s := txOf R) (hm.blk_at (i := 4) rfl) (MpAt.of_mod (i := 5) hm rfl) (MpAt.of_mod (i := 6) hm rfl)) ⟨.inl rfl, by simp⟩ ⟨.inl rfl, by simp⟩) ?_)
  rintro _ _ ⟨y, hy, Ay, cy, rfl, rfl⟩
  refine And.intro (fun w hm _ => ⟨Holds.of_idx [3, 4] hm, FrmX.of_mod hm⟩) ?_
  refine VC_sound tabOk 100 ?_
  refine Go_aloneL rfl rfl (OpTo_ncall rfl rfl rfl rfl rfl (by kernel_rfl) (fun w hm _ => batch_of A1 c1 (evsB l) (.pointer (some ⟨m, 0, none⟩)) (stE (txOf R)) ⟨1, none, 0, []⟩ ⟨1 + a, none, 0, []⟩ sC w (hm.own_rd (i := 2) rfl) (by omega) (StOk.some (s := txOf R) (hm.blk_at (i := 5) rfl) (MpAt.of_mod (i := 6) hm rfl) (MpAt.of_mod (i := 7) hm rfl)) ⟨.inl rfl, by simp⟩ ⟨.inl rfl, by simp⟩) ?_)
  rintro _ _ ⟨z, hz, Az, cz, rfl, rfl⟩
  refine And.intro (fun w hm _ => ⟨Holds.of_idx [4, 5] hm, FrmX.of_mod hm⟩) ?_
  refine VC_sound tabOk 100 ?_
  have nox : ∀ e ∈ x, ¬ (e.owner.toList == sB.toList) = true := fun e he h => by
    have h' : e.owner = sB := bsEq_iff.1 h
    rcases bofP_due (List.mem_filter.1 (hx'.mem_of he)).2 with h2 | h2
    · exact ne_B0 (h'.symm.trans h2)
    · exact ne_AB (h2.symm.trans h')
  have noy : ∀ e ∈ y, ¬ (e.owner.toList == sA.toList) = true := fun e he h => by
    have h' : e.owner = sA := bsEq_iff.1 h
    rcases bofP_due (List.mem_filter.1 (hy.mem_of he)).2 with h2 | h2
    · exact ne_A0 (h'.symm.trans h2)
    · exact ne_AB (h'.symm.trans h2)
  have noz : ∀ e ∈ z, ¬ (!(e.owner.toList == emptyS.toList)) = true := fun e he h => by
    have hm := List.mem_filter.1 (hz.mem_of he)
    have h0 : e.owner = emptyS := by
      rcases bofP_due hm.2 with h' | h'
      · exact h'
      · rcases evsTo_own hm.1 with h2 | h2 | h2
        · exact absurd (h2.symm.trans h') ne_AC
        · exact absurd (h2.symm.trans h') ne_BC
        · exact h2
    rw [h0] at h
    simp at h
  have lx := hx'.len
  have ly := hy.len
  have lz := hz.len
  have bx : x.length ≤ 60 := by rw [lx]; exact Nat.le_trans (List.length_filter_le _ _) (by omega)
  have by_ : y.length ≤ 60 := by rw [ly]; exact Nat.le_trans (List.length_filter_le _ _) (by omega)
  have bz : z.length ≤ 60 := by rw [lz]; exact Nat.le_trans (List.length_filter_le _ _) (by omega)
  have czx := cnt_C l (stE (txOf R)) ⟨1, none, 0, []⟩ ⟨1 + a, none, 0, []⟩ sA
  have czy := cnt_C l (stE (txOf R)) ⟨1, none, 0, []⟩ ⟨1 + a, none, 0, []⟩ sB
  refine Go_loop (σ := Nat) (fun i => [(0, .v (.slice A l.length c)), (12, .v (.slice Ax x.length cx)), (13, .v (.slice Ay y.length cy)), (14, .v (.slice Az z.length cz)), (15, .v (.int .i64 i))]) (fun _ => own encE 8 42 Az cz z :: own encE 8 42 Ay cy y :: own encE 8 42 Ax cx x :: own encE 8 42 A1 c1 (evsB l) :: .blk b10 31 [.int .i64 (1 + a), .slice none 0 0] :: .blk b9 31 [.int .i64 1, .slice none 0 0] :: mgrR m b1 b2 br Ar cr R) (fun i => i ≤ x.length) (fun i => x.length - i) 0 (Nat.zero_le _) ⟨rfl, rfl, rfl, rfl, rfl, trivial⟩ (fun _ h => h) ?_
  intro i hi
  dsimp only at hi ⊢
  by_cases hlt : i < x.length
  · refine Go_with _ (fun w hm _ => hm.own_some (i := 2) rfl (ne_nil_of_lt hlt)) ?_
    rintro ⟨b, of, rfl⟩
    refine VC_sound tabOk 100 ?_
    refine ⟨fun _ => ?_, fun h => by first | (simp at h; done) | (simp at h; omega) | (simp_all; done)⟩
    refine ⟨⟨by omega, by omega⟩, ?_⟩
    (repeat (first | refine Or.inl ⟨rfl, rfl, ?_⟩ | refine Or.inl ⟨rfl, ?_⟩ | refine Or.inr ?_))
    refine Go_ops rfl (OpTo_loadPart tabOk encE_is (n := i) (j := 2) (.string x[i].owner) rfl rfl rfl (fun w hm _ => hm.own_rd (i := 2) rfl) (List.getElem?_eq_getElem hlt) rfl (by simp only [addA]; rfl) ?_)
    refine VC_sound tabOk 100 ?_
    refine ⟨fun h => ?_, fun _ => ?_⟩
    · exact absurd h (nox _ (List.getElem_mem hlt))
    refine ⟨_, wrap_i64 (n := (i : Int) + 1) (by omega) (by omega), ?_⟩
    exact Go_fin (i + 1) (by omega) (by omega) ⟨rfl, rfl, rfl, rfl, rfl, trivial⟩ (fun _ h => h)
  refine VC_sound tabOk 100 ?_
  refine ⟨fun h => by first | (simp at h; done) | (simp at h; omega) | (simp_all; done), fun _ => ?_⟩
  refine Go_loop (σ := Nat) (fun i => [(0, .v (.slice A l.length c)), (12, .v (.slice Ax x.length cx)), (13, .v (.slice Ay y.length cy)), (14, .v (.slice Az z.length cz)), (16, .v (.int .i64 i))]) (fun _ => own encE 8 42 Az cz z :: own encE 8 42 Ay cy y :: own encE 8 42 Ax cx x :: own encE 8 42 A1 c1 (evsB l) :: .blk b10 31 [.int .i64 (1 + a), .slice none 0 0] :: .blk b9 31 [.int .i64 1, .slice none 0 0] :: mgrR m b1 b2 br Ar cr R) (fun i => i ≤ y.length) (fun i => y.length - i) 0 (Nat.zero_le _) ⟨rfl, rfl, rfl, rfl, rfl, trivial⟩ (fun _ h => h) ?_
  intro i hi
  dsimp only at hi ⊢
  by_cases hlt : i < y.length
  · refine Go_with _ (fun w hm _ => hm.own_some (i := 1) rfl (ne_nil_of_lt hlt)) ?_
    rintro ⟨b, of, rfl⟩
    refine VC_sound tabOk 100 ?_
    refine ⟨fun _ => ?_, fun h => by first | (simp at h; done) | (simp at h; omega) | (simp_all; done)⟩
    refine ⟨⟨by omega, by omega⟩, ?_⟩
    (repeat (first | refine Or.inl ⟨rfl, rfl, ?_⟩ | refine Or.inl ⟨rfl, ?_⟩ | refine Or.inr ?_))
    refine Go_ops rfl (OpTo_loadPart tabOk encE_is (n := i) (j := 2) (.string y[i].owner) rfl rfl rfl (fun w hm _ => hm.own_rd (i := 1) rfl) (List.getElem?_eq_getElem hlt) rfl (by simp only [addA]; rfl) ?_)
    refine VC_sound tabOk 100 ?_
    refine ⟨fun h => ?_, fun _ => ?_⟩
    · exact absurd h (noy _ (List.getElem_mem hlt))
    refine ⟨_, wrap_i64 (n := (i : Int) + 1) (by omega) (by omega), ?_⟩
    exact Go_fin (i + 1) (by omega) (by omega) ⟨rfl, rfl, rfl, rfl, rfl, trivial⟩ (fun _ h => h)
  refine VC_sound tabOk 100 ?_
  refine ⟨fun h => by first | (simp at h; done) | (simp at h; omega) | (simp_all; done), fun _ => ?_⟩
  refine Go_loop (σ := Nat) (fun i => [(0, .v (.slice A l.length c)), (12, .v (.slice Ax x.length cx)), (13, .v (.slice Ay y.length cy)), (14, .v (.slice Az z.length cz)), (17, .v (.int .i64 i))]) (fun _ => own encE 8 42 Az cz z :: own encE 8 42 Ay cy y :: own encE 8 42 Ax cx x :: own encE 8 42 A1 c1 (evsB l) :: .blk b10 31 [.int .i64 (1 + a), .slice none 0 0] :: .blk b9 31 [.int .i64 1, .slice none 0 0] :: mgrR m b1 b2 br Ar cr R) (fun i => i ≤ z.length) (fun i => z.length - i) 0 (Nat.zero_le _) ⟨rfl, rfl, rfl, rfl, rfl, trivial⟩ (fun _ h => h) ?_
  intro i hi
  dsimp only at hi ⊢
  by_cases hlt : i < z.length
  · refine Go_with _ (fun w hm _ => hm.own_some (i := 0) rfl (ne_nil_of_lt hlt)) ?_
    rintro ⟨b, of, rfl⟩
    refine VC_sound tabOk 100 ?_
    refine ⟨fun _ => ?_, fun h => by first | (simp at h; done) | (simp at h; omega) | (simp_all; done)⟩
    refine ⟨⟨by omega, by omega⟩, ?_⟩
    (repeat (first | refine Or.inl ⟨rfl, rfl, ?_⟩ | refine Or.inl ⟨rfl, ?_⟩ | refine Or.inr ?_))
    refine Go_ops rfl (OpTo_loadPart tabOk encE_is (n := i) (j := 2) (.string z[i].owner) rfl rfl rfl (fun w hm _ => hm.own_rd (i := 0) rfl) (List.getElem?_eq_getElem hlt) rfl (by simp only [addA]; rfl) ?_)
    refine VC_sound tabOk 100 ?_
    refine ⟨fun h => ?_, fun _ => ?_⟩
    · exact absurd h (noz _ (List.getElem_mem hlt))
    refine ⟨_, wrap_i64 (n := (i : Int) + 1) (by omega) (by omega), ?_⟩
    exact Go_fin (i + 1) (by omega) (by omega) ⟨rfl, rfl, rfl, rfl, rfl, trivial⟩ (fun _ h => h)
  refine VC_sound tabOk 100 ?_
  refine ⟨fun h => by first | (simp at h; done) | (simp at h; omega) | (simp_all; done), fun _ => ?_⟩
  refine ⟨fun _ => ?_, fun h => by first | (simp at h; done) | (simp at h; omega) | (simp_all; done)⟩
  exact congrArg Value.bool (by simp; omega)
end Go.Proofs.Ytphfeldcmkbinaa
