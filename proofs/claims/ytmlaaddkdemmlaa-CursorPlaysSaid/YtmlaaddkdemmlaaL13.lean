/- The laws CursorErrs and CursorSteps: what each run comes to. -/
import Derived.Test.YtmlaaddkdemmlaaCursor
set_option autoImplicit false
set_option linter.unusedVariables false
namespace Go.Proofs.Ytmlaaddkdemmlaa
open Go.RX Go Go.RowKit


theorem cu_register_ok (b bm : Nat) (al : List (ByteArray × Nat)) (name : ByteArray) (at_ : Int) (h : regE name at_ al = 0) (w0 : World) (hfs : List PH) (hm : Mod hfs (cuB b bm al) w0) :
    Calls Try.prog 10 #[ptrV b, .string name, .int .i64 at_] w0 fun e w' => ∃ v Rs', e = .returned v ∧ (v = .int .i64 0 ∧ ∃ q, Rs' = cuC q ⟨name, at_, 0⟩ :: cuB b bm (aset name q al)) ∧ Mod hfs Rs' w' ∧ Oth w0 w' :=
  (cu_register b bm al name at_ w0 hfs hm).mono fun e w' ⟨v, Rs', h1, ⟨h2, h3⟩, h4, h5⟩ => ⟨v, Rs', h1, ⟨by rw [h2, h], h3.elim (fun h3 => absurd h h3.1) fun h3 => h3.2⟩, h4, h5⟩
theorem cu_register_no (b bm : Nat) (al : List (ByteArray × Nat)) (name : ByteArray) (at_ e0 : Int) (h : regE name at_ al = e0) (hne : e0 ≠ 0) (w0 : World) (hfs : List PH) (hm : Mod hfs (cuB b bm al) w0) :
    Calls Try.prog 10 #[ptrV b, .string name, .int .i64 at_] w0 fun e w' => ∃ v Rs', e = .returned v ∧ (v = .int .i64 e0 ∧ Rs' = cuB b bm al) ∧ Mod hfs Rs' w' ∧ Oth w0 w' :=
  (cu_register b bm al name at_ w0 hfs hm).mono fun e w' ⟨v, Rs', h1, ⟨h2, h3⟩, h4, h5⟩ => ⟨v, Rs', h1, ⟨by rw [h2, h], h3.elim (fun h3 => h3.2) fun h3 => absurd (h.symm.trans h3.1) hne⟩, h4, h5⟩
theorem cu_open_ok (b bm q : Nat) (al : List (ByteArray × Nat)) (name : ByteArray) (x : CurV) (next : Int) (hr : aget name al = some q) (h : openE x next = 0) (w0 : World) (hfs : List PH) (hm : Mod hfs (cuC q x :: cuB b bm al) w0) :
    Calls Try.prog 12 #[ptrV b, .string name, .int .i64 next] w0 fun e w' => ∃ v Rs', e = .returned v ∧ (v = .int .i64 0 ∧ Rs' = cuC q ⟨x.name, x.last, next⟩ :: cuB b bm al) ∧ Mod hfs Rs' w' ∧ Oth w0 w' :=
  (cu_open b bm q al name x next hr w0 hfs hm).mono fun e w' ⟨v, Rs', h1, ⟨h2, h3⟩, h4, h5⟩ => ⟨v, Rs', h1, ⟨by rw [h2, h], by rw [h3, if_pos h]⟩, h4, h5⟩
theorem cu_open_no (b bm q : Nat) (al : List (ByteArray × Nat)) (name : ByteArray) (x : CurV) (next e0 : Int) (hr : aget name al = some q) (h : openE x next = e0) (hne : e0 ≠ 0) (w0 : World) (hfs : List PH) (hm : Mod hfs (cuC q x :: cuB b bm al) w0) :
    Calls Try.prog 12 #[ptrV b, .string name, .int .i64 next] w0 fun e w' => ∃ v Rs', e = .returned v ∧ (v = .int .i64 e0 ∧ Rs' = cuC q x :: cuB b bm al) ∧ Mod hfs Rs' w' ∧ Oth w0 w' :=
  (cu_open b bm q al name x next hr w0 hfs hm).mono fun e w' ⟨v, Rs', h1, ⟨h2, h3⟩, h4, h5⟩ => ⟨v, Rs', h1, ⟨by rw [h2, h], by rw [h3, if_neg (by rw [h]; exact hne)]⟩, h4, h5⟩

abbrev nA : ByteArray := ⟨#[97]⟩

set_option maxHeartbeats 2000000 in
theorem l13_done (w0 : World) : Calls Try.prog 11 #[] w0 fun e w' => e = .returned (.bool true) ∧ BelowD w0.heap.size w0 w' := by
  refine enterP (tab := tab) Try.func11 rfl Try.ntmps11 rfl (args := []) rfl ?_
  refine VC_sound tabOk 100 ?_
  show Go _ _ _ _
  refine Go_ops rfl (OpTo_ncall rfl rfl rfl rfl rfl (by kernel_rfl) (fun w hm _ => cu_new w) ?_)
  rintro _ _ ⟨b, bm, rfl, rfl⟩
  refine VC_sound tabOk 100 ?_
  show Go _ _ _ _
  refine Go_ops rfl (OpTo_mcall (cuB b bm []) [] (List.Perm.of_eq (by simp)) rfl rfl rfl rfl rfl (by kernel_rfl) (fun w hb hm hio hsp k => cu_register_ok b bm [] nA 3 (by decide) w _ k) ?_)
  rintro _ _ ⟨rfl, q, rfl⟩
  refine VC_sound tabOk 100 ?_
  show Go _ _ _ _
  refine Go_ops rfl (OpTo_mcall (cuC q ⟨nA, 3, 0⟩ :: cuB b bm [(nA, q)]) [] (List.Perm.of_eq rfl) rfl rfl rfl rfl rfl (by kernel_rfl) (fun w hb hm hio hsp k => cu_open_ok b bm q [(nA, q)] nA ⟨nA, 3, 0⟩ 5 rfl (by decide) w _ k) ?_)
  rintro _ _ ⟨rfl, rfl⟩
  refine VC_sound tabOk 100 ?_
  show Go _ _ _ _
  refine Go_ops rfl (OpTo_mcall (cuC q ⟨nA, 3, 5⟩ :: cuB b bm [(nA, q)]) [] (List.Perm.of_eq rfl) rfl rfl rfl rfl rfl (by kernel_rfl) (fun w hb hm hio hsp k => cu_finish b bm q [(nA, q)] nA ⟨nA, 3, 5⟩ rfl w _ k) ?_)
  rintro _ _ ⟨rfl, rfl⟩
  refine VC_sound tabOk 100 ?_
  refine ⟨fun _ => ?_, fun h => by first | (simp at h; done) | (simp at h; omega) | (simp_all; done)⟩
  refine ⟨fun _ => ?_, fun h => by first | (simp at h; done) | (simp at h; omega) | (simp_all; done)⟩
  refine ⟨fun _ => ?_, fun h => by first | (simp at h; done) | (simp at h; omega) | (simp_all; done)⟩
  rfl

set_option maxHeartbeats 4000000 in
theorem l13_CursorErrs (long at_ : Int) (w0 : World) (hl : 0 ≤ long ∧ long ≤ 255) : Calls Try.prog 3 #[.int .u8 long, .int .i64 at_] w0 fun e w' => e = .returned (.bool true) ∧ BelowD w0.heap.size w0 w' := by
  obtain ⟨K, hK, hK9⟩ : ∃ K : Nat, long.tmod 60 = K ∧ K < 60 := by
    have h1 := Int.tmod_nonneg 60 hl.1
    have h2 := Int.tmod_lt_of_pos long (b := 60) (by decide)
    exact ⟨(long.tmod 60).toNat, by omega, by omega⟩
  refine enterP (tab := tab) Try.func3 rfl Try.ntmps3 rfl (args := [_, _]) rfl ?_
  refine VC_sound tabOk 100 ?_
  show Go _ _ _ _
  refine Go_ops rfl (OpTo_ncall rfl rfl rfl rfl rfl (by kernel_rfl) (fun w hm _ => cu_new w) ?_)
  rintro _ _ ⟨b, bm, rfl, rfl⟩
  refine VC_sound tabOk 100 ?_
  refine ⟨by decide, _, hK.symm, ?_⟩
  refine ⟨_, wrap_i64 (n := (K : Int)) (by omega) (by omega), ?_⟩
  refine Go_ops rfl (OpTo_make tabOk (encI_is .u8) (z := 0) rfl rfl rfl rfl rfl rfl rfl (by omega) (by omega) (by simp; omega) (by omega) (fun bs _ => ?_))
  refine VC_sound tabOk 100 ?_
  refine Go_ops rfl (OpTo_bytesStr tabOk (ns := List.replicate K 0) rfl rfl rfl rfl rfl (by simp) (fun w hm _ => hm.own_rd (i := 0) rfl) ?_)
  have hS : (bytesOf (List.replicate K 0)).size = K := by rw [bytesOf_size]; simp
  generalize bytesOf (List.replicate K 0) = S at hS ⊢
  refine VC_sound tabOk 100 ?_
  have bad : (S.size = 0 ∨ 40 < S.size ∨ at_ < 1) → regE S at_ [] = 1 := fun h => by rw [regE, if_pos h]
  have good : ¬ (S.size = 0 ∨ 40 < S.size ∨ at_ < 1) → regE S at_ [] = 0 := fun h => by rw [regE, if_neg h]; rfl
  rcases (by omega : S.size = 0 ∨ 40 < S.size ∨ (1 ≤ S.size ∧ S.size ≤ 40 ∧ at_ < 1) ∨ (1 ≤ S.size ∧ S.size ≤ 40 ∧ 1 ≤ at_)) with h | h | ⟨h1, h2, h⟩ | ⟨h1, h2, h⟩
  · refine Go_ops rfl (OpTo_mcall (cuB b bm []) [own (encI .u8) 1 5 (some ⟨bs, 0, none⟩) K (List.replicate K 0)] (List.perm_append_comm (l₁ := [_]) (l₂ := cuB b bm [])) rfl rfl rfl rfl rfl (by kernel_rfl) (fun w hb hm hio hsp k => cu_register_no b bm [] S at_ 1 (bad (.inl h)) (by decide) w _ k) ?_)
    rintro _ _ ⟨rfl, rfl⟩
    refine VC_sound tabOk 100 ?_
    refine ⟨fun h => by first | (simp at h; done) | (simp at h; omega) | (simp_all; done), fun _ => ?_⟩
    refine ⟨fun h => by first | (simp at h; done) | (simp at h; omega) | (simp_all; done), fun _ => ?_⟩
    refine ⟨fun h => by first | (simp at h; done) | (simp at h; omega) | (simp_all; done), fun _ => ?_⟩
    refine Go_ops rfl (OpTo_pcall (v := .bool true) rfl rfl rfl rfl rfl (by kernel_rfl) (fun w hm _ => l13_done w) ?_)
    refine VC_sound tabOk 100 ?_
    rfl
  · refine Go_ops rfl (OpTo_mcall (cuB b bm []) [own (encI .u8) 1 5 (some ⟨bs, 0, none⟩) K (List.replicate K 0)] (List.perm_append_comm (l₁ := [_]) (l₂ := cuB b bm [])) rfl rfl rfl rfl rfl (by kernel_rfl) (fun w hb hm hio hsp k => cu_register_no b bm [] S at_ 1 (bad (.inr (.inl h))) (by decide) w _ k) ?_)
    rintro _ _ ⟨rfl, rfl⟩
    refine VC_sound tabOk 100 ?_
    refine ⟨fun _ => ?_, fun h => by first | (simp at h; done) | (simp at h; omega) | (simp_all; done)⟩
    refine ⟨fun h => by first | (simp at h; done) | (simp at h; omega) | (simp_all; done), fun _ => ?_⟩
    refine ⟨fun h => by first | (simp at h; done) | (simp at h; omega) | (simp_all; done), fun _ => ?_⟩
    refine ⟨fun h => by first | (simp at h; done) | (simp at h; omega) | (simp_all; done), fun _ => ?_⟩
    refine Go_ops rfl (OpTo_pcall (v := .bool true) rfl rfl rfl rfl rfl (by kernel_rfl) (fun w hm _ => l13_done w) ?_)
    refine VC_sound tabOk 100 ?_
    rfl
  · refine Go_ops rfl (OpTo_mcall (cuB b bm []) [own (encI .u8) 1 5 (some ⟨bs, 0, none⟩) K (List.replicate K 0)] (List.perm_append_comm (l₁ := [_]) (l₂ := cuB b bm [])) rfl rfl rfl rfl rfl (by kernel_rfl) (fun w hb hm hio hsp k => cu_register_no b bm [] S at_ 1 (bad (.inr (.inr h))) (by decide) w _ k) ?_)
    rintro _ _ ⟨rfl, rfl⟩
    refine VC_sound tabOk 100 ?_
    refine ⟨fun _ => ?_, fun h => by first | (simp at h; done) | (simp at h; omega) | (simp_all; done)⟩
    refine ⟨fun _ => ?_, fun h => by first | (simp at h; done) | (simp at h; omega) | (simp_all; done)⟩
    refine ⟨fun h => by first | (simp at h; done) | (simp at h; omega) | (simp_all; done), fun _ => ?_⟩
    refine ⟨fun _ => ?_, fun h => by first | (simp at h; done) | (simp at h; omega) | (simp_all; done)⟩
    refine ⟨fun h => by first | (simp at h; done) | (simp at h; omega) | (simp_all; done), fun _ => ?_⟩
    refine ⟨fun _ => ?_, fun h => by first | (simp at h; done) | (simp at h; omega) | (simp_all; done)⟩
    refine Go_ops rfl (OpTo_pcall (v := .bool true) rfl rfl rfl rfl rfl (by kernel_rfl) (fun w hm _ => l13_done w) ?_)
    refine VC_sound tabOk 100 ?_
    rfl
  · refine Go_ops rfl (OpTo_mcall (cuB b bm []) [own (encI .u8) 1 5 (some ⟨bs, 0, none⟩) K (List.replicate K 0)] (List.perm_append_comm (l₁ := [_]) (l₂ := cuB b bm [])) rfl rfl rfl rfl rfl (by kernel_rfl) (fun w hb hm hio hsp k => cu_register_ok b bm [] S at_ (good (by omega)) w _ k) ?_)
    rintro _ _ ⟨rfl, q, rfl⟩
    refine VC_sound tabOk 100 ?_
    refine ⟨fun _ => ?_, fun h => by first | (simp at h; done) | (simp at h; omega) | (simp_all; done)⟩
    refine ⟨fun _ => ?_, fun h => by first | (simp at h; done) | (simp at h; omega) | (simp_all; done)⟩
    refine ⟨fun h => by first | (simp at h; done) | (simp at h; omega) | (simp_all; done), fun _ => ?_⟩
    refine ⟨fun h => by first | (simp at h; done) | (simp at h; omega) | (simp_all; done), fun _ => ?_⟩
    refine ⟨fun h => by first | (simp at h; done) | (simp at h; omega) | (simp_all; done), fun _ => ?_⟩
    refine Go_sel [0, 1, 2] rfl ?_
    show Go _ _ _ _
    refine Go_ops rfl (OpTo_mcall (cuC q ⟨S, at_, 0⟩ :: cuB b bm [(S, q)]) [] (List.Perm.of_eq rfl) rfl rfl rfl rfl rfl (by kernel_rfl) (fun w hb hm hio hsp k => cu_open_no b bm q [(S, q)] S ⟨S, at_, 0⟩ at_ 1 (by simp [aget]) (by simp [openE]) (by decide) w _ k) ?_)
    rintro _ _ ⟨rfl, rfl⟩
    refine VC_sound tabOk 100 ?_
    show Go _ _ _ _
    refine Go_ops rfl (OpTo_mcall (cuC q ⟨S, at_, 0⟩ :: cuB b bm [(S, q)]) [] (List.Perm.of_eq rfl) rfl rfl rfl rfl rfl (by kernel_rfl) (fun w hb hm hio hsp k => cu_get b bm q [(S, q)] S ⟨S, at_, 0⟩ (by simp [aget]) w _ k) ?_)
    rintro _ _ ⟨rfl, rfl⟩
    refine VC_sound tabOk 100 ?_
    intro b10 _
    (repeat (first | refine Or.inl ⟨rfl, rfl, ?_⟩ | refine Or.inl ⟨rfl, ?_⟩ | refine Or.inr ?_))
    refine Go_sel [1, 2, 3, 0] rfl ?_
    show Go _ _ _ _
    refine Go_ops rfl (OpTo_mcall (cuC q ⟨S, at_, 0⟩ :: cuB b bm [(S, q)]) [_] (List.Perm.of_eq rfl) rfl rfl rfl rfl rfl (by kernel_rfl) (fun w hb hm hio hsp k => cu_finish b bm q [(S, q)] S ⟨S, at_, 0⟩ (by simp [aget]) w _ k) ?_)
    rintro _ _ ⟨rfl, rfl⟩
    refine VC_sound tabOk 100 ?_
    refine Go_ops rfl (OpTo_pcall (v := .bool true) rfl rfl rfl rfl rfl (by kernel_rfl) (fun w hm _ => l13_done w) ?_)
    refine VC_sound tabOk 100 ?_
    refine ⟨fun _ => ?_, fun h => by first | (simp at h; done) | (simp at h; omega) | (simp_all; done)⟩
    refine ⟨fun _ => ?_, fun h => by first | (simp at h; done) | (simp at h; omega) | (simp_all; done)⟩
    refine ⟨fun _ => ?_, fun h => by first | (simp at h; done) | (simp at h; omega) | (simp_all; done)⟩
    (repeat (first | refine Or.inl ⟨rfl, rfl, ?_⟩ | refine Or.inl ⟨rfl, ?_⟩ | refine Or.inr ?_))
    refine ⟨fun _ => ?_, fun h => by first | (simp at h; done) | (simp at h; omega) | (simp_all; done)⟩
    (repeat (first | refine Or.inl ⟨rfl, rfl, ?_⟩ | refine Or.inl ⟨rfl, ?_⟩ | refine Or.inr ?_))
    refine ⟨fun _ => ?_, fun h => by first | (simp at h; done) | (simp at h; omega) | (simp_all; done)⟩
    rfl

theorem cu_finish_ok (b bm q : Nat) (al : List (ByteArray × Nat)) (name : ByteArray) (x : CurV) (hr : aget name al = some q) (h : x.opn ≠ 0) (w0 : World) (hfs : List PH) (hm : Mod hfs (cuC q x :: cuB b bm al) w0) :
    Calls Try.prog 14 #[ptrV b, .string name] w0 fun e w' => ∃ v Rs', e = .returned v ∧ (v = .tuple #[.int .i64 x.opn, .int .i64 0] ∧ Rs' = cuC q ⟨x.name, x.opn, 0⟩ :: cuB b bm al) ∧ Mod hfs Rs' w' ∧ Oth w0 w' :=
  (cu_finish b bm q al name x hr w0 hfs hm).mono fun e w' ⟨v, Rs', h1, ⟨h2, h3⟩, h4, h5⟩ => ⟨v, Rs', h1, ⟨by rw [h2, if_neg h], by rw [h3, if_neg h]⟩, h4, h5⟩

set_option maxHeartbeats 4000000 in
theorem l13_CursorSteps (A : Option Addr) (c : Nat) (l : List Int) (w0 : World) (hA : RdW w0 A (l.flatMap (encI .u8))) (hl : ∀ z ∈ l, 0 ≤ z ∧ z ≤ 255) : Calls Try.prog 4 #[.slice A l.length c] w0 fun e w' => e = .returned (.bool true) ∧ BelowD w0.heap.size w0 w' := by
  refine enterP (tab := tab) Try.func4 rfl Try.ntmps4 rfl (args := [_]) rfl ?_
  refine VC_sound tabOk 100 ?_
  refine Go_ops rfl (OpTo_pcall (v := .bool true) rfl rfl rfl rfl rfl (by kernel_rfl) (fun w hm _ => l13_done w) ?_)
  refine VC_sound tabOk 100 ?_
  refine ⟨fun h => by first | (simp at h; done) | (simp at h; omega) | (simp_all; done), fun _ => ?_⟩
  refine ⟨fun h => ?_, fun h => ?_⟩
  · refine Go_ops rfl (OpTo_pcall (v := .bool true) rfl rfl rfl rfl rfl (by kernel_rfl) (fun w hm _ => l13_done w) ?_)
    refine VC_sound tabOk 100 ?_
    rfl
  have hlen : l.length ≤ 60 := by simp at h; omega
  show Go _ _ _ _
  refine Go_ops rfl (OpTo_ncall rfl rfl rfl rfl rfl (by kernel_rfl) (fun w hm _ => cu_new w) ?_)
  rintro _ _ ⟨b, bm, rfl, rfl⟩
  refine VC_sound tabOk 100 ?_
  show Go _ _ _ _
  refine Go_ops rfl (OpTo_mcall (cuB b bm []) [] (List.Perm.of_eq (by simp)) rfl rfl rfl rfl rfl (by kernel_rfl) (fun w hb hm hio hsp k => cu_register_ok b bm [] nA 1 (by decide) w _ k) ?_)
  rintro _ _ ⟨rfl, q, rfl⟩
  refine VC_sound tabOk 100 ?_
  refine Go_loop (σ := Nat × Int) (fun s => [(0, .v (.slice A l.length c)), (3, .v (ptrV b)), (4, .v (.int .i64 s.2)), (5, .v (.int .i64 s.1))]) (fun s => cuC q ⟨nA, s.2, 0⟩ :: cuB b bm [(nA, q)]) (fun s => s.1 ≤ l.length ∧ 1 ≤ s.2 ∧ s.2 ≤ 1 + 9 * s.1) (fun s => l.length - s.1) (0, 1) (by simp) ⟨rfl, rfl, rfl, rfl, trivial⟩ (fun _ h => h) ?_
  rintro ⟨i, last⟩ ⟨hi, h1, h9⟩
  dsimp only at hi h1 h9 ⊢
  refine VC_sound tabOk 100 ?_
  refine ⟨fun hb => ?_, fun hb => rfl⟩
  have hlt : i < l.length := by simp at hb; omega
  obtain ⟨a, o, rfl⟩ := RdW.some (encI_is .u8) hA (ne_nil_of_lt (by omega : 0 < l.length))
  have hz := hl l[i] (List.getElem_mem hlt)
  have d1 : 0 ≤ l[i].tmod 9 := Int.tmod_nonneg 9 hz.1
  have d2 : l[i].tmod 9 < 9 := Int.tmod_lt_of_pos l[i] (by decide)
  refine ⟨_, wrap_i64 (n := last + 1) (by omega) (by omega), ?_⟩
  refine ⟨⟨by omega, by omega⟩, ?_⟩
  (repeat (first | refine Or.inl ⟨rfl, rfl, ?_⟩ | refine Or.inl ⟨rfl, ?_⟩ | refine Or.inr ?_))
  refine Go_ops rfl (OpTo_loadRow tabOk (encI_is .u8) (.int .u8 l[i]) rfl rfl rfl rfl rfl (fun h => rfl) (fun w hm _ => hA.mod hm) (List.getElem?_eq_getElem hlt) (by simp only [addA]; rfl) ?_)
  refine VC_sound tabOk 100 ?_
  refine ⟨by decide, _, rfl, ?_⟩
  refine ⟨_, wrap_i64 (n := l[i].tmod 9) (by omega) (by omega), ?_⟩
  refine ⟨_, wrap_i64 (n := last + 1 + l[i].tmod 9) (by omega) (by omega), ?_⟩
  generalize hd : l[i].tmod 9 = d at d1 d2 ⊢
  show Go _ _ _ _
  refine Go_ops rfl (OpTo_mcall (cuC q ⟨nA, last, 0⟩ :: cuB b bm [(nA, q)]) [] (List.Perm.of_eq rfl) rfl rfl rfl rfl rfl (by kernel_rfl) (fun w hb hm hio hsp k => cu_open_ok b bm q [(nA, q)] nA ⟨nA, last, 0⟩ (last + 1 + d) rfl (by simp [openE]; omega) w _ k) ?_)
  rintro _ _ ⟨rfl, rfl⟩
  refine VC_sound tabOk 100 ?_
  refine ⟨fun h => by first | (simp at h; done) | (simp at h; omega) | (simp_all; done), fun _ => ?_⟩
  refine ⟨_, wrap_i64 (n := last + 1 + d + 1) (by omega) (by omega), ?_⟩
  show Go _ _ _ _
  refine Go_ops rfl (OpTo_mcall (cuC q ⟨nA, last, last + 1 + d⟩ :: cuB b bm [(nA, q)]) [] (List.Perm.of_eq rfl) rfl rfl rfl rfl rfl (by kernel_rfl) (fun w hb hm hio hsp k => cu_open_no b bm q [(nA, q)] nA ⟨nA, last, last + 1 + d⟩ (last + 1 + d + 1) 7 rfl (by simp [openE]; omega) (by decide) w _ k) ?_)
  rintro _ _ ⟨rfl, rfl⟩
  refine VC_sound tabOk 100 ?_
  refine ⟨fun h => by first | (simp at h; done) | (simp at h; omega) | (simp_all; done), fun _ => ?_⟩
  show Go _ _ _ _
  refine Go_ops rfl (OpTo_mcall (cuC q ⟨nA, last, last + 1 + d⟩ :: cuB b bm [(nA, q)]) [] (List.Perm.of_eq rfl) rfl rfl rfl rfl rfl (by kernel_rfl) (fun w hb hm hio hsp k => cu_finish_ok b bm q [(nA, q)] nA ⟨nA, last, last + 1 + d⟩ rfl (by simp; omega) w _ k) ?_)
  rintro _ _ ⟨rfl, rfl⟩
  refine VC_sound tabOk 100 ?_
  show Go _ _ _ _
  refine Go_ops rfl (OpTo_mcall (cuC q ⟨nA, last + 1 + d, 0⟩ :: cuB b bm [(nA, q)]) [] (List.Perm.of_eq rfl) rfl rfl rfl rfl rfl (by kernel_rfl) (fun w hb hm hio hsp k => cu_get b bm q [(nA, q)] nA ⟨nA, last + 1 + d, 0⟩ rfl w _ k) ?_)
  rintro _ _ ⟨rfl, rfl⟩
  refine VC_sound tabOk 100 ?_
  intro b9 _
  (repeat (first | refine Or.inl ⟨rfl, rfl, ?_⟩ | refine Or.inl ⟨rfl, ?_⟩ | refine Or.inr ?_))
  refine ⟨fun h => by first | (simp at h; done) | (simp at h; omega) | (simp_all; done), fun _ => ?_⟩
  refine ⟨fun h => by first | (simp at h; done) | (simp at h; omega) | (simp_all; done), fun _ => ?_⟩
  (repeat (first | refine Or.inl ⟨rfl, rfl, ?_⟩ | refine Or.inl ⟨rfl, ?_⟩ | refine Or.inr ?_))
  refine ⟨fun h => by first | (simp at h; done) | (simp at h; omega) | (simp_all; done), fun _ => ?_⟩
  (repeat (first | refine Or.inl ⟨rfl, rfl, ?_⟩ | refine Or.inl ⟨rfl, ?_⟩ | refine Or.inr ?_))
  refine ⟨fun h => by first | (simp at h; done) | (simp at h; omega) | (simp_all; done), fun _ => ?_⟩
  refine ⟨_, wrap_i64 (n := (i : Int) + 1) (by omega) (by omega), ?_⟩
  exact Go_fin (i + 1, last + 1 + d) ⟨by omega, by omega, by omega⟩ (by simp; omega) ⟨rfl, rfl, rfl, rfl, trivial⟩ (fun _ h => h.sel [1, 2, 3] rfl)
end Go.Proofs.Ytmlaaddkdemmlaa
