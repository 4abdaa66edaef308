/- The laws CursorErrs and CursorSteps: what each run comes to. -/
import Derived.Test.YthpcahgdobnljaaGreatCursor
set_option maxRecDepth 100000
set_option autoImplicit false
set_option linter.unusedVariables false
namespace Go.Proofs.YthpcahgdobnljaaGreat.Cu
open Go.RX Go Go.RowKit


theorem cu_register_ok (b bm : Nat) (al : List (ByteArray × Nat)) (name : ByteArray) (at_ : Int) (h : regE name at_ al = 0) (w0 : World) (hfs : List PH) (hm : Mod hfs (cuB b bm al) w0) :
    Calls Tryz.prog 85 #[ptrV b, .string name, .int .i64 at_] w0 fun e w' => ∃ v Rs', e = .returned v ∧ (v = .int .i64 0 ∧ ∃ q, Rs' = cuC q ⟨name, at_, 0⟩ :: cuB b bm (aset name q al)) ∧ Mod hfs Rs' w' ∧ Oth w0 w' :=
  (cu_register b bm al name at_ w0 hfs hm).mono fun e w' ⟨v, Rs', h1, ⟨h2, h3⟩, h4, h5⟩ => ⟨v, Rs', h1, ⟨by rw [h2, h], h3.elim (fun h3 => absurd h h3.1) fun h3 => h3.2⟩, h4, h5⟩
theorem cu_register_no (b bm : Nat) (al : List (ByteArray × Nat)) (name : ByteArray) (at_ e0 : Int) (h : regE name at_ al = e0) (hne : e0 ≠ 0) (w0 : World) (hfs : List PH) (hm : Mod hfs (cuB b bm al) w0) :
    Calls Tryz.prog 85 #[ptrV b, .string name, .int .i64 at_] w0 fun e w' => ∃ v Rs', e = .returned v ∧ (v = .int .i64 e0 ∧ Rs' = cuB b bm al) ∧ Mod hfs Rs' w' ∧ Oth w0 w' :=
  (cu_register b bm al name at_ w0 hfs hm).mono fun e w' ⟨v, Rs', h1, ⟨h2, h3⟩, h4, h5⟩ => ⟨v, Rs', h1, ⟨by rw [h2, h], h3.elim (fun h3 => h3.2) fun h3 => absurd (h.symm.trans h3.1) hne⟩, h4, h5⟩
theorem cu_open_ok (b bm q : Nat) (al : List (ByteArray × Nat)) (name : ByteArray) (x : CurV) (next : Int) (hr : aget name al = some q) (h : openE x next = 0) (w0 : World) (hfs : List PH) (hm : Mod hfs (cuC q x :: cuB b bm al) w0) :
    Calls Tryz.prog 98 #[ptrV b, .string name, .int .i64 next] w0 fun e w' => ∃ v Rs', e = .returned v ∧ (v = .int .i64 0 ∧ Rs' = cuC q ⟨x.name, x.last, next⟩ :: cuB b bm al) ∧ Mod hfs Rs' w' ∧ Oth w0 w' :=
  (cu_open b bm q al name x next hr w0 hfs hm).mono fun e w' ⟨v, Rs', h1, ⟨h2, h3⟩, h4, h5⟩ => ⟨v, Rs', h1, ⟨by rw [h2, h], by rw [h3, if_pos h]⟩, h4, h5⟩
theorem cu_open_no (b bm q : Nat) (al : List (ByteArray × Nat)) (name : ByteArray) (x : CurV) (next e0 : Int) (hr : aget name al = some q) (h : openE x next = e0) (hne : e0 ≠ 0) (w0 : World) (hfs : List PH) (hm : Mod hfs (cuC q x :: cuB b bm al) w0) :
    Calls Tryz.prog 98 #[ptrV b, .string name, .int .i64 next] w0 fun e w' => ∃ v Rs', e = .returned v ∧ (v = .int .i64 e0 ∧ Rs' = cuC q x :: cuB b bm al) ∧ Mod hfs Rs' w' ∧ Oth w0 w' :=
  (cu_open b bm q al name x next hr w0 hfs hm).mono fun e w' ⟨v, Rs', h1, ⟨h2, h3⟩, h4, h5⟩ => ⟨v, Rs', h1, ⟨by rw [h2, h], by rw [h3, if_neg (by rw [h]; exact hne)]⟩, h4, h5⟩

abbrev nA : ByteArray := ⟨#[97]⟩

theorem cu_finish_ok (b bm q : Nat) (al : List (ByteArray × Nat)) (name : ByteArray) (x : CurV) (hr : aget name al = some q) (h : x.opn ≠ 0) (w0 : World) (hfs : List PH) (hm : Mod hfs (cuC q x :: cuB b bm al) w0) :
    Calls Tryz.prog 100 #[ptrV b, .string name] w0 fun e w' => ∃ v Rs', e = .returned v ∧ (v = .tuple #[.int .i64 x.opn, .int .i64 0] ∧ Rs' = cuC q ⟨x.name, x.opn, 0⟩ :: cuB b bm al) ∧ Mod hfs Rs' w' ∧ Oth w0 w' :=
  (cu_finish b bm q al name x hr w0 hfs hm).mono fun e w' ⟨v, Rs', h1, ⟨h2, h3⟩, h4, h5⟩ => ⟨v, Rs', h1, ⟨by rw [h2, if_neg h], by rw [h3, if_neg h]⟩, h4, h5⟩

end Go.Proofs.YthpcahgdobnljaaGreat.Cu
