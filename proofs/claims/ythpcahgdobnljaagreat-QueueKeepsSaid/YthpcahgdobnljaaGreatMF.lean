/- Texts of layer 15 put together (Cursor, CurAll, L13, CurLift). -/
import Derived.Test.YthpcahgdobnljaaGreatKeys
/- What the functions of package cursor do. -/
set_option maxRecDepth 100000
set_option autoImplicit false
set_option linter.unusedVariables false
namespace Go.Proofs.YthpcahgdobnljaaGreat.Cu
open Go.RX Go Go.RowKit


structure CurV where
  name : ByteArray
  last : Int
  opn : Int
def encC : CurV → List Value := fun x => [.string x.name, .int .i64 x.last, .int .i64 x.opn]
theorem encC_is : IsEnc encC 3 := ⟨fun _ => rfl, fun x v hv => by simp [encC] at hv; rcases hv with rfl | rfl | rfl <;> rfl, by decide⟩
abbrev mkC (x : CurV) : Value := .agg #[.string x.name, .int .i64 x.last, .int .i64 x.opn]
abbrev ptrV (b : Nat) : Value := .pointer (some ⟨b, 0, none⟩)
abbrev cuB (b bm : Nat) (al : List (ByteArray × Nat)) : List Res := [.blk b 127 [.map (some bm)], mpR Value.string ptrV bm al]
abbrev cuC (q : Nat) (x : CurV) : Res := .blk q 50 [.string x.name, .int .i64 x.last, .int .i64 x.opn]

theorem bytes_empty (a : ByteArray) : (a.toList == (⟨#[]⟩ : ByteArray).toList) = decide (a.size = 0) := by
  rw [ByteArray.toList_eq, ByteArray.toList_eq]
  obtain ⟨⟨x⟩⟩ := a
  cases x with
  | nil => simp [ByteArray.size]
  | cons a r => simp [ByteArray.size]

theorem cu_new (w0 : World) : Calls Tryz.prog 82 #[] w0 fun e w' => ∃ v Rs', e = .returned v ∧ (∃ b bm, v = ptrV b ∧ Rs' = cuB b bm []) ∧ Mod [heapOf w0] Rs' w' ∧ Oth w0 w' := by
  refine enterN (tab := tab) Tryz.func82 rfl Tryz.ntmps82 rfl (args := []) rfl (Mod.start w0) ?_
  refine VC_sound tabOk 100 ?_
  refine Go_ops rfl (OpTo_makeMp (kE := Value.string) (vE := ptrV) rfl ?_)
  intro bm _
  refine VC_sound tabOk 100 ?_
  intro b _
  exact ⟨_, ⟨b, bm, rfl, rfl⟩, fun _ _ h => h⟩

/-- What 'of' hands back. -/
def ofV : Option Nat → Value
  | some q => .tuple #[ptrV q, .int .i64 0]
  | none => .tuple #[.pointer none, .int .i64 4]

theorem keyS : KeyOk Tryz.prog 9 Value.string := keyOk_str tabOk rfl

theorem cu_of (b bm : Nat) (al : List (ByteArray × Nat)) (name : ByteArray) (r : Option Nat) (hr : aget name al = r) (w0 : World) (hfs : List PH) (hm : Mod hfs (cuB b bm al) w0) :
    Calls Tryz.prog 151 #[ptrV b, .string name] w0 fun e w' => ∃ v Rs', e = .returned v ∧ (v = ofV r ∧ Rs' = cuB b bm al) ∧ Mod hfs Rs' w' ∧ Oth w0 w' := by
  refine enterN (tab := tab) Tryz.func151 rfl Tryz.ntmps151 rfl (args := [_, _]) rfl hm ?_
  refine VC_sound tabOk 100 ?_
  (repeat (first | refine Or.inl ⟨rfl, rfl, ?_⟩ | refine Or.inl ⟨rfl, ?_⟩ | refine Or.inr ?_))
  refine Go_ops rfl (OpTo_lookup tabOk (kE := Value.string) (vE := ptrV) (al := al) (b := bm) name r hr 1 rfl rfl rfl rfl rfl keyS rfl rfl ?_)
  cases r with
  | none =>
    refine VC_sound tabOk 100 ?_
    exact ⟨_, ⟨rfl, rfl⟩, fun _ _ h => h⟩
  | some q =>
    refine VC_sound tabOk 100 ?_
    (repeat (first | refine Or.inl ⟨rfl, rfl, ?_⟩ | refine Or.inl ⟨rfl, ?_⟩ | refine Or.inr ?_))
    refine Go_ops rfl (OpTo_lookup tabOk (kE := Value.string) (vE := ptrV) (al := al) (b := bm) name (some q) hr 1 rfl rfl rfl rfl rfl keyS rfl rfl ?_)
    refine VC_sound tabOk 100 ?_
    exact ⟨_, ⟨rfl, rfl⟩, fun _ _ h => h⟩

/-- What Register comes to. -/
def regE (name : ByteArray) (at_ : Int) (al : List (ByteArray × Nat)) : Int :=
  if name.size = 0 ∨ 40 < name.size ∨ at_ < 1 then 1 else if (aget name al).isSome = true then 5 else if 4 ≤ al.length then 8 else 0

set_option maxHeartbeats 1000000 in
theorem cu_register (b bm : Nat) (al : List (ByteArray × Nat)) (name : ByteArray) (at_ : Int) (w0 : World) (hfs : List PH) (hm : Mod hfs (cuB b bm al) w0) :
    Calls Tryz.prog 85 #[ptrV b, .string name, .int .i64 at_] w0 fun e w' => ∃ v Rs', e = .returned v ∧ (v = .int .i64 (regE name at_ al) ∧ ((regE name at_ al ≠ 0 ∧ Rs' = cuB b bm al) ∨ (regE name at_ al = 0 ∧ ∃ q, Rs' = cuC q ⟨name, at_, 0⟩ :: cuB b bm (aset name q al)))) ∧ Mod hfs Rs' w' ∧ Oth w0 w' := by
  refine enterN (tab := tab) Tryz.func85 rfl Tryz.ntmps85 rfl (args := [_, _, _]) rfl hm ?_
  refine VC_sound tabOk 100 ?_
  have bad : (name.size = 0 ∨ 40 < name.size ∨ at_ < 1) → Value.int .i64 1 = Value.int .i64 (regE name at_ al) ∧ ((regE name at_ al ≠ 0 ∧ cuB b bm al = cuB b bm al) ∨ (regE name at_ al = 0 ∧ ∃ q, cuB b bm al = cuC q ⟨name, at_, 0⟩ :: cuB b bm (aset name q al))) := fun h => by
    have e : regE name at_ al = 1 := by rw [regE, if_pos h]
    rw [e]; exact ⟨rfl, .inl ⟨by decide, rfl⟩⟩
  refine ⟨fun h1 => ?_, fun h1 => ?_⟩
  · rw [bytes_empty] at h1
    exact ⟨_, bad (.inl (by simpa using h1)), fun _ _ h => h⟩
  rw [bytes_empty] at h1
  refine ⟨fun h2 => ?_, fun h2 => ?_⟩
  · exact ⟨_, bad (.inr (.inl (by simp at h2; omega))), fun _ _ h => h⟩
  refine ⟨fun h3 => ?_, fun h3 => ?_⟩
  · exact ⟨_, bad (.inr (.inr (by simpa using h3))), fun _ _ h => h⟩
  have good : ¬ (name.size = 0 ∨ 40 < name.size ∨ at_ < 1) := by
    have e1 := of_decide_eq_false h1
    have e2 := of_decide_eq_false h2
    have e3 := of_decide_eq_false h3
    omega
  (repeat (first | refine Or.inl ⟨rfl, rfl, ?_⟩ | refine Or.inl ⟨rfl, ?_⟩ | refine Or.inr ?_))
  cases hr : aget name al with
  | some q =>
    refine Go_ops rfl (OpTo_lookup tabOk (kE := Value.string) (vE := ptrV) (al := al) (b := bm) name (some q) hr 1 rfl rfl rfl rfl rfl keyS rfl rfl ?_)
    refine VC_sound tabOk 100 ?_
    have e : regE name at_ al = 5 := by rw [regE, if_neg good, if_pos (by rw [hr]; rfl)]
    rw [e]
    exact ⟨_, ⟨rfl, .inl ⟨by decide, rfl⟩⟩, fun _ _ h => h⟩
  | none =>
    refine Go_ops rfl (OpTo_lookup tabOk (kE := Value.string) (vE := ptrV) (al := al) (b := bm) name none hr 1 rfl rfl rfl rfl rfl keyS rfl rfl ?_)
    refine VC_sound tabOk 100 ?_
    (repeat (first | refine Or.inl ⟨rfl, rfl, ?_⟩ | refine Or.inl ⟨rfl, ?_⟩ | refine Or.inr ?_))
    refine Go_ops rfl (OpTo_mapLen tabOk (kE := Value.string) (vE := ptrV) (al := al) 1 rfl rfl rfl rfl ?_)
    refine VC_sound tabOk 100 ?_
    refine ⟨fun h4 => ?_, fun h4 => ?_⟩
    · have e : regE name at_ al = 8 := by rw [regE, if_neg good, if_neg (by rw [hr]; simp), if_pos (by simp at h4; omega)]
      rw [e]
      exact ⟨_, ⟨rfl, .inl ⟨by decide, rfl⟩⟩, fun _ _ h => h⟩
    · have e : regE name at_ al = 0 := by rw [regE, if_neg good, if_neg (by rw [hr]; simp), if_neg (by simp at h4; omega)]
      (repeat (first | refine Or.inl ⟨rfl, rfl, ?_⟩ | refine Or.inl ⟨rfl, ?_⟩ | refine Or.inr ?_))
      intro q _
      refine Go_ops rfl (OpTo_mapUpdate tabOk (kE := Value.string) (vE := ptrV) (al := al) name q 2 rfl rfl rfl rfl rfl rfl rfl rfl keyS rfl ?_)
      refine VC_sound tabOk 100 ?_
      rw [e]
      exact ⟨_, ⟨rfl, .inr ⟨rfl, q, rfl⟩⟩, fun _ _ h => h⟩

theorem cu_unregister (b bm : Nat) (al : List (ByteArray × Nat)) (name : ByteArray) (r : Option Nat) (hr : aget name al = r) (w0 : World) (hfs : List PH) (hm : Mod hfs (cuB b bm al) w0) :
    Calls Tryz.prog 105 #[ptrV b, .string name] w0 fun e w' => ∃ v Rs', e = .returned v ∧ (v = .int .i64 (if r.isSome then 0 else 4) ∧ Rs' = cuB b bm (adel name al)) ∧ Mod hfs Rs' w' ∧ Oth w0 w' := by
  refine enterN (tab := tab) Tryz.func105 rfl Tryz.ntmps105 rfl (args := [_, _]) rfl hm ?_
  refine VC_sound tabOk 100 ?_
  show Go _ _ _ _
  refine Go_ops rfl (OpTo_mcall (cuB b bm al) [] (List.Perm.of_eq (by simp)) rfl rfl rfl rfl rfl (by kernel_rfl) (fun w hb hm hio hsp k => cu_of b bm al name r hr w _ k) ?_)
  rintro _ _ ⟨rfl, rfl⟩
  cases r with
  | none =>
    refine VC_sound tabOk 100 ?_
    refine ⟨fun h => by simp at h, fun _ => ?_⟩
    refine ⟨_, ⟨rfl, ?_⟩, fun _ _ h => h⟩
    rw [adel_none (aget_none.1 hr)]
    rfl
  | some q =>
    refine VC_sound tabOk 100 ?_
    refine ⟨fun _ => ?_, fun h => by simp at h⟩
    (repeat (first | refine Or.inl ⟨rfl, rfl, ?_⟩ | refine Or.inl ⟨rfl, ?_⟩ | refine Or.inr ?_))
    refine Go_ops rfl (OpTo_mapDel tabOk (kE := Value.string) (vE := ptrV) (al := al) name 1 rfl rfl rfl rfl rfl keyS rfl ?_)
    refine VC_sound tabOk 100 ?_
    exact ⟨_, ⟨rfl, rfl⟩, fun _ _ h => h⟩

/-- What Get hands back. -/
def getV (x : CurV) : Value := .tuple #[mkC x, .bool true]
theorem cu_get (b bm q : Nat) (al : List (ByteArray × Nat)) (name : ByteArray) (x : CurV) (hr : aget name al = some q) (w0 : World) (hfs : List PH) (hm : Mod hfs (cuC q x :: cuB b bm al) w0) :
    Calls Tryz.prog 96 #[ptrV b, .string name] w0 fun e w' => ∃ v Rs', e = .returned v ∧ (v = getV x ∧ Rs' = cuC q x :: cuB b bm al) ∧ Mod hfs Rs' w' ∧ Oth w0 w' := by
  refine enterN (tab := tab) Tryz.func96 rfl Tryz.ntmps96 rfl (args := [_, _]) rfl hm ?_
  refine VC_sound tabOk 100 ?_
  intro b4 _
  show Go _ _ _ _
  refine Go_ops rfl (OpTo_mcall (cuB b bm al) [.blk b4 50 [.string ⟨#[]⟩, .int .i64 0, .int .i64 0], cuC q x] ((List.perm_append_comm (l₁ := [_, _]) (l₂ := cuB b bm al))) rfl rfl rfl rfl rfl (by kernel_rfl) (fun w hb hm hio hsp k => cu_of b bm al name (some q) hr w _ k) ?_)
  rintro _ _ ⟨rfl, rfl⟩
  refine VC_sound tabOk 100 ?_
  refine ⟨fun h => by simp at h, fun _ => ?_⟩
  (repeat (first | refine Or.inl ⟨rfl, rfl, ?_⟩ | refine Or.inl ⟨rfl, ?_⟩ | refine Or.inr ?_))
  exact ⟨_, ⟨rfl, rfl⟩, fun _ _ h => h.sel [3, 0, 1] rfl⟩
theorem cu_get_none (b bm : Nat) (al : List (ByteArray × Nat)) (name : ByteArray) (hr : aget name al = none) (w0 : World) (hfs : List PH) (hm : Mod hfs (cuB b bm al) w0) :
    Calls Tryz.prog 96 #[ptrV b, .string name] w0 fun e w' => ∃ v Rs', e = .returned v ∧ (v = .tuple #[mkC ⟨⟨#[]⟩, 0, 0⟩, .bool false] ∧ Rs' = cuB b bm al) ∧ Mod hfs Rs' w' ∧ Oth w0 w' := by
  refine enterN (tab := tab) Tryz.func96 rfl Tryz.ntmps96 rfl (args := [_, _]) rfl hm ?_
  refine VC_sound tabOk 100 ?_
  intro b4 _
  show Go _ _ _ _
  refine Go_ops rfl (OpTo_mcall (cuB b bm al) [.blk b4 50 [.string ⟨#[]⟩, .int .i64 0, .int .i64 0]] ((List.perm_append_comm (l₁ := [_]) (l₂ := cuB b bm al))) rfl rfl rfl rfl rfl (by kernel_rfl) (fun w hb hm hio hsp k => cu_of b bm al name none hr w _ k) ?_)
  rintro _ _ ⟨rfl, rfl⟩
  refine VC_sound tabOk 100 ?_
  refine ⟨fun _ => ?_, fun h => by simp at h⟩
  (repeat (first | refine Or.inl ⟨rfl, rfl, ?_⟩ | refine Or.inl ⟨rfl, ?_⟩ | refine Or.inr ?_))
  exact ⟨_, ⟨rfl, rfl⟩, fun _ _ h => h.sel [0, 1] rfl⟩

/-- What Open comes to. -/
def openE (x : CurV) (next : Int) : Int := if 0 < x.opn then 7 else if next ≤ x.last then 1 else 0
theorem cu_open (b bm q : Nat) (al : List (ByteArray × Nat)) (name : ByteArray) (x : CurV) (next : Int) (hr : aget name al = some q) (w0 : World) (hfs : List PH) (hm : Mod hfs (cuC q x :: cuB b bm al) w0) :
    Calls Tryz.prog 98 #[ptrV b, .string name, .int .i64 next] w0 fun e w' => ∃ v Rs', e = .returned v ∧ (v = .int .i64 (openE x next) ∧ Rs' = cuC q (if openE x next = 0 then ⟨x.name, x.last, next⟩ else x) :: cuB b bm al) ∧ Mod hfs Rs' w' ∧ Oth w0 w' := by
  refine enterN (tab := tab) Tryz.func98 rfl Tryz.ntmps98 rfl (args := [_, _, _]) rfl hm ?_
  refine VC_sound tabOk 100 ?_
  show Go _ _ _ _
  refine Go_ops rfl (OpTo_mcall (cuB b bm al) [cuC q x] ((List.perm_append_comm (l₁ := [_]) (l₂ := cuB b bm al))) rfl rfl rfl rfl rfl (by kernel_rfl) (fun w hb hm hio hsp k => cu_of b bm al name (some q) hr w _ k) ?_)
  rintro _ _ ⟨rfl, rfl⟩
  refine VC_sound tabOk 100 ?_
  refine ⟨fun h => by simp at h, fun _ => ?_⟩
  (repeat (first | refine Or.inl ⟨rfl, rfl, ?_⟩ | refine Or.inl ⟨rfl, ?_⟩ | refine Or.inr ?_))
  refine ⟨fun h1 => ?_, fun h1 => ?_⟩
  · have e : openE x next = 7 := by rw [openE, if_pos (by simpa using h1)]
    rw [e]
    exact ⟨_, ⟨rfl, rfl⟩, fun _ _ h => h.sel [2, 0, 1] rfl⟩
  (repeat (first | refine Or.inl ⟨rfl, rfl, ?_⟩ | refine Or.inl ⟨rfl, ?_⟩ | refine Or.inr ?_))
  refine ⟨fun h2 => ?_, fun h2 => ?_⟩
  · have e : openE x next = 1 := by rw [openE, if_neg (by simpa using h1), if_pos (by simpa using h2)]
    rw [e]
    exact ⟨_, ⟨rfl, rfl⟩, fun _ _ h => h.sel [2, 0, 1] rfl⟩
  (repeat (first | refine Or.inl ⟨rfl, rfl, ?_⟩ | refine Or.inl ⟨rfl, ?_⟩ | refine Or.inr ?_))
  have e : openE x next = 0 := by rw [openE, if_neg (by simpa using h1), if_neg (by simpa using h2)]
  rw [e]
  exact ⟨_, ⟨rfl, rfl⟩, fun _ _ h => h.sel [2, 0, 1] rfl⟩
theorem cu_open_none (b bm : Nat) (al : List (ByteArray × Nat)) (name : ByteArray) (next : Int) (hr : aget name al = none) (w0 : World) (hfs : List PH) (hm : Mod hfs (cuB b bm al) w0) :
    Calls Tryz.prog 98 #[ptrV b, .string name, .int .i64 next] w0 fun e w' => ∃ v Rs', e = .returned v ∧ (v = .int .i64 4 ∧ Rs' = cuB b bm al) ∧ Mod hfs Rs' w' ∧ Oth w0 w' := by
  refine enterN (tab := tab) Tryz.func98 rfl Tryz.ntmps98 rfl (args := [_, _, _]) rfl hm ?_
  refine VC_sound tabOk 100 ?_
  show Go _ _ _ _
  refine Go_ops rfl (OpTo_mcall (cuB b bm al) [] (List.Perm.of_eq (by simp)) rfl rfl rfl rfl rfl (by kernel_rfl) (fun w hb hm hio hsp k => cu_of b bm al name none hr w _ k) ?_)
  rintro _ _ ⟨rfl, rfl⟩
  refine VC_sound tabOk 100 ?_
  refine ⟨fun _ => ?_, fun h => by simp at h⟩
  exact ⟨_, ⟨rfl, rfl⟩, fun _ _ h => h⟩

theorem cu_finish (b bm q : Nat) (al : List (ByteArray × Nat)) (name : ByteArray) (x : CurV) (hr : aget name al = some q) (w0 : World) (hfs : List PH) (hm : Mod hfs (cuC q x :: cuB b bm al) w0) :
    Calls Tryz.prog 100 #[ptrV b, .string name] w0 fun e w' => ∃ v Rs', e = .returned v ∧ (v = (if x.opn = 0 then .tuple #[.int .i64 0, .int .i64 7] else .tuple #[.int .i64 x.opn, .int .i64 0]) ∧ Rs' = cuC q (if x.opn = 0 then x else ⟨x.name, x.opn, 0⟩) :: cuB b bm al) ∧ Mod hfs Rs' w' ∧ Oth w0 w' := by
  refine enterN (tab := tab) Tryz.func100 rfl Tryz.ntmps100 rfl (args := [_, _]) rfl hm ?_
  refine VC_sound tabOk 100 ?_
  show Go _ _ _ _
  refine Go_ops rfl (OpTo_mcall (cuB b bm al) [cuC q x] ((List.perm_append_comm (l₁ := [_]) (l₂ := cuB b bm al))) rfl rfl rfl rfl rfl (by kernel_rfl) (fun w hb hm hio hsp k => cu_of b bm al name (some q) hr w _ k) ?_)
  rintro _ _ ⟨rfl, rfl⟩
  refine VC_sound tabOk 100 ?_
  refine ⟨fun h => by simp at h, fun _ => ?_⟩
  (repeat (first | refine Or.inl ⟨rfl, rfl, ?_⟩ | refine Or.inl ⟨rfl, ?_⟩ | refine Or.inr ?_))
  refine ⟨fun h1 => ?_, fun h1 => ?_⟩
  · have e : x.opn = 0 := by simpa using h1
    rw [if_pos e, if_pos e]
    exact ⟨_, ⟨rfl, rfl⟩, fun _ _ h => h.sel [2, 0, 1] rfl⟩
  (repeat (first | refine Or.inl ⟨rfl, rfl, ?_⟩ | refine Or.inl ⟨rfl, ?_⟩ | refine Or.inr ?_))
  have e : ¬ x.opn = 0 := by simpa using h1
  rw [if_neg e, if_neg e]
  exact ⟨_, ⟨rfl, rfl⟩, fun _ _ h => h.sel [2, 0, 1] rfl⟩
theorem cu_finish_none (b bm : Nat) (al : List (ByteArray × Nat)) (name : ByteArray) (hr : aget name al = none) (w0 : World) (hfs : List PH) (hm : Mod hfs (cuB b bm al) w0) :
    Calls Tryz.prog 100 #[ptrV b, .string name] w0 fun e w' => ∃ v Rs', e = .returned v ∧ (v = .tuple #[.int .i64 0, .int .i64 4] ∧ Rs' = cuB b bm al) ∧ Mod hfs Rs' w' ∧ Oth w0 w' := by
  refine enterN (tab := tab) Tryz.func100 rfl Tryz.ntmps100 rfl (args := [_, _]) rfl hm ?_
  refine VC_sound tabOk 100 ?_
  show Go _ _ _ _
  refine Go_ops rfl (OpTo_mcall (cuB b bm al) [] (List.Perm.of_eq (by simp)) rfl rfl rfl rfl rfl (by kernel_rfl) (fun w hb hm hio hsp k => cu_of b bm al name none hr w _ k) ?_)
  rintro _ _ ⟨rfl, rfl⟩
  refine VC_sound tabOk 100 ?_
  refine ⟨fun _ => ?_, fun h => by simp at h⟩
  exact ⟨_, ⟨rfl, rfl⟩, fun _ _ h => h⟩
end Go.Proofs.YthpcahgdobnljaaGreat.Cu

/- What the functions of package cursor do to all consumers; and of none. -/
set_option maxRecDepth 100000
set_option autoImplicit false
set_option linter.unusedVariables false
namespace Go.Proofs.YthpcahgdobnljaaGreat.Cu
open Go.RX Go Go.RowKit


/-! ### of none -/
theorem cu_of_nil (name : ByteArray) (w0 : World) : Calls Tryz.prog 151 #[.pointer none, .string name] w0 fun e w' => e = .returned (ofV none) ∧ BelowD w0.heap.size w0 w' := by
  refine enterP (tab := tab) Tryz.func151 rfl Tryz.ntmps151 rfl (args := [_, _]) rfl ?_
  refine VC_sound tabOk 100 ?_
  rfl
theorem cu_register_nil (name : ByteArray) (n : Int) (w0 : World) : Calls Tryz.prog 85 #[.pointer none, .string name, .int .i64 n] w0 fun e w' => e = .returned (.int .i64 4) ∧ BelowD w0.heap.size w0 w' := by
  refine enterP (tab := tab) Tryz.func85 rfl Tryz.ntmps85 rfl (args := [_, _, _]) rfl ?_
  refine VC_sound tabOk 100 ?_
  rfl
theorem cu_unregister_nil (name : ByteArray) (w0 : World) : Calls Tryz.prog 105 #[.pointer none, .string name] w0 fun e w' => e = .returned (.int .i64 4) ∧ BelowD w0.heap.size w0 w' := by
  refine enterP (tab := tab) Tryz.func105 rfl Tryz.ntmps105 rfl (args := [_, _]) rfl ?_
  refine VC_sound tabOk 100 ?_
  refine Go_ops rfl (OpTo_pcall (v := ofV none) rfl rfl rfl rfl rfl (by kernel_rfl) (fun w hm _ => cu_of_nil name w) ?_)
  refine VC_sound tabOk 100 ?_
  refine ⟨fun h => by first | (simp at h; done) | (simp at h; omega) | (simp_all; done), fun _ => ?_⟩
  rfl
theorem cu_open_nil (name : ByteArray) (n : Int) (w0 : World) : Calls Tryz.prog 98 #[.pointer none, .string name, .int .i64 n] w0 fun e w' => e = .returned (.int .i64 4) ∧ BelowD w0.heap.size w0 w' := by
  refine enterP (tab := tab) Tryz.func98 rfl Tryz.ntmps98 rfl (args := [_, _, _]) rfl ?_
  refine VC_sound tabOk 100 ?_
  refine Go_ops rfl (OpTo_pcall (v := ofV none) rfl rfl rfl rfl rfl (by kernel_rfl) (fun w hm _ => cu_of_nil name w) ?_)
  refine VC_sound tabOk 100 ?_
  refine ⟨fun _ => ?_, fun h => by first | (simp at h; done) | (simp at h; omega) | (simp_all; done)⟩
  rfl
theorem cu_finish_nil (name : ByteArray) (w0 : World) : Calls Tryz.prog 100 #[.pointer none, .string name] w0 fun e w' => e = .returned (.tuple #[.int .i64 0, .int .i64 4]) ∧ BelowD w0.heap.size w0 w' := by
  refine enterP (tab := tab) Tryz.func100 rfl Tryz.ntmps100 rfl (args := [_, _]) rfl ?_
  refine VC_sound tabOk 100 ?_
  refine Go_ops rfl (OpTo_pcall (v := ofV none) rfl rfl rfl rfl rfl (by kernel_rfl) (fun w hm _ => cu_of_nil name w) ?_)
  refine VC_sound tabOk 100 ?_
  refine ⟨fun _ => ?_, fun h => by first | (simp at h; done) | (simp at h; omega) | (simp_all; done)⟩
  rfl
theorem cu_get_nil (name : ByteArray) (w0 : World) : Calls Tryz.prog 96 #[.pointer none, .string name] w0 fun e w' => e = .returned (.tuple #[mkC ⟨⟨#[]⟩, 0, 0⟩, .bool false]) ∧ BelowD w0.heap.size w0 w' := by
  refine enterP (tab := tab) Tryz.func96 rfl Tryz.ntmps96 rfl (args := [_, _]) rfl ?_
  refine VC_sound tabOk 100 ?_
  intro b4 _
  refine Go_ops rfl (OpTo_pcall (v := ofV none) rfl rfl rfl rfl rfl (by kernel_rfl) (fun w hm _ => cu_of_nil name w) ?_)
  refine VC_sound tabOk 100 ?_
  refine ⟨fun _ => ?_, fun h => by first | (simp at h; done) | (simp at h; omega) | (simp_all; done)⟩
  (repeat (first | refine Or.inl ⟨rfl, rfl, ?_⟩ | refine Or.inl ⟨rfl, ?_⟩ | refine Or.inr ?_))
  rfl
theorem cu_all_nil (w0 : World) : Calls Tryz.prog 14 #[.pointer none] w0 fun e w' => e = .returned (.slice none 0 0) ∧ BelowD w0.heap.size w0 w' := by
  refine enterP (tab := tab) Tryz.func14 rfl Tryz.ntmps14 rfl (args := [_]) rfl ?_
  refine VC_sound tabOk 100 ?_
  rfl
theorem cu_least_nil (w0 : World) : Calls Tryz.prog 70 #[.pointer none] w0 fun e w' => e = .returned (.tuple #[.int .i64 0, .bool false]) ∧ BelowD w0.heap.size w0 w' := by
  refine enterP (tab := tab) Tryz.func70 rfl Tryz.ntmps70 rfl (args := [_]) rfl ?_
  refine VC_sound tabOk 100 ?_
  refine Go_ops rfl (OpTo_pcall (v := .slice none 0 0) rfl rfl rfl rfl rfl (by kernel_rfl) (fun w hm _ => cu_all_nil w) ?_)
  refine VC_sound tabOk 100 ?_
  refine ⟨fun _ => ?_, fun h => by first | (simp at h; done) | (simp at h; omega) | (simp_all; done)⟩
  rfl

/-! ### all of them -/
abbrev Cs := List (CurV × Nat)
def alOf (cs : Cs) : List (ByteArray × Nat) := cs.map fun c => (c.1.name, c.2)
def blksOf (cs : Cs) : List Res := cs.map fun c => cuC c.2 c.1
abbrev cuR (b bm : Nat) (cs : Cs) : List Res := cuB b bm (alOf cs) ++ blksOf cs
abbrev names (cs : Cs) : List ByteArray := cs.map fun c => c.1.name
theorem keys_alOf (cs : Cs) : keys (alOf cs) = names cs := by simp [alOf, keys, names]

def vOf (cs : Cs) (k : ByteArray) : CurV := (aget k (cs.map fun c => (c.1.name, c.1))).getD ⟨⟨#[]⟩, 0, 0⟩
theorem keys_vOf (cs : Cs) : keys (cs.map fun c => (c.1.name, c.1)) = names cs := by simp [keys, names]
theorem vOf_mem {cs : Cs} (hn : (names cs).Nodup) {c : CurV × Nat} (h : c ∈ cs) : vOf cs c.1.name = c.1 := by
  rw [← keys_vOf] at hn
  have : aget c.1.name (cs.map fun c => (c.1.name, c.1)) = some c.1 := aget_of_mem hn (List.mem_map.2 ⟨c, h, rfl⟩)
  rw [vOf, this]; rfl
theorem map_vOf {cs : Cs} (hn : (names cs).Nodup) : (names cs).map (vOf cs) = cs.map (·.1) := by
  rw [names, List.map_map]
  exact List.map_congr_left fun c hc => vOf_mem hn hc
theorem aget_alOf {cs : Cs} (hn : (names cs).Nodup) {c : CurV × Nat} (h : c ∈ cs) : aget c.1.name (alOf cs) = some c.2 :=
  aget_of_mem (by rw [keys_alOf]; exact hn) (List.mem_map.2 ⟨c, h, rfl⟩)

theorem rise_map {ks : List ByteArray} {f : ByteArray → CurV} (h : Rise ltS (fun x => x) ks) (hf : ∀ k ∈ ks, (f k).name = k) : Rise ltS CurV.name (ks.map f) := by
  rw [Rise, List.pairwise_map]
  exact List.Pairwise.imp_of_mem (fun ha hb h => by rw [hf _ ha, hf _ hb]; exact h) h

set_option maxHeartbeats 2000000 in
theorem cu_all (b bm : Nat) (cs : Cs) (hc : cs.length ≤ 12) (w0 : World) (hfs : List PH) (hm : Mod hfs (cuR b bm cs) w0) :
    Calls Tryz.prog 14 #[ptrV b] w0 fun e w' => ∃ v Rs', e = .returned v ∧ (∃ A c ys, v = .slice A ys.length c ∧ ys.Perm (cs.map (·.1)) ∧ Rise ltS CurV.name ys ∧ Rs' = own encC 3 50 A c ys :: cuR b bm cs) ∧ Mod hfs Rs' w' ∧ Oth w0 w' := by
  have hnd : (names cs).Nodup := by rw [← keys_alOf]; exact hm.mp_nodup (i := 1) rfl
  refine enterN (tab := tab) Tryz.func14 rfl Tryz.ntmps14 rfl (args := [_]) rfl hm ?_
  refine VC_sound tabOk 100 ?_
  (repeat (first | refine Or.inl ⟨rfl, rfl, ?_⟩ | refine Or.inl ⟨rfl, ?_⟩ | refine Or.inr ?_))
  show Go _ _ _ _
  refine Go_ops rfl (OpTo_ncall rfl rfl rfl rfl rfl (by kernel_rfl) (fun w hm _ => maps_keys_S bm w) ?_)
  rintro _ _ ⟨bc, rfl, rfl⟩
  refine VC_sound tabOk 100 ?_
  show Go _ _ _ _
  refine Go_ops rfl (OpTo_mcall [.blk bc 124 [.map (some bm)], mpR Value.string ptrV bm (alOf cs)] (.blk b 127 [.map (some bm)] :: blksOf cs) (List.Perm.cons _ (List.Perm.swap _ _ _)) rfl rfl rfl rfl rfl (by kernel_rfl) (fun w hb hm hio hsp k => sl_sorted_S ptrV bm bc (alOf cs) (by simpa [alOf] using hc) w _ k) ?_)
  rintro _ _ ⟨A, c, ks, hp, hr, rfl, rfl⟩
  rw [keys_alOf] at hp
  have hkl : ks.length = cs.length := by have := hp.length_eq; simpa using this
  have hin : ∀ k ∈ ks, ∃ x ∈ cs, x.1.name = k := fun k hk => by
    have := hp.mem_iff.1 hk
    obtain ⟨x, h1, h2⟩ := List.mem_map.1 this
    exact ⟨x, h1, h2⟩
  refine VC_sound tabOk 100 ?_
  refine Go_res _ (fun w h => h.own_nil (enc := encC) (k := 3) (T := 50) none) ?_
  refine Go_loop (σ := Option Addr × Nat × Nat) (fun s => [(0, .v (ptrV b)), (3, .v (.slice s.1 s.2.2 s.2.1)), (13, .v (.slice A ks.length c)), (14, .v (.int .i64 ks.length)), (15, .v (.int .i64 s.2.2))])
    (fun s => own encC 3 50 s.1 s.2.1 ((ks.take s.2.2).map (vOf cs)) :: own encS 1 9 A c ks :: mpR Value.string ptrV bm (alOf cs) :: .blk b 127 [.map (some bm)] :: blksOf cs)
    (fun s => s.2.2 ≤ ks.length) (fun s => ks.length - s.2.2) (none, 0, 0) (by simp) ⟨rfl, rfl, rfl, rfl, rfl, trivial⟩ (fun _ h => h) ?_
  rintro ⟨A1, c1, i⟩ hi
  dsimp only at hi ⊢
  by_cases hlt : i < ks.length
  · obtain ⟨x, hx1, hx2⟩ := hin ks[i] (List.getElem_mem hlt)
    obtain ⟨j, hj⟩ := List.mem_iff_getElem?.1 hx1
    have hq := aget_alOf hnd hx1
    have hv := vOf_mem hnd hx1
    rw [hx2] at hq hv
    refine Go_with _ (fun w hm _ => hm.own_some (i := 1) rfl (ne_nil_of_lt (by omega : 0 < ks.length))) ?_
    rintro ⟨a, o, rfl⟩
    refine VC_sound tabOk 100 ?_
    refine ⟨fun _ => ?_, fun h => by first | (simp at h; done) | (simp at h; omega) | (simp_all; done)⟩
    refine ⟨⟨by omega, by omega⟩, ?_⟩
    refine Or.inr (findR_E ?_)
    refine Go_ops rfl (OpTo_loadRow tabOk encS_is (.string ks[i]) rfl rfl rfl rfl rfl (fun h => rfl) (fun w hm _ => hm.own_rd (i := 1) rfl) (List.getElem?_eq_getElem hlt) (by simp only [addA]; rfl) ?_)
    refine VC_sound tabOk 100 ?_
    (repeat (first | refine Or.inl ⟨rfl, rfl, ?_⟩ | refine Or.inl ⟨rfl, ?_⟩ | refine Or.inr ?_))
    refine Go_ops rfl (OpTo_lookup tabOk (kE := Value.string) (vE := ptrV) (al := alOf cs) (b := bm) ks[i] (some x.2) hq 2 rfl rfl rfl rfl rfl keyS rfl rfl ?_)
    refine VC_sound tabOk 100 ?_
    refine Or.inr (findR_at (j := j) (T := 50) (cs := [.string x.1.name, .int .i64 x.1.last, .int .i64 x.1.opn]) (by simp [blksOf, hj]) ?_)
    intro b28 _
    show Go _ _ _ _
    refine Go_ops rfl (OpTo_append tabOk encC_is (ys := [x.1]) (i := 1) rfl rfl rfl rfl rfl rfl rfl rfl rfl (by simp; omega) rfl (fun w hm _ => hm.blk_rd (i := 0) rfl) (by simp; omega) (by simp; omega) (fun A2 c2 => ?_))
    refine VC_sound tabOk 100 ?_
    refine ⟨_, wrap_i64 (n := (i : Int) + 1) (by omega) (by omega), ?_⟩
    refine Go_fin (A2, c2, i + 1) (by simp; omega) (by simp; omega) ⟨rfl, rfl, rfl, rfl, rfl, trivial⟩ (fun _ h => ?_)
    have e : ((ks.take (i + 1)).map (vOf cs)) = ((ks.take i).map (vOf cs)) ++ [x.1] := by
      rw [List.take_succ_eq_append_getElem hlt, List.map_append, List.map_singleton, hv]
    dsimp only
    rw [e]
    exact Mod.drop (a := [_]) h
  · have he : i = ks.length := by omega
    subst he
    refine VC_sound tabOk 100 ?_
    refine ⟨fun h => by first | (simp at h; done) | (simp at h; omega) | (simp_all; done), fun _ => ?_⟩
    have e : (ks.take ks.length).map (vOf cs) = ks.map (vOf cs) := by rw [List.take_length]
    rw [e]
    refine ⟨_, ⟨A1, c1, ks.map (vOf cs), by simp; rfl, ?_, ?_, rfl⟩, fun _ _ h => ?_⟩
    · rw [← map_vOf hnd]
      exact hp.map _
    · refine rise_map hr fun k hk => ?_
      obtain ⟨x, h1, h2⟩ := hin k hk
      rw [← h2, vOf_mem hnd h1]
    · exact (h.permRs ((List.Perm.swap _ _ _).trans (((List.Perm.swap _ _ _).cons _).cons _))).drop (a := [_])
end Go.Proofs.YthpcahgdobnljaaGreat.Cu

/- The laws CursorErrs and CursorSteps: what each run comes to. -/
set_option maxRecDepth 100000
set_option autoImplicit false
set_option linter.unusedVariables false
namespace Go.Proofs.YthpcahgdobnljaaGreat.Cu
open Go.RX Go Go.RowKit


theorem cu_register_ok (b bm : Nat) (al : List (ByteArray × Nat)) (name : ByteArray) (at_ : Int) (h : regE name at_ al = 0) (w0 : World) (hfs : List PH) (hm : Mod hfs (cuB b bm al) w0) :
    Calls Tryz.prog 85 #[ptrV b, .string name, .int .i64 at_] w0 fun e w' => ∃ v Rs', e = .returned v ∧ (v = .int .i64 0 ∧ ∃ q, Rs' = cuC q ⟨name, at_, 0⟩ :: cuB b bm (aset name q al)) ∧ Mod hfs Rs' w' ∧ Oth w0 w' :=
  (cu_register b bm al name at_ w0 hfs hm).mono fun e w' ⟨v, Rs', h1, ⟨h2, h3⟩, h4, h5⟩ => ⟨v, Rs', h1, ⟨by rw [h2, h], h3.elim (fun h3 => absurd h h3.1) fun h3 => h3.2⟩, h4, h5⟩
theorem cu_register_no (b bm : Nat) (al : List (ByteArray × Nat)) (name : ByteArray) (at_ e0 : Int) (h : regE name at_ al = e0) (hne : e0 ≠ 0) (w0 : World) (hfs : List PH) (hm : Mod hfs (cuB b bm al) w0) :
    Calls Tryz.prog 85 #[ptrV b, .string name, .int .i64 at_] w0 fun e w' => ∃ v Rs', e = .returned v ∧ (v = .int .i64 e0 ∧ Rs' = cuB b bm al) ∧ Mod hfs Rs' w' ∧ Oth w0 w' :=
  (cu_register b bm al name at_ w0 hfs hm).mono fun e w' ⟨v, Rs', h1, ⟨h2, h3⟩, h4, h5⟩ => ⟨v, Rs', h1, ⟨by rw [h2, h], h3.elim (fun h3 => h3.2) fun h3 => absurd (h.symm.trans h3.1) hne⟩, h4, h5⟩
theorem cu_open_ok (b bm q : Nat) (al : List (ByteArray × Nat)) (name : ByteArray) (x : CurV) (next : Int) (hr : aget name al = some q) (h : openE x next = 0) (w0 : World) (hfs : List PH) (hm : Mod hfs (cuC q x :: cuB b bm al) w0) :
    Calls Tryz.prog 98 #[ptrV b, .string name, .int .i64 next] w0 fun e w' => ∃ v Rs', e = .returned v ∧ (v = .int .i64 0 ∧ Rs' = cuC q ⟨x.name, x.last, next⟩ :: cuB b bm al) ∧ Mod hfs Rs' w' ∧ Oth w0 w' :=
  (cu_open b bm q al name x next hr w0 hfs hm).mono fun e w' ⟨v, Rs', h1, ⟨h2, h3⟩, h4, h5⟩ => ⟨v, Rs', h1, ⟨by rw [h2, h], by rw [h3, if_pos h]⟩, h4, h5⟩
theorem cu_open_no (b bm q : Nat) (al : List (ByteArray × Nat)) (name : ByteArray) (x : CurV) (next e0 : Int) (hr : aget name al = some q) (h : openE x next = e0) (hne : e0 ≠ 0) (w0 : World) (hfs : List PH) (hm : Mod hfs (cuC q x :: cuB b bm al) w0) :
    Calls Tryz.prog 98 #[ptrV b, .string name, .int .i64 next] w0 fun e w' => ∃ v Rs', e = .returned v ∧ (v = .int .i64 e0 ∧ Rs' = cuC q x :: cuB b bm al) ∧ Mod hfs Rs' w' ∧ Oth w0 w' :=
  (cu_open b bm q al name x next hr w0 hfs hm).mono fun e w' ⟨v, Rs', h1, ⟨h2, h3⟩, h4, h5⟩ => ⟨v, Rs', h1, ⟨by rw [h2, h], by rw [h3, if_neg (by rw [h]; exact hne)]⟩, h4, h5⟩

abbrev nA : ByteArray := ⟨#[97]⟩

theorem cu_finish_ok (b bm q : Nat) (al : List (ByteArray × Nat)) (name : ByteArray) (x : CurV) (hr : aget name al = some q) (h : x.opn ≠ 0) (w0 : World) (hfs : List PH) (hm : Mod hfs (cuC q x :: cuB b bm al) w0) :
    Calls Tryz.prog 100 #[ptrV b, .string name] w0 fun e w' => ∃ v Rs', e = .returned v ∧ (v = .tuple #[.int .i64 x.opn, .int .i64 0] ∧ Rs' = cuC q ⟨x.name, x.opn, 0⟩ :: cuB b bm al) ∧ Mod hfs Rs' w' ∧ Oth w0 w' :=
  (cu_finish b bm q al name x hr w0 hfs hm).mono fun e w' ⟨v, Rs', h1, ⟨h2, h3⟩, h4, h5⟩ => ⟨v, Rs', h1, ⟨by rw [h2, if_neg h], by rw [h3, if_neg h]⟩, h4, h5⟩

end Go.Proofs.YthpcahgdobnljaaGreat.Cu

/- Least; and what each function of package cursor does to all consumers. -/
set_option maxRecDepth 100000
set_option autoImplicit false
set_option linter.unusedVariables false
namespace Go.Proofs.YthpcahgdobnljaaGreat.Cu
open Go.RX Go Go.RowKit


def minF (n : Int) (x : CurV) : Int := if x.last < n then x.last else n
def minL : List CurV → Int
  | [] => 0
  | y :: r => (y :: r).foldl minF y.last
def leastT (ys : List CurV) : Value := .tuple #[.int .i64 (minL ys), .bool (decide (0 < ys.length))]

set_option maxHeartbeats 2000000 in
theorem cu_least (b bm : Nat) (cs : Cs) (hc : cs.length ≤ 12) (w0 : World) (hfs : List PH) (hm : Mod hfs (cuR b bm cs) w0) :
    Calls Tryz.prog 70 #[ptrV b] w0 fun e w' => ∃ v Rs', e = .returned v ∧ ((∃ ys, v = leastT ys ∧ ys.Perm (cs.map (·.1)) ∧ Rise ltS CurV.name ys) ∧ Rs' = cuR b bm cs) ∧ Mod hfs Rs' w' ∧ Oth w0 w' := by
  refine enterN (tab := tab) Tryz.func70 rfl Tryz.ntmps70 rfl (args := [_]) rfl hm ?_
  refine VC_sound tabOk 100 ?_
  show Go _ _ _ _
  refine Go_ops rfl (OpTo_mcall (cuR b bm cs) [] (List.Perm.of_eq (by simp)) rfl rfl rfl rfl rfl (by kernel_rfl) (fun w hb hm hio hsp k => cu_all b bm cs hc w _ k) ?_)
  rintro _ _ ⟨A, c, ys, rfl, hp, hr, rfl⟩
  have hyl : ys.length = cs.length := by have := hp.length_eq; simpa using this
  refine Go_res (own encC 3 50 A c ys :: cuR b bm cs) (fun _ h => h.permRs (List.Perm.of_eq (List.append_nil _))) ?_
  by_cases h0 : ys = []
  · subst h0
    refine VC_sound tabOk 100 ?_
    refine ⟨fun _ => ?_, fun h => by first | (simp at h; done) | (simp at h; omega) | (simp_all; done)⟩
    exact ⟨_, ⟨⟨[], rfl, hp, hr⟩, rfl⟩, fun _ _ h => h.drop (a := [_])⟩
  have hpos : 0 < ys.length := List.length_pos_iff.2 h0
  refine Go_with _ (fun w hm _ => hm.own_some (i := 0) rfl h0) ?_
  rintro ⟨a, o, rfl⟩
  refine VC_sound tabOk 100 ?_
  refine ⟨fun h => by first | (simp at h; done) | (simp at h; omega) | (simp_all; done), fun _ => ?_⟩
  refine ⟨⟨by omega, by omega⟩, ?_⟩
  refine Or.inr (findR_E ?_)
  refine Go_ops rfl (OpTo_loadPart tabOk encC_is (n := 0) (j := 1) (.int .i64 ys[0].last) rfl rfl rfl (fun w hm _ => hm.own_rd (i := 0) rfl) (List.getElem?_eq_getElem hpos) rfl (by simp [addA]) ?_)
  refine VC_sound tabOk 100 ?_
  refine Go_loop (σ := Nat) (fun i => [(4, .v (.slice (some ⟨a, o, none⟩) ys.length c)), (5, .v (.int .i64 ((ys.take i).foldl minF ys[0].last))), (17, .v (.slice (some ⟨a, o, none⟩) ys.length c)), (18, .v (.int .i64 ys.length)), (19, .v (.int .i64 i))])
    (fun _ => own encC 3 50 (some ⟨a, o, none⟩) c ys :: cuR b bm cs) (fun i => i ≤ ys.length) (fun i => ys.length - i) 0 (by omega) ⟨rfl, rfl, rfl, rfl, rfl, trivial⟩ (fun _ h => h) ?_
  intro i hi
  dsimp only at hi ⊢
  refine VC_sound tabOk 100 ?_
  refine ⟨fun hb => ?_, fun hb => ?_⟩
  · have hlt : i < ys.length := by simp at hb; omega
    refine ⟨⟨by omega, by omega⟩, ?_⟩
    refine Or.inr (findR_E ?_)
    refine Go_ops rfl (OpTo_loadRow tabOk encC_is (mkC ys[i]) rfl rfl rfl rfl rfl (fun h => by cases h) (fun w hm _ => hm.own_rd (i := 0) rfl) (List.getElem?_eq_getElem hlt) (by simp only [addA]; rfl) ?_)
    refine VC_sound tabOk 100 ?_
    intro b7 _
    (repeat (first | refine Or.inl ⟨rfl, rfl, ?_⟩ | refine Or.inl ⟨rfl, ?_⟩ | refine Or.inr ?_))
    refine ⟨_, wrap_i64 (n := (i : Int) + 1) (by omega) (by omega), ?_⟩
    refine Go_fin (i + 1) (by omega) (by omega) ⟨rfl, ?_, rfl, rfl, rfl, trivial⟩ (fun _ h => Mod.drop (a := [_]) h)
    rw [List.take_succ_eq_append_getElem hlt, List.foldl_append]
    rfl
  · have he : i = ys.length := by simp at hb; omega
    subst he
    have e : leastT ys = .tuple #[.int .i64 ((ys.take ys.length).foldl minF ys[0].last), .bool true] := by
      cases ys with
      | nil => exact absurd rfl h0
      | cons y r => simp [leastT, minL]
    exact ⟨_, ⟨⟨ys, e.symm, hp, hr⟩, rfl⟩, fun _ _ h => h.drop (a := [_])⟩

/-! ### what each does to all of them -/
theorem alOf_append (cs : Cs) (c : CurV × Nat) : alOf (cs ++ [c]) = alOf cs ++ [(c.1.name, c.2)] := by simp [alOf]
theorem blksOf_append (cs ds : Cs) : blksOf (cs ++ ds) = blksOf cs ++ blksOf ds := by simp [blksOf]

def regSt (name : ByteArray) (at_ : Int) (q : Nat) (cs : Cs) : Cs := if regE name at_ (alOf cs) = 0 then cs ++ [(⟨name, at_, 0⟩, q)] else cs

theorem regE_new {name : ByteArray} {at_ : Int} {cs : Cs} (h : regE name at_ (alOf cs) = 0) : name ∉ names cs ∧ cs.length < 4 := by
  unfold regE at h
  split at h
  · cases h
  split at h
  · cases h
  rename_i h2
  split at h
  · cases h
  rename_i h3
  refine ⟨?_, by simpa [alOf] using h3⟩
  rw [← keys_alOf]
  refine aget_none.1 ?_
  cases hx : aget name (alOf cs) with
  | none => rfl
  | some q => rw [hx] at h2; simp at h2

theorem cuR_register (b bm : Nat) (cs : Cs) (name : ByteArray) (at_ : Int) (w0 : World) (hfs : List PH) (hm : Mod hfs (cuR b bm cs) w0) :
    Calls Tryz.prog 85 #[ptrV b, .string name, .int .i64 at_] w0 fun e w' => ∃ v Rs', e = .returned v ∧ (v = .int .i64 (regE name at_ (alOf cs)) ∧ ∃ q, Rs' = cuR b bm (regSt name at_ q cs)) ∧ Mod hfs Rs' w' ∧ Oth w0 w' := by
  obtain ⟨hb, h1, h2⟩ := Mod.split (a := cuB b bm (alOf cs)) (b := blksOf cs) hm
  refine (cu_register b bm (alOf cs) name at_ w0 _ h1).mono ?_
  rintro e w' ⟨v, Rs', rfl, ⟨rfl, hR⟩, hm', hio⟩
  rcases hR with ⟨hne, rfl⟩ | ⟨h0, q, rfl⟩
  · exact ⟨_, _, rfl, ⟨rfl, 0, rfl⟩, by rw [regSt, if_neg hne]; exact h2 _ _ hm', hio⟩
  · refine ⟨_, _, rfl, ⟨rfl, q, rfl⟩, ?_, hio⟩
    rw [regSt, if_pos h0, cuR, alOf_append, blksOf_append]
    have hnew := (regE_new h0).1
    rw [← keys_alOf] at hnew
    have hm2 := h2 _ _ hm'
    rw [aset_new hnew] at hm2
    refine hm2.permRs ?_
    show (cuC q ⟨name, at_, 0⟩ :: (cuB b bm (alOf cs ++ [(name, q)]) ++ blksOf cs)).Perm (cuB b bm (alOf cs ++ [(name, q)]) ++ (blksOf cs ++ [cuC q ⟨name, at_, 0⟩]))
    rw [← List.append_assoc]
    exact (List.perm_append_singleton _ _).symm

def delSt (name : ByteArray) (cs : Cs) : Cs := cs.filter fun c => !decide (c.1.name = name)
theorem alOf_del (name : ByteArray) (cs : Cs) (hn : (names cs).Nodup) : adel name (alOf cs) = alOf (delSt name cs) := by
  rw [adel_filter (by rw [keys_alOf]; exact hn)]
  simp only [alOf, delSt, List.filter_map]
  rfl

theorem cuR_unregister (b bm : Nat) (cs : Cs) (name : ByteArray) (w0 : World) (hfs : List PH) (hm : Mod hfs (cuR b bm cs) w0) :
    Calls Tryz.prog 105 #[ptrV b, .string name] w0 fun e w' => ∃ v Rs', e = .returned v ∧ (v = .int .i64 (if (aget name (alOf cs)).isSome then 0 else 4) ∧ Rs' = cuR b bm (delSt name cs)) ∧ Mod hfs Rs' w' ∧ Oth w0 w' := by
  have hnd : (names cs).Nodup := by rw [← keys_alOf]; exact hm.mp_nodup (i := 1) rfl
  obtain ⟨hb, h1, h2⟩ := Mod.split (a := cuB b bm (alOf cs)) (b := blksOf cs) hm
  refine (cu_unregister b bm (alOf cs) name _ rfl w0 _ h1).mono ?_
  rintro e w' ⟨v, Rs', rfl, ⟨rfl, rfl⟩, hm', hio⟩
  refine ⟨_, _, rfl, ⟨rfl, rfl⟩, ?_, hio⟩
  have hm2 := h2 _ _ hm'
  rw [alOf_del name cs hnd] at hm2
  refine hm2.less ?_
  exact List.Sublist.append (List.Sublist.refl _) ((List.filter_sublist).map _)
end Go.Proofs.YthpcahgdobnljaaGreat.Cu
