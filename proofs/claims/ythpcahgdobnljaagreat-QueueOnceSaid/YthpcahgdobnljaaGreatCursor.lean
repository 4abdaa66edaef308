/- What the functions of package cursor do. -/
import Derived.Test.YthpcahgdobnljaaGreatKeys
set_option maxRecDepth 100000
set_option autoImplicit false
set_option linter.unusedVariables false
namespace Go.Proofs.YthpcahgdobnljaaGreat.Cu
open Go.RX Go Go.RowKit


structure CurV where
  name : ByteArray
  last : Int
  opn : Int
def encC : CurV → List Value := fun x => [.string x.name, .int .i64 x.last, .int .i64 x.opn]
theorem encC_is : IsEnc encC 3 := ⟨fun _ => rfl, fun x v hv => by simp [encC] at hv; rcases hv with rfl | rfl | rfl <;> rfl, by decide⟩
abbrev mkC (x : CurV) : Value := .agg #[.string x.name, .int .i64 x.last, .int .i64 x.opn]
abbrev ptrV (b : Nat) : Value := .pointer (some ⟨b, 0, none⟩)
abbrev cuB (b bm : Nat) (al : List (ByteArray × Nat)) : List Res := [.blk b 127 [.map (some bm)], mpR Value.string ptrV bm al]
abbrev cuC (q : Nat) (x : CurV) : Res := .blk q 50 [.string x.name, .int .i64 x.last, .int .i64 x.opn]

theorem bytes_empty (a : ByteArray) : (a.toList == (⟨#[]⟩ : ByteArray).toList) = decide (a.size = 0) := by
  rw [ByteArray.toList_eq, ByteArray.toList_eq]
  obtain ⟨⟨x⟩⟩ := a
  cases x with
  | nil => simp [ByteArray.size]
  | cons a r => simp [ByteArray.size]

theorem cu_new (w0 : World) : Calls Tryz.prog 82 #[] w0 fun e w' => ∃ v Rs', e = .returned v ∧ (∃ b bm, v = ptrV b ∧ Rs' = cuB b bm []) ∧ Mod [heapOf w0] Rs' w' ∧ Oth w0 w' := by
  refine enterN (tab := tab) Tryz.func82 rfl Tryz.ntmps82 rfl (args := []) rfl (Mod.start w0) ?_
  refine VC_sound tabOk 100 ?_
  refine Go_ops rfl (OpTo_makeMp (kE := Value.string) (vE := ptrV) rfl ?_)
  intro bm _
  refine VC_sound tabOk 100 ?_
  intro b _
  exact ⟨_, ⟨b, bm, rfl, rfl⟩, fun _ _ h => h⟩

/-- What 'of' hands back. -/
def ofV : Option Nat → Value
  | some q => .tuple #[ptrV q, .int .i64 0]
  | none => .tuple #[.pointer none, .int .i64 4]

theorem keyS : KeyOk Tryz.prog 9 Value.string := keyOk_str tabOk rfl

theorem cu_of (b bm : Nat) (al : List (ByteArray × Nat)) (name : ByteArray) (r : Option Nat) (hr : aget name al = r) (w0 : World) (hfs : List PH) (hm : Mod hfs (cuB b bm al) w0) :
    Calls Tryz.prog 151 #[ptrV b, .string name] w0 fun e w' => ∃ v Rs', e = .returned v ∧ (v = ofV r ∧ Rs' = cuB b bm al) ∧ Mod hfs Rs' w' ∧ Oth w0 w' := by
  refine enterN (tab := tab) Tryz.func151 rfl Tryz.ntmps151 rfl (args := [_, _]) rfl hm ?_
  refine VC_sound tabOk 100 ?_
  (repeat (first | refine Or.inl ⟨rfl, rfl, ?_⟩ | refine Or.inl ⟨rfl, ?_⟩ | refine Or.inr ?_))
  refine Go_ops rfl (OpTo_lookup tabOk (kE := Value.string) (vE := ptrV) (al := al) (b := bm) name r hr 1 rfl rfl rfl rfl rfl keyS rfl rfl ?_)
  cases r with
  | none =>
    refine VC_sound tabOk 100 ?_
    exact ⟨_, ⟨rfl, rfl⟩, fun _ _ h => h⟩
  | some q =>
    refine VC_sound tabOk 100 ?_
    (repeat (first | refine Or.inl ⟨rfl, rfl, ?_⟩ | refine Or.inl ⟨rfl, ?_⟩ | refine Or.inr ?_))
    refine Go_ops rfl (OpTo_lookup tabOk (kE := Value.string) (vE := ptrV) (al := al) (b := bm) name (some q) hr 1 rfl rfl rfl rfl rfl keyS rfl rfl ?_)
    refine VC_sound tabOk 100 ?_
    exact ⟨_, ⟨rfl, rfl⟩, fun _ _ h => h⟩

/-- What Register comes to. -/
def regE (name : ByteArray) (at_ : Int) (al : List (ByteArray × Nat)) : Int :=
  if name.size = 0 ∨ 40 < name.size ∨ at_ < 1 then 1 else if (aget name al).isSome = true then 5 else if 4 ≤ al.length then 8 else 0

set_option maxHeartbeats 1000000 in
theorem cu_register (b bm : Nat) (al : List (ByteArray × Nat)) (name : ByteArray) (at_ : Int) (w0 : World) (hfs : List PH) (hm : Mod hfs (cuB b bm al) w0) :
    Calls Tryz.prog 85 #[ptrV b, .string name, .int .i64 at_] w0 fun e w' => ∃ v Rs', e = .returned v ∧ (v = .int .i64 (regE name at_ al) ∧ ((regE name at_ al ≠ 0 ∧ Rs' = cuB b bm al) ∨ (regE name at_ al = 0 ∧ ∃ q, Rs' = cuC q ⟨name, at_, 0⟩ :: cuB b bm (aset name q al)))) ∧ Mod hfs Rs' w' ∧ Oth w0 w' := by
  refine enterN (tab := tab) Tryz.func85 rfl Tryz.ntmps85 rfl (args := [_, _, _]) rfl hm ?_
  refine VC_sound tabOk 100 ?_
  have bad : (name.size = 0 ∨ 40 < name.size ∨ at_ < 1) → Value.int .i64 1 = Value.int .i64 (regE name at_ al) ∧ ((regE name at_ al ≠ 0 ∧ cuB b bm al = cuB b bm al) ∨ (regE name at_ al = 0 ∧ ∃ q, cuB b bm al = cuC q ⟨name, at_, 0⟩ :: cuB b bm (aset name q al))) := fun h => by
    have e : regE name at_ al = 1 := by rw [regE, if_pos h]
    rw [e]; exact ⟨rfl, .inl ⟨by decide, rfl⟩⟩
  refine ⟨fun h1 => ?_, fun h1 => ?_⟩
  · rw [bytes_empty] at h1
    exact ⟨_, bad (.inl (by simpa using h1)), fun _ _ h => h⟩
  rw [bytes_empty] at h1
  refine ⟨fun h2 => ?_, fun h2 => ?_⟩
  · exact ⟨_, bad (.inr (.inl (by simp at h2; omega))), fun _ _ h => h⟩
  refine ⟨fun h3 => ?_, fun h3 => ?_⟩
  · exact ⟨_, bad (.inr (.inr (by simpa using h3))), fun _ _ h => h⟩
  have good : ¬ (name.size = 0 ∨ 40 < name.size ∨ at_ < 1) := by
    have e1 := of_decide_eq_false h1
    have e2 := of_decide_eq_false h2
    have e3 := of_decide_eq_false h3
    omega
  (repeat (first | refine Or.inl ⟨rfl, rfl, ?_⟩ | refine Or.inl ⟨rfl, ?_⟩ | refine Or.inr ?_))
  cases hr : aget name al with
  | some q =>
    refine Go_ops rfl (OpTo_lookup tabOk (kE := Value.string) (vE := ptrV) (al := al) (b := bm) name (some q) hr 1 rfl rfl rfl rfl rfl keyS rfl rfl ?_)
    refine VC_sound tabOk 100 ?_
    have e : regE name at_ al = 5 := by rw [regE, if_neg good, if_pos (by rw [hr]; rfl)]
    rw [e]
    exact ⟨_, ⟨rfl, .inl ⟨by decide, rfl⟩⟩, fun _ _ h => h⟩
  | none =>
    refine Go_ops rfl (OpTo_lookup tabOk (kE := Value.string) (vE := ptrV) (al := al) (b := bm) name none hr 1 rfl rfl rfl rfl rfl keyS rfl rfl ?_)
    refine VC_sound tabOk 100 ?_
    (repeat (first | refine Or.inl ⟨rfl, rfl, ?_⟩ | refine Or.inl ⟨rfl, ?_⟩ | refine Or.inr ?_))
    refine Go_ops rfl (OpTo_mapLen tabOk (kE := Value.string) (vE := ptrV) (al := al) 1 rfl rfl rfl rfl ?_)
    refine VC_sound tabOk 100 ?_
    refine ⟨fun h4 => ?_, fun h4 => ?_⟩
    · have e : regE name at_ al = 8 := by rw [regE, if_neg good, if_neg (by rw [hr]; simp), if_pos (by simp at h4; omega)]
      rw [e]
      exact ⟨_, ⟨rfl, .inl ⟨by decide, rfl⟩⟩, fun _ _ h => h⟩
    · have e : regE name at_ al = 0 := by rw [regE, if_neg good, if_neg (by rw [hr]; simp), if_neg (by simp at h4; omega)]
      (repeat (first | refine Or.inl ⟨rfl, rfl, ?_⟩ | refine Or.inl ⟨rfl, ?_⟩ | refine Or.inr ?_))
      intro q _
      refine Go_ops rfl (OpTo_mapUpdate tabOk (kE := Value.string) (vE := ptrV) (al := al) name q 2 rfl rfl rfl rfl rfl rfl rfl rfl keyS rfl ?_)
      refine VC_sound tabOk 100 ?_
      rw [e]
      exact ⟨_, ⟨rfl, .inr ⟨rfl, q, rfl⟩⟩, fun _ _ h => h⟩

theorem cu_unregister (b bm : Nat) (al : List (ByteArray × Nat)) (name : ByteArray) (r : Option Nat) (hr : aget name al = r) (w0 : World) (hfs : List PH) (hm : Mod hfs (cuB b bm al) w0) :
    Calls Tryz.prog 105 #[ptrV b, .string name] w0 fun e w' => ∃ v Rs', e = .returned v ∧ (v = .int .i64 (if r.isSome then 0 else 4) ∧ Rs' = cuB b bm (adel name al)) ∧ Mod hfs Rs' w' ∧ Oth w0 w' := by
  refine enterN (tab := tab) Tryz.func105 rfl Tryz.ntmps105 rfl (args := [_, _]) rfl hm ?_
  refine VC_sound tabOk 100 ?_
  show Go _ _ _ _
  refine Go_ops rfl (OpTo_mcall (cuB b bm al) [] (List.Perm.of_eq (by simp)) rfl rfl rfl rfl rfl (by kernel_rfl) (fun w hb hm hio hsp k => cu_of b bm al name r hr w _ k) ?_)
  rintro _ _ ⟨rfl, rfl⟩
  cases r with
  | none =>
    refine VC_sound tabOk 100 ?_
    refine ⟨fun h => by simp at h, fun _ => ?_⟩
    refine ⟨_, ⟨rfl, ?_⟩, fun _ _ h => h⟩
    rw [adel_none (aget_none.1 hr)]
    rfl
  | some q =>
    refine VC_sound tabOk 100 ?_
    refine ⟨fun _ => ?_, fun h => by simp at h⟩
    (repeat (first | refine Or.inl ⟨rfl, rfl, ?_⟩ | refine Or.inl ⟨rfl, ?_⟩ | refine Or.inr ?_))
    refine Go_ops rfl (OpTo_mapDel tabOk (kE := Value.string) (vE := ptrV) (al := al) name 1 rfl rfl rfl rfl rfl keyS rfl ?_)
    refine VC_sound tabOk 100 ?_
    exact ⟨_, ⟨rfl, rfl⟩, fun _ _ h => h⟩

/-- What Get hands back. -/
def getV (x : CurV) : Value := .tuple #[mkC x, .bool true]
theorem cu_get (b bm q : Nat) (al : List (ByteArray × Nat)) (name : ByteArray) (x : CurV) (hr : aget name al = some q) (w0 : World) (hfs : List PH) (hm : Mod hfs (cuC q x :: cuB b bm al) w0) :
    Calls Tryz.prog 96 #[ptrV b, .string name] w0 fun e w' => ∃ v Rs', e = .returned v ∧ (v = getV x ∧ Rs' = cuC q x :: cuB b bm al) ∧ Mod hfs Rs' w' ∧ Oth w0 w' := by
  refine enterN (tab := tab) Tryz.func96 rfl Tryz.ntmps96 rfl (args := [_, _]) rfl hm ?_
  refine VC_sound tabOk 100 ?_
  intro b4 _
  show Go _ _ _ _
  refine Go_ops rfl (OpTo_mcall (cuB b bm al) [.blk b4 50 [.string ⟨#[]⟩, .int .i64 0, .int .i64 0], cuC q x] ((List.perm_append_comm (l₁ := [_, _]) (l₂ := cuB b bm al))) rfl rfl rfl rfl rfl (by kernel_rfl) (fun w hb hm hio hsp k => cu_of b bm al name (some q) hr w _ k) ?_)
  rintro _ _ ⟨rfl, rfl⟩
  refine VC_sound tabOk 100 ?_
  refine ⟨fun h => by simp at h, fun _ => ?_⟩
  (repeat (first | refine Or.inl ⟨rfl, rfl, ?_⟩ | refine Or.inl ⟨rfl, ?_⟩ | refine Or.inr ?_))
  exact ⟨_, ⟨rfl, rfl⟩, fun _ _ h => h.sel [3, 0, 1] rfl⟩
theorem cu_get_none (b bm : Nat) (al : List (ByteArray × Nat)) (name : ByteArray) (hr : aget name al = none) (w0 : World) (hfs : List PH) (hm : Mod hfs (cuB b bm al) w0) :
    Calls Tryz.prog 96 #[ptrV b, .string name] w0 fun e w' => ∃ v Rs', e = .returned v ∧ (v = .tuple #[mkC ⟨⟨#[]⟩, 0, 0⟩, .bool false] ∧ Rs' = cuB b bm al) ∧ Mod hfs Rs' w' ∧ Oth w0 w' := by
  refine enterN (tab := tab) Tryz.func96 rfl Tryz.ntmps96 rfl (args := [_, _]) rfl hm ?_
  refine VC_sound tabOk 100 ?_
  intro b4 _
  show Go _ _ _ _
  refine Go_ops rfl (OpTo_mcall (cuB b bm al) [.blk b4 50 [.string ⟨#[]⟩, .int .i64 0, .int .i64 0]] ((List.perm_append_comm (l₁ := [_]) (l₂ := cuB b bm al))) rfl rfl rfl rfl rfl (by kernel_rfl) (fun w hb hm hio hsp k => cu_of b bm al name none hr w _ k) ?_)
  rintro _ _ ⟨rfl, rfl⟩
  refine VC_sound tabOk 100 ?_
  refine ⟨fun _ => ?_, fun h => by simp at h⟩
  (repeat (first | refine Or.inl ⟨rfl, rfl, ?_⟩ | refine Or.inl ⟨rfl, ?_⟩ | refine Or.inr ?_))
  exact ⟨_, ⟨rfl, rfl⟩, fun _ _ h => h.sel [0, 1] rfl⟩

/-- What Open comes to. -/
def openE (x : CurV) (next : Int) : Int := if 0 < x.opn then 7 else if next ≤ x.last then 1 else 0
theorem cu_open (b bm q : Nat) (al : List (ByteArray × Nat)) (name : ByteArray) (x : CurV) (next : Int) (hr : aget name al = some q) (w0 : World) (hfs : List PH) (hm : Mod hfs (cuC q x :: cuB b bm al) w0) :
    Calls Tryz.prog 98 #[ptrV b, .string name, .int .i64 next] w0 fun e w' => ∃ v Rs', e = .returned v ∧ (v = .int .i64 (openE x next) ∧ Rs' = cuC q (if openE x next = 0 then ⟨x.name, x.last, next⟩ else x) :: cuB b bm al) ∧ Mod hfs Rs' w' ∧ Oth w0 w' := by
  refine enterN (tab := tab) Tryz.func98 rfl Tryz.ntmps98 rfl (args := [_, _, _]) rfl hm ?_
  refine VC_sound tabOk 100 ?_
  show Go _ _ _ _
  refine Go_ops rfl (OpTo_mcall (cuB b bm al) [cuC q x] ((List.perm_append_comm (l₁ := [_]) (l₂ := cuB b bm al))) rfl rfl rfl rfl rfl (by kernel_rfl) (fun w hb hm hio hsp k => cu_of b bm al name (some q) hr w _ k) ?_)
  rintro _ _ ⟨rfl, rfl⟩
  refine VC_sound tabOk 100 ?_
  refine ⟨fun h => by simp at h, fun _ => ?_⟩
  (repeat (first | refine Or.inl ⟨rfl, rfl, ?_⟩ | refine Or.inl ⟨rfl, ?_⟩ | refine Or.inr ?_))
  refine ⟨fun h1 => ?_, fun h1 => ?_⟩
  · have e : openE x next = 7 := by rw [openE, if_pos (by simpa using h1)]
    rw [e]
    exact ⟨_, ⟨rfl, rfl⟩, fun _ _ h => h.sel [2, 0, 1] rfl⟩
  (repeat (first | refine Or.inl ⟨rfl, rfl, ?_⟩ | refine Or.inl ⟨rfl, ?_⟩ | refine Or.inr ?_))
  refine ⟨fun h2 => ?_, fun h2 => ?_⟩
  · have e : openE x next = 1 := by rw [openE, if_neg (by simpa using h1), if_pos (by simpa using h2)]
    rw [e]
    exact ⟨_, ⟨rfl, rfl⟩, fun _ _ h => h.sel [2, 0, 1] rfl⟩
  (repeat (first | refine Or.inl ⟨rfl, rfl, ?_⟩ | refine Or.inl ⟨rfl, ?_⟩ | refine Or.inr ?_))
  have e : openE x next = 0 := by rw [openE, if_neg (by simpa using h1), if_neg (by simpa using h2)]
  rw [e]
  exact ⟨_, ⟨rfl, rfl⟩, fun _ _ h => h.sel [2, 0, 1] rfl⟩
theorem cu_open_none (b bm : Nat) (al : List (ByteArray × Nat)) (name : ByteArray) (next : Int) (hr : aget name al = none) (w0 : World) (hfs : List PH) (hm : Mod hfs (cuB b bm al) w0) :
    Calls Tryz.prog 98 #[ptrV b, .string name, .int .i64 next] w0 fun e w' => ∃ v Rs', e = .returned v ∧ (v = .int .i64 4 ∧ Rs' = cuB b bm al) ∧ Mod hfs Rs' w' ∧ Oth w0 w' := by
  refine enterN (tab := tab) Tryz.func98 rfl Tryz.ntmps98 rfl (args := [_, _, _]) rfl hm ?_
  refine VC_sound tabOk 100 ?_
  show Go _ _ _ _
  refine Go_ops rfl (OpTo_mcall (cuB b bm al) [] (List.Perm.of_eq (by simp)) rfl rfl rfl rfl rfl (by kernel_rfl) (fun w hb hm hio hsp k => cu_of b bm al name none hr w _ k) ?_)
  rintro _ _ ⟨rfl, rfl⟩
  refine VC_sound tabOk 100 ?_
  refine ⟨fun _ => ?_, fun h => by simp at h⟩
  exact ⟨_, ⟨rfl, rfl⟩, fun _ _ h => h⟩

theorem cu_finish (b bm q : Nat) (al : List (ByteArray × Nat)) (name : ByteArray) (x : CurV) (hr : aget name al = some q) (w0 : World) (hfs : List PH) (hm : Mod hfs (cuC q x :: cuB b bm al) w0) :
    Calls Tryz.prog 100 #[ptrV b, .string name] w0 fun e w' => ∃ v Rs', e = .returned v ∧ (v = (if x.opn = 0 then .tuple #[.int .i64 0, .int .i64 7] else .tuple #[.int .i64 x.opn, .int .i64 0]) ∧ Rs' = cuC q (if x.opn = 0 then x else ⟨x.name, x.opn, 0⟩) :: cuB b bm al) ∧ Mod hfs Rs' w' ∧ Oth w0 w' := by
  refine enterN (tab := tab) Tryz.func100 rfl Tryz.ntmps100 rfl (args := [_, _]) rfl hm ?_
  refine VC_sound tabOk 100 ?_
  show Go _ _ _ _
  refine Go_ops rfl (OpTo_mcall (cuB b bm al) [cuC q x] ((List.perm_append_comm (l₁ := [_]) (l₂ := cuB b bm al))) rfl rfl rfl rfl rfl (by kernel_rfl) (fun w hb hm hio hsp k => cu_of b bm al name (some q) hr w _ k) ?_)
  rintro _ _ ⟨rfl, rfl⟩
  refine VC_sound tabOk 100 ?_
  refine ⟨fun h => by simp at h, fun _ => ?_⟩
  (repeat (first | refine Or.inl ⟨rfl, rfl, ?_⟩ | refine Or.inl ⟨rfl, ?_⟩ | refine Or.inr ?_))
  refine ⟨fun h1 => ?_, fun h1 => ?_⟩
  · have e : x.opn = 0 := by simpa using h1
    rw [if_pos e, if_pos e]
    exact ⟨_, ⟨rfl, rfl⟩, fun _ _ h => h.sel [2, 0, 1] rfl⟩
  (repeat (first | refine Or.inl ⟨rfl, rfl, ?_⟩ | refine Or.inl ⟨rfl, ?_⟩ | refine Or.inr ?_))
  have e : ¬ x.opn = 0 := by simpa using h1
  rw [if_neg e, if_neg e]
  exact ⟨_, ⟨rfl, rfl⟩, fun _ _ h => h.sel [2, 0, 1] rfl⟩
theorem cu_finish_none (b bm : Nat) (al : List (ByteArray × Nat)) (name : ByteArray) (hr : aget name al = none) (w0 : World) (hfs : List PH) (hm : Mod hfs (cuB b bm al) w0) :
    Calls Tryz.prog 100 #[ptrV b, .string name] w0 fun e w' => ∃ v Rs', e = .returned v ∧ (v = .tuple #[.int .i64 0, .int .i64 4] ∧ Rs' = cuB b bm al) ∧ Mod hfs Rs' w' ∧ Oth w0 w' := by
  refine enterN (tab := tab) Tryz.func100 rfl Tryz.ntmps100 rfl (args := [_, _]) rfl hm ?_
  refine VC_sound tabOk 100 ?_
  show Go _ _ _ _
  refine Go_ops rfl (OpTo_mcall (cuB b bm al) [] (List.Perm.of_eq (by simp)) rfl rfl rfl rfl rfl (by kernel_rfl) (fun w hb hm hio hsp k => cu_of b bm al name none hr w _ k) ?_)
  rintro _ _ ⟨rfl, rfl⟩
  refine VC_sound tabOk 100 ?_
  refine ⟨fun _ => ?_, fun h => by simp at h⟩
  exact ⟨_, ⟨rfl, rfl⟩, fun _ _ h => h⟩
end Go.Proofs.YthpcahgdobnljaaGreat.Cu
