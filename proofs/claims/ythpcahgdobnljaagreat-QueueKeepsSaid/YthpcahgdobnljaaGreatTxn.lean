/- What the functions of package txn do. -/
import Derived.Test.YthpcahgdobnljaaGreatSnap
import Derived.Test.YthpcahgdobnljaaGreatSl64
import Derived.Test.YthpcahgdobnljaaGreatRxB
import Derived.Test.YthpcahgdobnljaaGreatKeysI
set_option maxRecDepth 100000
set_option autoImplicit false
set_option linter.unusedVariables false
namespace Go.Proofs.YthpcahgdobnljaaGreat
open Go.RX Go Go.RowKit

/-- A manager: the next number, who is open, who is committed. -/
structure TxS where
  next : Int
  O : List Int
  D : List Int

def tm (l : List Int) : List (Int × Bool) := l.map fun x => (x, true)
abbrev KI : Int → Value := Value.int .i64
abbrev txB (m b1 b2 : Nat) (s : TxS) : List Res := [.blk m 136 [.int .i64 s.next, .map (some b1), .map (some b2)], mpR KI Value.bool b1 (tm s.O), mpR KI Value.bool b2 (tm s.D)]
theorem keys_tm (l : List Int) : keys (tm l) = l := by simp [tm, keys, List.map_map, Function.comp_def]
theorem aget_tm_in {x : Int} {l : List Int} (h : x ∈ l) : aget x (tm l) = some true := by
  cases hx : aget x (tm l) with
  | none => have := aget_none.1 hx; rw [keys_tm] at this; exact absurd h this
  | some v =>
    have := aget_mem hx
    obtain ⟨y, _, e⟩ := List.mem_map.1 this
    cases e; rfl
theorem aget_tm_out {x : Int} {l : List Int} (h : ¬ x ∈ l) : aget x (tm l) = none := aget_none.2 (by rw [keys_tm]; exact h)
def ins (x : Int) (l : List Int) : List Int := if x ∈ l then l else l ++ [x]
theorem aset_tm (x : Int) : ∀ (l : List Int), aset x true (tm l) = tm (ins x l)
  | [] => rfl
  | y :: r => by
    have ih := aset_tm x r
    simp only [tm, List.map_cons, aset] at ih ⊢
    by_cases h : y = x
    · subst h; simp [ins]
    · rw [if_neg h, ih]
      simp only [ins, List.mem_cons, Ne.symm h, false_or]
      split <;> simp
def del (x : Int) (l : List Int) : List Int := l.filter fun y => !decide (y = x)
theorem adel_tm (x : Int) (l : List Int) (h : l.Nodup) : adel x (tm l) = tm (del x l) := by
  rw [adel_filter (by rw [keys_tm]; exact h)]
  simp only [tm, del, List.filter_map]; rfl

theorem keyI : KeyOk Tryz.prog 2 KI := keyOk_int tabOk rfl

theorem txn_new (w0 : World) : Calls Tryz.prog 19 #[] w0 fun e w' => ∃ v Rs', e = .returned v ∧ (∃ m b1 b2, v = .pointer (some ⟨m, 0, none⟩) ∧ Rs' = txB m b1 b2 ⟨1, [], []⟩) ∧ Mod [heapOf w0] Rs' w' ∧ Oth w0 w' := by
  refine enterN (tab := tab) Tryz.func19 rfl Tryz.ntmps19 rfl (args := []) rfl (Mod.start w0) ?_
  refine VC_sound tabOk 100 ?_
  refine Go_ops rfl (OpTo_makeMp (kE := KI) (vE := Value.bool) rfl ?_)
  intro b1 _
  refine VC_sound tabOk 100 ?_
  refine Go_ops rfl (OpTo_makeMp (kE := KI) (vE := Value.bool) rfl ?_)
  intro b2 _
  refine VC_sound tabOk 100 ?_
  intro bm _
  exact ⟨_, ⟨bm, b1, b2, rfl, rfl⟩, fun _ _ h => h.sel [0, 2, 1] rfl⟩

/-- What Begin comes to. -/
def begOk (s : TxS) : Prop := s.O.length < 6 ∧ s.next < 1048576
def begS (s : TxS) : TxS := ⟨s.next + 1, s.O ++ [s.next], s.D⟩

theorem txn_begin_ok (m b1 b2 : Nat) (s : TxS) (h : begOk s) (h1 : 1 ≤ s.next) (hO : ¬ s.next ∈ s.O) (w0 : World) (hfs : List PH) (hm : Mod hfs (txB m b1 b2 s) w0) :
    Calls Tryz.prog 24 #[.pointer (some ⟨m, 0, none⟩)] w0 fun e w' => ∃ v Rs', e = .returned v ∧ (v = .tuple #[.int .i64 s.next, .int .i64 0] ∧ Rs' = txB m b1 b2 (begS s)) ∧ Mod hfs Rs' w' ∧ Oth w0 w' := by
  obtain ⟨h6, hx⟩ := h
  have hl : (tm s.O).length = s.O.length := by simp [tm]
  refine enterN (tab := tab) Tryz.func24 rfl Tryz.ntmps24 rfl (args := [_]) rfl hm ?_
  refine VC_sound tabOk 100 ?_
  (repeat (first | refine Or.inl ⟨rfl, rfl, ?_⟩ | refine Or.inl ⟨rfl, ?_⟩ | refine Or.inr ?_))
  refine Go_ops rfl (OpTo_mapLen tabOk (kE := KI) (vE := Value.bool) (al := tm s.O) 1 rfl rfl rfl rfl ?_)
  rw [hl]
  refine VC_sound tabOk 100 ?_
  refine ⟨fun h => by first | (simp at h; done) | (simp at h; omega) | (simp_all; done), fun _ => ?_⟩
  (repeat (first | refine Or.inl ⟨rfl, rfl, ?_⟩ | refine Or.inl ⟨rfl, ?_⟩ | refine Or.inr ?_))
  refine ⟨fun h => by first | (simp at h; done) | (simp at h; omega) | (simp_all; done), fun _ => ?_⟩
  (repeat (first | refine Or.inl ⟨rfl, rfl, ?_⟩ | refine Or.inl ⟨rfl, ?_⟩ | refine Or.inr ?_))
  refine ⟨_, wrap_i64 (n := s.next + 1) (by omega) (by omega), ?_⟩
  (repeat (first | refine Or.inl ⟨rfl, rfl, ?_⟩ | refine Or.inl ⟨rfl, ?_⟩ | refine Or.inr ?_))
  refine Go_ops rfl (OpTo_mapUpdate tabOk (kE := KI) (vE := Value.bool) (al := tm s.O) s.next true 1 rfl rfl rfl rfl rfl rfl rfl rfl keyI rfl ?_)
  rw [aset_tm, ins, if_neg hO]
  refine VC_sound tabOk 100 ?_
  exact ⟨_, ⟨rfl, rfl⟩, fun _ _ h => h⟩

theorem txn_begin_full (m b1 b2 : Nat) (s : TxS) (h : 6 ≤ s.O.length ∨ 1048576 ≤ s.next) (w0 : World) (hfs : List PH) (hm : Mod hfs (txB m b1 b2 s) w0) :
    Calls Tryz.prog 24 #[.pointer (some ⟨m, 0, none⟩)] w0 fun e w' => ∃ v Rs', e = .returned v ∧ (v = .tuple #[.int .i64 0, .int .i64 8] ∧ Rs' = txB m b1 b2 s) ∧ Mod hfs Rs' w' ∧ Oth w0 w' := by
  have hl : (tm s.O).length = s.O.length := by simp [tm]
  refine enterN (tab := tab) Tryz.func24 rfl Tryz.ntmps24 rfl (args := [_]) rfl hm ?_
  refine VC_sound tabOk 100 ?_
  (repeat (first | refine Or.inl ⟨rfl, rfl, ?_⟩ | refine Or.inl ⟨rfl, ?_⟩ | refine Or.inr ?_))
  refine Go_ops rfl (OpTo_mapLen tabOk (kE := KI) (vE := Value.bool) (al := tm s.O) 1 rfl rfl rfl rfl ?_)
  rw [hl]
  refine VC_sound tabOk 100 ?_
  refine ⟨fun h6 => ?_, fun h6 => ?_⟩
  · exact ⟨_, ⟨rfl, rfl⟩, fun _ _ h => h⟩
  · have h6' : s.O.length < 6 := by simp at h6; omega
    (repeat (first | refine Or.inl ⟨rfl, rfl, ?_⟩ | refine Or.inl ⟨rfl, ?_⟩ | refine Or.inr ?_))
    refine ⟨fun _ => ?_, fun h => by first | (simp at h; done) | (simp at h; omega) | (simp_all; done)⟩
    exact ⟨_, ⟨rfl, rfl⟩, fun _ _ h => h⟩

theorem txn_end_ok (m b1 b2 : Nat) (s : TxS) (x : Int) (h : x ∈ s.O) (w0 : World) (hfs : List PH) (hm : Mod hfs (txB m b1 b2 s) w0) :
    Calls Tryz.prog 87 #[.pointer (some ⟨m, 0, none⟩), .int .i64 x] w0 fun e w' => ∃ v Rs', e = .returned v ∧ (v = .int .i64 0 ∧ Rs' = txB m b1 b2 ⟨s.next, del x s.O, s.D⟩) ∧ Mod hfs Rs' w' ∧ Oth w0 w' := by
  have hnd : s.O.Nodup := by have := hm.mp_nodup (i := 1) rfl; rwa [keys_tm] at this
  refine enterN (tab := tab) Tryz.func87 rfl Tryz.ntmps87 rfl (args := [_, _]) rfl hm ?_
  refine VC_sound tabOk 100 ?_
  (repeat (first | refine Or.inl ⟨rfl, rfl, ?_⟩ | refine Or.inl ⟨rfl, ?_⟩ | refine Or.inr ?_))
  refine Go_ops rfl (OpTo_lookup tabOk (kE := KI) (vE := Value.bool) (al := tm s.O) (b := b1) x (some true) (aget_tm_in h) 1 rfl rfl rfl rfl rfl keyI rfl rfl ?_)
  refine VC_sound tabOk 100 ?_
  refine ⟨fun h => by first | (simp at h; done) | (simp at h; omega) | (simp_all; done), fun _ => ?_⟩
  (repeat (first | refine Or.inl ⟨rfl, rfl, ?_⟩ | refine Or.inl ⟨rfl, ?_⟩ | refine Or.inr ?_))
  refine Go_ops rfl (OpTo_mapDel tabOk (kE := KI) (vE := Value.bool) (al := tm s.O) x 1 rfl rfl rfl rfl rfl keyI rfl ?_)
  rw [adel_tm x s.O hnd]
  refine VC_sound tabOk 100 ?_
  exact ⟨_, ⟨rfl, rfl⟩, fun _ _ h => h⟩
theorem txn_end_no (m b1 b2 : Nat) (s : TxS) (x : Int) (h : ¬ x ∈ s.O) (w0 : World) (hfs : List PH) (hm : Mod hfs (txB m b1 b2 s) w0) :
    Calls Tryz.prog 87 #[.pointer (some ⟨m, 0, none⟩), .int .i64 x] w0 fun e w' => ∃ v Rs', e = .returned v ∧ (v = .int .i64 7 ∧ Rs' = txB m b1 b2 s) ∧ Mod hfs Rs' w' ∧ Oth w0 w' := by
  refine enterN (tab := tab) Tryz.func87 rfl Tryz.ntmps87 rfl (args := [_, _]) rfl hm ?_
  refine VC_sound tabOk 100 ?_
  (repeat (first | refine Or.inl ⟨rfl, rfl, ?_⟩ | refine Or.inl ⟨rfl, ?_⟩ | refine Or.inr ?_))
  refine Go_ops rfl (OpTo_lookup tabOk (kE := KI) (vE := Value.bool) (al := tm s.O) (b := b1) x none (aget_tm_out h) 1 rfl rfl rfl rfl rfl keyI rfl rfl ?_)
  refine VC_sound tabOk 100 ?_
  refine ⟨fun _ => ?_, fun h => by first | (simp at h; done) | (simp at h; omega) | (simp_all; done)⟩
  exact ⟨_, ⟨rfl, rfl⟩, fun _ _ h => h⟩
theorem txn_commit_ok (m b1 b2 : Nat) (s : TxS) (x : Int) (h : x ∈ s.O) (w0 : World) (hfs : List PH) (hm : Mod hfs (txB m b1 b2 s) w0) :
    Calls Tryz.prog 27 #[.pointer (some ⟨m, 0, none⟩), .int .i64 x] w0 fun e w' => ∃ v Rs', e = .returned v ∧ (v = .int .i64 0 ∧ Rs' = txB m b1 b2 ⟨s.next, del x s.O, ins x s.D⟩) ∧ Mod hfs Rs' w' ∧ Oth w0 w' := by
  refine enterN (tab := tab) Tryz.func27 rfl Tryz.ntmps27 rfl (args := [_, _]) rfl hm ?_
  refine VC_sound tabOk 100 ?_
  show Go _ _ _ _
  refine Go_ops rfl (OpTo_mcall (txB m b1 b2 s) [] (List.Perm.of_eq (by simp)) rfl rfl rfl rfl rfl (by kernel_rfl) (fun w hb hm hio hsp k => txn_end_ok m b1 b2 s x h w _ k) ?_)
  rintro _ _ ⟨rfl, rfl⟩
  refine VC_sound tabOk 100 ?_
  refine ⟨fun _ => ?_, fun h => by first | (simp at h; done) | (simp at h; omega) | (simp_all; done)⟩
  (repeat (first | refine Or.inl ⟨rfl, rfl, ?_⟩ | refine Or.inl ⟨rfl, ?_⟩ | refine Or.inr ?_))
  refine Go_ops rfl (OpTo_mapUpdate tabOk (kE := KI) (vE := Value.bool) (al := tm s.D) x true 2 rfl rfl rfl rfl rfl rfl rfl rfl keyI rfl ?_)
  rw [aset_tm]
  refine VC_sound tabOk 100 ?_
  exact ⟨_, ⟨rfl, rfl⟩, fun _ _ h => h⟩
theorem txn_commit_no (m b1 b2 : Nat) (s : TxS) (x : Int) (h : ¬ x ∈ s.O) (w0 : World) (hfs : List PH) (hm : Mod hfs (txB m b1 b2 s) w0) :
    Calls Tryz.prog 27 #[.pointer (some ⟨m, 0, none⟩), .int .i64 x] w0 fun e w' => ∃ v Rs', e = .returned v ∧ (v = .int .i64 7 ∧ Rs' = txB m b1 b2 s) ∧ Mod hfs Rs' w' ∧ Oth w0 w' := by
  refine enterN (tab := tab) Tryz.func27 rfl Tryz.ntmps27 rfl (args := [_, _]) rfl hm ?_
  refine VC_sound tabOk 100 ?_
  show Go _ _ _ _
  refine Go_ops rfl (OpTo_mcall (txB m b1 b2 s) [] (List.Perm.of_eq (by simp)) rfl rfl rfl rfl rfl (by kernel_rfl) (fun w hb hm hio hsp k => txn_end_no m b1 b2 s x h w _ k) ?_)
  rintro _ _ ⟨rfl, rfl⟩
  refine VC_sound tabOk 100 ?_
  refine ⟨fun h => by first | (simp at h; done) | (simp at h; omega) | (simp_all; done), fun _ => ?_⟩
  exact ⟨_, ⟨rfl, rfl⟩, fun _ _ h => h⟩
theorem txn_abort_ok (m b1 b2 : Nat) (s : TxS) (x : Int) (h : x ∈ s.O) (w0 : World) (hfs : List PH) (hm : Mod hfs (txB m b1 b2 s) w0) :
    Calls Tryz.prog 28 #[.pointer (some ⟨m, 0, none⟩), .int .i64 x] w0 fun e w' => ∃ v Rs', e = .returned v ∧ (v = .int .i64 0 ∧ Rs' = txB m b1 b2 ⟨s.next, del x s.O, s.D⟩) ∧ Mod hfs Rs' w' ∧ Oth w0 w' := by
  refine enterN (tab := tab) Tryz.func28 rfl Tryz.ntmps28 rfl (args := [_, _]) rfl hm ?_
  refine VC_sound tabOk 100 ?_
  show Go _ _ _ _
  refine Go_ops rfl (OpTo_mcall (txB m b1 b2 s) [] (List.Perm.of_eq (by simp)) rfl rfl rfl rfl rfl (by kernel_rfl) (fun w hb hm hio hsp k => txn_end_ok m b1 b2 s x h w _ k) ?_)
  rintro _ _ ⟨rfl, rfl⟩
  refine VC_sound tabOk 100 ?_
  exact ⟨_, ⟨rfl, rfl⟩, fun _ _ h => h⟩
theorem txn_abort_no (m b1 b2 : Nat) (s : TxS) (x : Int) (h : ¬ x ∈ s.O) (w0 : World) (hfs : List PH) (hm : Mod hfs (txB m b1 b2 s) w0) :
    Calls Tryz.prog 28 #[.pointer (some ⟨m, 0, none⟩), .int .i64 x] w0 fun e w' => ∃ v Rs', e = .returned v ∧ (v = .int .i64 7 ∧ Rs' = txB m b1 b2 s) ∧ Mod hfs Rs' w' ∧ Oth w0 w' := by
  refine enterN (tab := tab) Tryz.func28 rfl Tryz.ntmps28 rfl (args := [_, _]) rfl hm ?_
  refine VC_sound tabOk 100 ?_
  show Go _ _ _ _
  refine Go_ops rfl (OpTo_mcall (txB m b1 b2 s) [] (List.Perm.of_eq (by simp)) rfl rfl rfl rfl rfl (by kernel_rfl) (fun w hb hm hio hsp k => txn_end_no m b1 b2 s x h w _ k) ?_)
  rintro _ _ ⟨rfl, rfl⟩
  refine VC_sound tabOk 100 ?_
  exact ⟨_, ⟨rfl, rfl⟩, fun _ _ h => h⟩

/-- What has become of one. -/
def stE (s : TxS) (x : Int) : Int := if x < 1 ∨ s.next ≤ x then 0 else if x ∈ s.O then 1 else if x ∈ s.D then 2 else 3
set_option maxHeartbeats 1000000 in
theorem txn_state (m b1 b2 : Nat) (s : TxS) (x : Int) (w0 : World) (hfs : List PH) (hm : Mod hfs (txB m b1 b2 s) w0) :
    Calls Tryz.prog 25 #[.pointer (some ⟨m, 0, none⟩), .int .i64 x] w0 fun e w' => ∃ v Rs', e = .returned v ∧ (v = .int .u8 (stE s x) ∧ Rs' = txB m b1 b2 s) ∧ Mod hfs Rs' w' ∧ Oth w0 w' := by
  refine enterN (tab := tab) Tryz.func25 rfl Tryz.ntmps25 rfl (args := [_, _]) rfl hm ?_
  refine VC_sound tabOk 100 ?_
  refine ⟨fun h1 => ?_, fun h1 => ?_⟩
  · have e : stE s x = 0 := by rw [stE, if_pos (.inl (by simpa using h1))]
    rw [e]
    exact ⟨_, ⟨rfl, rfl⟩, fun _ _ h => h⟩
  (repeat (first | refine Or.inl ⟨rfl, rfl, ?_⟩ | refine Or.inl ⟨rfl, ?_⟩ | refine Or.inr ?_))
  refine ⟨fun h2 => ?_, fun h2 => ?_⟩
  · have e : stE s x = 0 := by rw [stE, if_pos (.inr (by simpa using h2))]
    rw [e]
    exact ⟨_, ⟨rfl, rfl⟩, fun _ _ h => h⟩
  have h0 : ¬ (x < 1 ∨ s.next ≤ x) := by simp at h1 h2; omega
  (repeat (first | refine Or.inl ⟨rfl, rfl, ?_⟩ | refine Or.inl ⟨rfl, ?_⟩ | refine Or.inr ?_))
  by_cases h3 : x ∈ s.O
  · refine Go_ops rfl (OpTo_lookup tabOk (kE := KI) (vE := Value.bool) (al := tm s.O) (b := b1) x (some true) (aget_tm_in h3) 1 rfl rfl rfl rfl rfl keyI rfl rfl ?_)
    refine VC_sound tabOk 100 ?_
    refine ⟨fun _ => ?_, fun h => by first | (simp at h; done) | (simp at h; omega) | (simp_all; done)⟩
    have e : stE s x = 1 := by rw [stE, if_neg h0, if_pos h3]
    rw [e]
    exact ⟨_, ⟨rfl, rfl⟩, fun _ _ h => h⟩
  refine Go_ops rfl (OpTo_lookup tabOk (kE := KI) (vE := Value.bool) (al := tm s.O) (b := b1) x none (aget_tm_out h3) 1 rfl rfl rfl rfl rfl keyI rfl rfl ?_)
  refine VC_sound tabOk 100 ?_
  refine ⟨fun h => by first | (simp at h; done) | (simp at h; omega) | (simp_all; done), fun _ => ?_⟩
  (repeat (first | refine Or.inl ⟨rfl, rfl, ?_⟩ | refine Or.inl ⟨rfl, ?_⟩ | refine Or.inr ?_))
  by_cases h4 : x ∈ s.D
  · refine Go_ops rfl (OpTo_lookup tabOk (kE := KI) (vE := Value.bool) (al := tm s.D) (b := b2) x (some true) (aget_tm_in h4) 2 rfl rfl rfl rfl rfl keyI rfl rfl ?_)
    refine VC_sound tabOk 100 ?_
    refine ⟨fun _ => ?_, fun h => by first | (simp at h; done) | (simp at h; omega) | (simp_all; done)⟩
    have e : stE s x = 2 := by rw [stE, if_neg h0, if_neg h3, if_pos h4]
    rw [e]
    exact ⟨_, ⟨rfl, rfl⟩, fun _ _ h => h⟩
  refine Go_ops rfl (OpTo_lookup tabOk (kE := KI) (vE := Value.bool) (al := tm s.D) (b := b2) x none (aget_tm_out h4) 2 rfl rfl rfl rfl rfl keyI rfl rfl ?_)
  refine VC_sound tabOk 100 ?_
  refine ⟨fun h => by first | (simp at h; done) | (simp at h; omega) | (simp_all; done), fun _ => ?_⟩
  have e : stE s x = 3 := by rw [stE, if_neg h0, if_neg h3, if_neg h4]
  rw [e]
  exact ⟨_, ⟨rfl, rfl⟩, fun _ _ h => h⟩

set_option maxHeartbeats 2000000 in
theorem txn_now (m b1 b2 : Nat) (s : TxS) (h6 : s.O.length ≤ 12) (w0 : World) (hfs : List PH) (hm : Mod hfs (txB m b1 b2 s) w0) :
    Calls Tryz.prog 31 #[.pointer (some ⟨m, 0, none⟩)] w0 fun e w' => ∃ v Rs', e = .returned v ∧ (∃ A c ks, v = snV s.next A ks.length c ∧ ks.Perm s.O ∧ Rise ltI (fun x => x) ks ∧ Rs' = own (encI .i64) 1 2 A c ks :: txB m b1 b2 s) ∧ Mod hfs Rs' w' ∧ Oth w0 w' := by
  refine enterN (tab := tab) Tryz.func31 rfl Tryz.ntmps31 rfl (args := [_]) rfl hm ?_
  refine VC_sound tabOk 100 ?_
  intro b _
  show Go _ _ _ _
  refine Go_any mixed [11] [(0, false), (1, false), (2, false), (4, false), (5, false), (6, false), (3, false), (7, false), (8, true), (9, true), (10, false), (11, true)] rfl (by kernel_rfl) (by kernel_rfl) [.blk m 136 [.int .i64 s.next, .map (some b1), .map (some b2)]] (FrmX hfs) (FrmX.stable _) (fun w hm _ => ⟨Holds.of_idx [1] hm, FrmX.of_mod hm⟩) ?_
  refine VC_sound tabOk 100 ?_
  (repeat (first | refine Or.inl ⟨rfl, rfl, ?_⟩ | refine Or.inl ⟨rfl, ?_⟩ | refine Or.inr ?_))
  (repeat (first | refine Or.inl ⟨rfl, rfl, ?_⟩ | refine Or.inl ⟨rfl, ?_⟩ | refine Or.inr ?_))
  refine Go_aloneL rfl rfl (OpTo_ncall rfl rfl rfl rfl rfl (by kernel_rfl) (fun w hm _ => maps_keys_I b1 w) ?_)
  rintro _ _ ⟨bc, rfl, rfl⟩
  refine And.intro (fun w hm _ => ⟨Holds.of_idx [2] hm, FrmX.of_mod hm⟩) ?_
  refine VC_sound tabOk 100 ?_
  refine Go_aloneL rfl rfl (OpTo_mcall [.blk bc 134 [.map (some b1)], mpR KI Value.bool b1 (tm s.O)] [.blk b 42 [.int .i64 0, .slice none 0 0], .blk m 136 [.int .i64 s.next, .map (some b1), .map (some b2)], mpR KI Value.bool b2 (tm s.D)] (List.Perm.cons _ ((List.perm_middle (l₁ := [_, _])))) rfl rfl rfl rfl rfl (by kernel_rfl) (fun w hb hm hio hsp k => sl_sorted_I Value.bool b1 bc (tm s.O) (by simpa [tm] using h6) w _ k) ?_)
  rintro _ _ ⟨A, c, ks, hp, hr, rfl, rfl⟩
  rw [keys_tm] at hp
  refine And.intro (fun w hm _ => ⟨Holds.of_idx [3] hm, FrmX.of_mod hm⟩) ?_
  refine VC_sound tabOk 100 ?_
  (repeat (first | refine Or.inl ⟨rfl, rfl, ?_⟩ | refine Or.inl ⟨rfl, ?_⟩ | refine Or.inr ?_))
  (repeat (first | refine Or.inl ⟨rfl, rfl, ?_⟩ | refine Or.inl ⟨rfl, ?_⟩ | refine Or.inr ?_))
  exact ⟨_, ⟨A, c, ks, rfl, hp, hr, rfl⟩, fun _ _ h => h.sel [0, 3, 1, 4] rfl⟩

/-! ### what has become of one, of memory that is only read -/
theorem txn_state_nil' (x : Int) (w0 : World) : Calls Tryz.prog 25 #[.pointer none, .int .i64 x] w0 fun e w' => e = .returned (.int .u8 0) ∧ BelowD w0.heap.size w0 w' := by
  refine enterP (tab := tab) Tryz.func25 rfl Tryz.ntmps25 rfl (args := [_, _]) rfl ?_
  refine VC_sound tabOk 100 ?_
  rfl
set_option maxHeartbeats 1000000 in
theorem txn_state_p (m b1 b2 : Nat) (s : TxS) (x : Int) (w0 : World) (hb : w0.heap[m]? = some (.cells #[.int .i64 s.next, .map (some b1), .map (some b2)] 136 (0, 0))) (hO : MpAt KI Value.bool w0 b1 (tm s.O)) (hD : MpAt KI Value.bool w0 b2 (tm s.D)) :
    Calls Tryz.prog 25 #[.pointer (some ⟨m, 0, none⟩), .int .i64 x] w0 fun e w' => e = .returned (.int .u8 (stE s x)) ∧ BelowD w0.heap.size w0 w' := by
  refine enterP (tab := tab) Tryz.func25 rfl Tryz.ntmps25 rfl (args := [_, _]) rfl ?_
  refine VC_sound tabOk 100 ?_
  refine ⟨fun h1 => ?_, fun h1 => ?_⟩
  · exact congrArg (Value.int .u8) (by rw [stE, if_pos (.inl (by simpa using h1))])
  refine Go_ops rfl (OpTo_loadBlk tabOk (cs := [.int .i64 s.next, .map (some b1), .map (some b2)]) (.int .i64 s.next) rfl rfl rfl (fun w hm _ => hm.block_old hb) rfl ?_)
  refine VC_sound tabOk 100 ?_
  refine ⟨fun h2 => ?_, fun h2 => ?_⟩
  · exact congrArg (Value.int .u8) (by rw [stE, if_pos (.inr (by simpa using h2))])
  have h0 : ¬ (x < 1 ∨ s.next ≤ x) := by simp at h1 h2; omega
  refine Go_ops rfl (OpTo_loadBlk tabOk (cs := [.int .i64 s.next, .map (some b1), .map (some b2)]) (.map (some b1)) rfl rfl rfl (fun w hm _ => hm.block_old hb) rfl ?_)
  refine VC_sound tabOk 100 ?_
  by_cases h3 : x ∈ s.O
  · refine Go_ops rfl (OpTo_lookupF tabOk (kE := KI) (vE := Value.bool) (al := tm s.O) (b := b1) x (some true) (aget_tm_in h3) rfl rfl rfl rfl rfl keyI rfl (fun w hm _ => hO.old fun n hn => hm.old n hn) ?_)
    refine VC_sound tabOk 100 ?_
    refine ⟨fun _ => ?_, fun h => by first | (simp at h; done) | (simp at h; omega) | (simp_all; done)⟩
    exact congrArg (Value.int .u8) (by rw [stE, if_neg h0, if_pos h3])
  refine Go_ops rfl (OpTo_lookupF tabOk (kE := KI) (vE := Value.bool) (al := tm s.O) (b := b1) x none (aget_tm_out h3) rfl rfl rfl rfl rfl keyI rfl (fun w hm _ => hO.old fun n hn => hm.old n hn) ?_)
  refine VC_sound tabOk 100 ?_
  refine ⟨fun h => by first | (simp at h; done) | (simp at h; omega) | (simp_all; done), fun _ => ?_⟩
  refine Go_ops rfl (OpTo_loadBlk tabOk (cs := [.int .i64 s.next, .map (some b1), .map (some b2)]) (.map (some b2)) rfl rfl rfl (fun w hm _ => hm.block_old hb) rfl ?_)
  refine VC_sound tabOk 100 ?_
  by_cases h4 : x ∈ s.D
  · refine Go_ops rfl (OpTo_lookupF tabOk (kE := KI) (vE := Value.bool) (al := tm s.D) (b := b2) x (some true) (aget_tm_in h4) rfl rfl rfl rfl rfl keyI rfl (fun w hm _ => hD.old fun n hn => hm.old n hn) ?_)
    refine VC_sound tabOk 100 ?_
    refine ⟨fun _ => ?_, fun h => by first | (simp at h; done) | (simp at h; omega) | (simp_all; done)⟩
    exact congrArg (Value.int .u8) (by rw [stE, if_neg h0, if_neg h3, if_pos h4])
  refine Go_ops rfl (OpTo_lookupF tabOk (kE := KI) (vE := Value.bool) (al := tm s.D) (b := b2) x none (aget_tm_out h4) rfl rfl rfl rfl rfl keyI rfl (fun w hm _ => hD.old fun n hn => hm.old n hn) ?_)
  refine VC_sound tabOk 100 ?_
  refine ⟨fun h => by first | (simp at h; done) | (simp at h; omega) | (simp_all; done), fun _ => ?_⟩
  exact congrArg (Value.int .u8) (by rw [stE, if_neg h0, if_neg h3, if_neg h4])
end Go.Proofs.YthpcahgdobnljaaGreat
