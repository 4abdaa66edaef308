/- What the functions of package cursor do to all consumers; and of none. -/
import Derived.Test.YthpcahgdobnljaaGreatCursor
set_option maxRecDepth 100000
set_option autoImplicit false
set_option linter.unusedVariables false
namespace Go.Proofs.YthpcahgdobnljaaGreat.Cu
open Go.RX Go Go.RowKit


/-! ### of none -/
theorem cu_of_nil (name : ByteArray) (w0 : World) : Calls Tryz.prog 151 #[.pointer none, .string name] w0 fun e w' => e = .returned (ofV none) ∧ BelowD w0.heap.size w0 w' := by
  refine enterP (tab := tab) Tryz.func151 rfl Tryz.ntmps151 rfl (args := [_, _]) rfl ?_
  refine VC_sound tabOk 100 ?_
  rfl
theorem cu_register_nil (name : ByteArray) (n : Int) (w0 : World) : Calls Tryz.prog 85 #[.pointer none, .string name, .int .i64 n] w0 fun e w' => e = .returned (.int .i64 4) ∧ BelowD w0.heap.size w0 w' := by
  refine enterP (tab := tab) Tryz.func85 rfl Tryz.ntmps85 rfl (args := [_, _, _]) rfl ?_
  refine VC_sound tabOk 100 ?_
  rfl
theorem cu_unregister_nil (name : ByteArray) (w0 : World) : Calls Tryz.prog 105 #[.pointer none, .string name] w0 fun e w' => e = .returned (.int .i64 4) ∧ BelowD w0.heap.size w0 w' := by
  refine enterP (tab := tab) Tryz.func105 rfl Tryz.ntmps105 rfl (args := [_, _]) rfl ?_
  refine VC_sound tabOk 100 ?_
  refine Go_ops rfl (OpTo_pcall (v := ofV none) rfl rfl rfl rfl rfl (by kernel_rfl) (fun w hm _ => cu_of_nil name w) ?_)
  refine VC_sound tabOk 100 ?_
  refine ⟨fun h => by first | (simp at h; done) | (simp at h; omega) | (simp_all; done), fun _ => ?_⟩
  rfl
theorem cu_open_nil (name : ByteArray) (n : Int) (w0 : World) : Calls Tryz.prog 98 #[.pointer none, .string name, .int .i64 n] w0 fun e w' => e = .returned (.int .i64 4) ∧ BelowD w0.heap.size w0 w' := by
  refine enterP (tab := tab) Tryz.func98 rfl Tryz.ntmps98 rfl (args := [_, _, _]) rfl ?_
  refine VC_sound tabOk 100 ?_
  refine Go_ops rfl (OpTo_pcall (v := ofV none) rfl rfl rfl rfl rfl (by kernel_rfl) (fun w hm _ => cu_of_nil name w) ?_)
  refine VC_sound tabOk 100 ?_
  refine ⟨fun _ => ?_, fun h => by first | (simp at h; done) | (simp at h; omega) | (simp_all; done)⟩
  rfl
theorem cu_finish_nil (name : ByteArray) (w0 : World) : Calls Tryz.prog 100 #[.pointer none, .string name] w0 fun e w' => e = .returned (.tuple #[.int .i64 0, .int .i64 4]) ∧ BelowD w0.heap.size w0 w' := by
  refine enterP (tab := tab) Tryz.func100 rfl Tryz.ntmps100 rfl (args := [_, _]) rfl ?_
  refine VC_sound tabOk 100 ?_
  refine Go_ops rfl (OpTo_pcall (v := ofV none) rfl rfl rfl rfl rfl (by kernel_rfl) (fun w hm _ => cu_of_nil name w) ?_)
  refine VC_sound tabOk 100 ?_
  refine ⟨fun _ => ?_, fun h => by first | (simp at h; done) | (simp at h; omega) | (simp_all; done)⟩
  rfl
theorem cu_get_nil (name : ByteArray) (w0 : World) : Calls Tryz.prog 96 #[.pointer none, .string name] w0 fun e w' => e = .returned (.tuple #[mkC ⟨⟨#[]⟩, 0, 0⟩, .bool false]) ∧ BelowD w0.heap.size w0 w' := by
  refine enterP (tab := tab) Tryz.func96 rfl Tryz.ntmps96 rfl (args := [_, _]) rfl ?_
  refine VC_sound tabOk 100 ?_
  intro b4 _
  refine Go_ops rfl (OpTo_pcall (v := ofV none) rfl rfl rfl rfl rfl (by kernel_rfl) (fun w hm _ => cu_of_nil name w) ?_)
  refine VC_sound tabOk 100 ?_
  refine ⟨fun _ => ?_, fun h => by first | (simp at h; done) | (simp at h; omega) | (simp_all; done)⟩
  (repeat (first | refine Or.inl ⟨rfl, rfl, ?_⟩ | refine Or.inl ⟨rfl, ?_⟩ | refine Or.inr ?_))
  rfl
theorem cu_all_nil (w0 : World) : Calls Tryz.prog 14 #[.pointer none] w0 fun e w' => e = .returned (.slice none 0 0) ∧ BelowD w0.heap.size w0 w' := by
  refine enterP (tab := tab) Tryz.func14 rfl Tryz.ntmps14 rfl (args := [_]) rfl ?_
  refine VC_sound tabOk 100 ?_
  rfl
theorem cu_least_nil (w0 : World) : Calls Tryz.prog 70 #[.pointer none] w0 fun e w' => e = .returned (.tuple #[.int .i64 0, .bool false]) ∧ BelowD w0.heap.size w0 w' := by
  refine enterP (tab := tab) Tryz.func70 rfl Tryz.ntmps70 rfl (args := [_]) rfl ?_
  refine VC_sound tabOk 100 ?_
  refine Go_ops rfl (OpTo_pcall (v := .slice none 0 0) rfl rfl rfl rfl rfl (by kernel_rfl) (fun w hm _ => cu_all_nil w) ?_)
  refine VC_sound tabOk 100 ?_
  refine ⟨fun _ => ?_, fun h => by first | (simp at h; done) | (simp at h; omega) | (simp_all; done)⟩
  rfl

/-! ### all of them -/
abbrev Cs := List (CurV × Nat)
def alOf (cs : Cs) : List (ByteArray × Nat) := cs.map fun c => (c.1.name, c.2)
def blksOf (cs : Cs) : List Res := cs.map fun c => cuC c.2 c.1
abbrev cuR (b bm : Nat) (cs : Cs) : List Res := cuB b bm (alOf cs) ++ blksOf cs
abbrev names (cs : Cs) : List ByteArray := cs.map fun c => c.1.name
theorem keys_alOf (cs : Cs) : keys (alOf cs) = names cs := by simp [alOf, keys, names]

def vOf (cs : Cs) (k : ByteArray) : CurV := (aget k (cs.map fun c => (c.1.name, c.1))).getD ⟨⟨#[]⟩, 0, 0⟩
theorem keys_vOf (cs : Cs) : keys (cs.map fun c => (c.1.name, c.1)) = names cs := by simp [keys, names]
theorem vOf_mem {cs : Cs} (hn : (names cs).Nodup) {c : CurV × Nat} (h : c ∈ cs) : vOf cs c.1.name = c.1 := by
  rw [← keys_vOf] at hn
  have : aget c.1.name (cs.map fun c => (c.1.name, c.1)) = some c.1 := aget_of_mem hn (List.mem_map.2 ⟨c, h, rfl⟩)
  rw [vOf, this]; rfl
theorem map_vOf {cs : Cs} (hn : (names cs).Nodup) : (names cs).map (vOf cs) = cs.map (·.1) := by
  rw [names, List.map_map]
  exact List.map_congr_left fun c hc => vOf_mem hn hc
theorem aget_alOf {cs : Cs} (hn : (names cs).Nodup) {c : CurV × Nat} (h : c ∈ cs) : aget c.1.name (alOf cs) = some c.2 :=
  aget_of_mem (by rw [keys_alOf]; exact hn) (List.mem_map.2 ⟨c, h, rfl⟩)

theorem rise_map {ks : List ByteArray} {f : ByteArray → CurV} (h : Rise ltS (fun x => x) ks) (hf : ∀ k ∈ ks, (f k).name = k) : Rise ltS CurV.name (ks.map f) := by
  rw [Rise, List.pairwise_map]
  exact List.Pairwise.imp_of_mem (fun ha hb h => by rw [hf _ ha, hf _ hb]; exact h) h

set_option maxHeartbeats 2000000 in
theorem cu_all (b bm : Nat) (cs : Cs) (hc : cs.length ≤ 12) (w0 : World) (hfs : List PH) (hm : Mod hfs (cuR b bm cs) w0) :
    Calls Tryz.prog 14 #[ptrV b] w0 fun e w' => ∃ v Rs', e = .returned v ∧ (∃ A c ys, v = .slice A ys.length c ∧ ys.Perm (cs.map (·.1)) ∧ Rise ltS CurV.name ys ∧ Rs' = own encC 3 50 A c ys :: cuR b bm cs) ∧ Mod hfs Rs' w' ∧ Oth w0 w' := by
  have hnd : (names cs).Nodup := by rw [← keys_alOf]; exact hm.mp_nodup (i := 1) rfl
  refine enterN (tab := tab) Tryz.func14 rfl Tryz.ntmps14 rfl (args := [_]) rfl hm ?_
  refine VC_sound tabOk 100 ?_
  (repeat (first | refine Or.inl ⟨rfl, rfl, ?_⟩ | refine Or.inl ⟨rfl, ?_⟩ | refine Or.inr ?_))
  show Go _ _ _ _
  refine Go_ops rfl (OpTo_ncall rfl rfl rfl rfl rfl (by kernel_rfl) (fun w hm _ => maps_keys_S bm w) ?_)
  rintro _ _ ⟨bc, rfl, rfl⟩
  refine VC_sound tabOk 100 ?_
  show Go _ _ _ _
  refine Go_ops rfl (OpTo_mcall [.blk bc 124 [.map (some bm)], mpR Value.string ptrV bm (alOf cs)] (.blk b 127 [.map (some bm)] :: blksOf cs) (List.Perm.cons _ (List.Perm.swap _ _ _)) rfl rfl rfl rfl rfl (by kernel_rfl) (fun w hb hm hio hsp k => sl_sorted_S ptrV bm bc (alOf cs) (by simpa [alOf] using hc) w _ k) ?_)
  rintro _ _ ⟨A, c, ks, hp, hr, rfl, rfl⟩
  rw [keys_alOf] at hp
  have hkl : ks.length = cs.length := by have := hp.length_eq; simpa using this
  have hin : ∀ k ∈ ks, ∃ x ∈ cs, x.1.name = k := fun k hk => by
    have := hp.mem_iff.1 hk
    obtain ⟨x, h1, h2⟩ := List.mem_map.1 this
    exact ⟨x, h1, h2⟩
  refine VC_sound tabOk 100 ?_
  refine Go_res _ (fun w h => h.own_nil (enc := encC) (k := 3) (T := 50) none) ?_
  refine Go_loop (σ := Option Addr × Nat × Nat) (fun s => [(0, .v (ptrV b)), (3, .v (.slice s.1 s.2.2 s.2.1)), (13, .v (.slice A ks.length c)), (14, .v (.int .i64 ks.length)), (15, .v (.int .i64 s.2.2))])
    (fun s => own encC 3 50 s.1 s.2.1 ((ks.take s.2.2).map (vOf cs)) :: own encS 1 9 A c ks :: mpR Value.string ptrV bm (alOf cs) :: .blk b 127 [.map (some bm)] :: blksOf cs)
    (fun s => s.2.2 ≤ ks.length) (fun s => ks.length - s.2.2) (none, 0, 0) (by simp) ⟨rfl, rfl, rfl, rfl, rfl, trivial⟩ (fun _ h => h) ?_
  rintro ⟨A1, c1, i⟩ hi
  dsimp only at hi ⊢
  by_cases hlt : i < ks.length
  · obtain ⟨x, hx1, hx2⟩ := hin ks[i] (List.getElem_mem hlt)
    obtain ⟨j, hj⟩ := List.mem_iff_getElem?.1 hx1
    have hq := aget_alOf hnd hx1
    have hv := vOf_mem hnd hx1
    rw [hx2] at hq hv
    refine Go_with _ (fun w hm _ => hm.own_some (i := 1) rfl (ne_nil_of_lt (by omega : 0 < ks.length))) ?_
    rintro ⟨a, o, rfl⟩
    refine VC_sound tabOk 100 ?_
    refine ⟨fun _ => ?_, fun h => by first | (simp at h; done) | (simp at h; omega) | (simp_all; done)⟩
    refine ⟨⟨by omega, by omega⟩, ?_⟩
    refine Or.inr (findR_E ?_)
    refine Go_ops rfl (OpTo_loadRow tabOk encS_is (.string ks[i]) rfl rfl rfl rfl rfl (fun h => rfl) (fun w hm _ => hm.own_rd (i := 1) rfl) (List.getElem?_eq_getElem hlt) (by simp only [addA]; rfl) ?_)
    refine VC_sound tabOk 100 ?_
    (repeat (first | refine Or.inl ⟨rfl, rfl, ?_⟩ | refine Or.inl ⟨rfl, ?_⟩ | refine Or.inr ?_))
    refine Go_ops rfl (OpTo_lookup tabOk (kE := Value.string) (vE := ptrV) (al := alOf cs) (b := bm) ks[i] (some x.2) hq 2 rfl rfl rfl rfl rfl keyS rfl rfl ?_)
    refine VC_sound tabOk 100 ?_
    refine Or.inr (findR_at (j := j) (T := 50) (cs := [.string x.1.name, .int .i64 x.1.last, .int .i64 x.1.opn]) (by simp [blksOf, hj]) ?_)
    intro b28 _
    show Go _ _ _ _
    refine Go_ops rfl (OpTo_append tabOk encC_is (ys := [x.1]) (i := 1) rfl rfl rfl rfl rfl rfl rfl rfl rfl (by simp; omega) rfl (fun w hm _ => hm.blk_rd (i := 0) rfl) (by simp; omega) (by simp; omega) (fun A2 c2 => ?_))
    refine VC_sound tabOk 100 ?_
    refine ⟨_, wrap_i64 (n := (i : Int) + 1) (by omega) (by omega), ?_⟩
    refine Go_fin (A2, c2, i + 1) (by simp; omega) (by simp; omega) ⟨rfl, rfl, rfl, rfl, rfl, trivial⟩ (fun _ h => ?_)
    have e : ((ks.take (i + 1)).map (vOf cs)) = ((ks.take i).map (vOf cs)) ++ [x.1] := by
      rw [List.take_succ_eq_append_getElem hlt, List.map_append, List.map_singleton, hv]
    dsimp only
    rw [e]
    exact Mod.drop (a := [_]) h
  · have he : i = ks.length := by omega
    subst he
    refine VC_sound tabOk 100 ?_
    refine ⟨fun h => by first | (simp at h; done) | (simp at h; omega) | (simp_all; done), fun _ => ?_⟩
    have e : (ks.take ks.length).map (vOf cs) = ks.map (vOf cs) := by rw [List.take_length]
    rw [e]
    refine ⟨_, ⟨A1, c1, ks.map (vOf cs), by simp; rfl, ?_, ?_, rfl⟩, fun _ _ h => ?_⟩
    · rw [← map_vOf hnd]
      exact hp.map _
    · refine rise_map hr fun k hk => ?_
      obtain ⟨x, h1, h2⟩ := hin k hk
      rw [← h2, vOf_mem hnd h1]
    · exact (h.permRs ((List.Perm.swap _ _ _).trans (((List.Perm.swap _ _ _).cons _).cons _))).drop (a := [_])
end Go.Proofs.YthpcahgdobnljaaGreat.Cu
