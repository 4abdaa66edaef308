/- Events as values; Go's own functions on slices of them. -/
import Derived.Test.YthpcahgdobnljaaGreatSl64
import Derived.Test.YthpcahgdobnljaaGreatRxB
set_option maxRecDepth 100000
set_option autoImplicit false
set_option linter.unusedVariables false
namespace Go.Proofs.YthpcahgdobnljaaGreat
open Go.RX Go Go.RowKit

/-- An event. -/
structure EventM where
  id : Int
  tx : Int
  owner : ByteArray
  tries : Int
  table : Int
  kind : Int
  key : Int
  text : ByteArray

def encE : EventM → List Value := fun x => [.int .i64 x.id, .int .i64 x.tx, .string x.owner, .int .i64 x.tries, .int .i64 x.table, .int .u8 x.kind, .int .i64 x.key, .string x.text]
theorem encE_is : IsEnc encE 8 := ⟨fun _ => rfl, fun x v hv => by simp [encE] at hv; rcases hv with rfl | rfl | rfl | rfl | rfl | rfl | rfl | rfl <;> rfl, by decide⟩
abbrev mkE (x : EventM) : Value := .agg #[.int .i64 x.id, .int .i64 x.tx, .string x.owner, .int .i64 x.tries, .int .i64 x.table, .int .u8 x.kind, .int .i64 x.key, .string x.text]
def zeroE : EventM := ⟨0, 0, ⟨#[]⟩, 0, 0, 0, 0, ⟨#[]⟩⟩

set_option maxHeartbeats 400000 in
theorem sl_indexFunc_E (A : Option Addr) (c : Nat) (zs : List EventM) (f : FuncId) (first cap : Array Value) (p : EventM → Bool) (w0 : World) (hA : RdW w0 A (zs.flatMap encE)) (hn : zs.length ≤ 4611686018427387904) (hf : callable Tryz.prog f = true) (hp : Answers Tryz.prog w0 f first cap mkE p zs) :
    Calls Tryz.prog 101 #[.slice A zs.length c, .func (.func f) first cap] w0 fun e w' => e = .returned (.int .i64 (idxF p zs)) ∧ BelowD w0.heap.size w0 w' := by
  refine enterP (tab := tab) Tryz.func101 rfl Tryz.ntmps101 rfl (args := [_, _]) rfl ?_
  refine VC_sound tabOk 100 ?_
  refine Go_loop (σ := Nat) (fun i => [(0, .v (.slice A zs.length c)), (1, .v (.func (.func f) first cap)), (7, .v (.int .i64 zs.length)), (8, .v (.int .i64 i))]) (fun _ => []) (fun i => i ≤ zs.length ∧ ∀ j (h : j < zs.length), j < i → p zs[j] = false) (fun i => zs.length - i) 0 ⟨Nat.zero_le _, fun _ _ h => by omega⟩ ⟨rfl, rfl, rfl, rfl, trivial⟩ (fun _ h => h) ?_
  intro i ⟨hi, hne⟩
  refine VC_sound tabOk 100 ?_
  refine ⟨fun hb => ?_, fun hb => ?_⟩
  · have hlt : i < zs.length := by simpa using hb
    obtain ⟨b, o, rfl⟩ := RdW.some encE_is hA (ne_nil_of_lt hlt)
    refine ⟨⟨by omega, by omega⟩, ?_⟩
    refine Go_ops rfl (OpTo_loadRow tabOk encE_is (mkE zs[i]) rfl rfl rfl rfl rfl (fun h => by first | rfl | cases h) (fun w hm _ => hA.mod hm) (List.getElem?_eq_getElem hlt) rfl ?_)
    refine VC_sound tabOk 100 ?_
    refine Go_ops rfl (OpTo_pcall (v := .bool (p zs[i])) (av := first.toList ++ [mkE zs[i]] ++ cap.toList) rfl rfl rfl rfl rfl hf (fun w hm hio => hp zs[i] (List.getElem_mem hlt) w (hm.below hio)) ?_)
    refine VC_sound tabOk 100 ?_
    refine ⟨fun hb => ?_, fun hb => ?_⟩
    · exact congrArg (Value.int .i64) (idxF_at p zs i hlt hb hne).symm
    · refine ⟨_, wrap_i64 (n := (i : Int) + 1) (by omega) (by omega), ?_⟩
      refine Go_fin (i + 1) ⟨by omega, fun j h hj => ?_⟩ (by omega) ⟨rfl, rfl, rfl, rfl, trivial⟩ (fun _ h => h)
      by_cases e : j = i
      · subst e; exact hb
      · exact hne j h (by omega)
  · have hge : ¬ i < zs.length := by simpa using hb
    exact congrArg (Value.int .i64) (idxF_none p zs fun j h => hne j h (by omega)).symm

set_option maxHeartbeats 400000 in
theorem sl_containsFunc_E (A : Option Addr) (c : Nat) (zs : List EventM) (f : FuncId) (first cap : Array Value) (p : EventM → Bool) (w0 : World) (hA : RdW w0 A (zs.flatMap encE)) (hn : zs.length ≤ 4611686018427387904) (hf : callable Tryz.prog f = true) (hp : Answers Tryz.prog w0 f first cap mkE p zs) :
    Calls Tryz.prog 165 #[.slice A zs.length c, .func (.func f) first cap] w0 fun e w' => e = .returned (.bool (zs.any p)) ∧ BelowD w0.heap.size w0 w' := by
  refine enterP (tab := tab) Tryz.func165 rfl Tryz.ntmps165 rfl (args := [_, _]) rfl ?_
  refine VC_sound tabOk 100 ?_
  refine Go_ops rfl (OpTo_pcall rfl rfl rfl rfl rfl (by kernel_rfl) (fun w hm hio => sl_indexFunc_E A c zs f first cap p w (hA.mod hm) hn hf (hp.below (hm.below hio))) ?_)
  refine VC_sound tabOk 100 ?_
  exact congrArg Value.bool (idxF_any p zs)

set_option maxHeartbeats 1000000 in
theorem sl_delete_E (A : Option Addr) (c : Nat) (xs : List EventM) (f : FuncId) (first cap : Array Value) (p : EventM → Bool) (w0 : World) (hfs : List PH) (hm : Mod hfs [own encE 8 65 A c xs] w0) (hn : xs.length ≤ 4611686018427387904) (hf : callable Tryz.prog f = true) (hp : AnswersM Tryz.prog hfs f first cap mkE p xs) :
    Calls Tryz.prog 142 #[.slice A xs.length c, .func (.func f) first cap] w0 fun e w' => ∃ v Rs', e = .returned v ∧ (v = .slice A (xs.filter fun x => !p x).length c ∧ Rs' = [own encE 8 65 A c (xs.filter fun x => !p x)]) ∧ Mod hfs Rs' w' ∧ Oth w0 w' := by
  have hcap := hm.own_le (i := 0) rfl
  refine enterN (tab := tab) Tryz.func142 rfl Tryz.ntmps142 rfl (args := [_, _]) rfl hm ?_
  refine VC_sound tabOk 100 ?_
  refine Go_ops rfl (OpTo_pcall (v := .int .i64 (idxF p xs)) rfl rfl rfl rfl rfl (by kernel_rfl) (fun w hm _ => sl_indexFunc_E A c xs f first cap p w (hm.own_rd (i := 0) rfl) hn hf (hp.answers hm)) ?_)
  refine VC_sound tabOk 100 ?_
  rcases idxF_spec p xs with ⟨h0, hall⟩ | ⟨i0, hi0, h0, hp0, hne0⟩
  · rw [h0]
    refine ⟨fun _ => ?_, fun h => nomatch h⟩
    have e : (xs.filter fun x => !p x) = xs := List.filter_eq_self.2 fun x hx => by simp [hall x hx]
    refine ⟨_, ⟨?_, ?_⟩, fun _ _ h => h⟩
    · rw [e]; rfl
    · rw [e]
  · rw [h0]
    refine ⟨fun h => ?_, fun _ => ?_⟩
    · have := of_decide_eq_true h; omega
    obtain ⟨hs0, hf0⟩ := Sift.start hi0 hp0 hne0
    refine ⟨_, wrap_i64 (n := (i0 : Int) + 1) (by omega) (by omega), ?_⟩
    obtain ⟨b, o, rfl⟩ := RdW.some encE_is (hm.own_rd (i := 0) rfl) (ne_nil_of_lt hi0)
    refine Go_loop (σ := Nat × List EventM) (fun s => [(0, .v (.slice (some ⟨b, o, none⟩) xs.length c)), (1, .v (.func (.func f) first cap)), (5, .v (.int .i64 (((xs.take s.1).filter fun x => !p x).length))), (6, .v (.int .i64 s.1))]) (fun s => [own encE 8 65 (some ⟨b, o, none⟩) c s.2])
      (fun s => Sift (fun x => !p x) xs s.2 s.1 ∧ ((xs.take s.1).filter fun x => !p x).length < s.1) (fun s => xs.length - s.1) (i0 + 1, xs) ⟨hs0, by simp only [hf0, List.length_take]; omega⟩ ⟨rfl, rfl, ?_, rfl, trivial⟩ (fun _ h => h) ?_
    · simp only [hf0, List.length_take, Nat.min_eq_left (Nat.le_of_lt hi0)]
    rintro ⟨j, ys⟩ ⟨hs, hlt0⟩
    simp only at hs hlt0
    dsimp only
    refine VC_sound tabOk 100 ?_
    refine ⟨fun h1 => ?_, fun h1 => ?_⟩
    · have hj : j < xs.length := by simpa using h1
      refine ⟨⟨by omega, by omega⟩, ?_⟩
      refine Go_ops rfl (OpTo_loadRow tabOk encE_is (mkE xs[j]) rfl rfl rfl rfl rfl (fun h => by first | rfl | cases h) (fun w hm _ => hm.own_rd (i := 0) rfl) (hs.at_ hj) rfl ?_)
      refine VC_sound tabOk 100 ?_
      intro b7 _
      (repeat (first | refine Or.inl ⟨rfl, rfl, ?_⟩ | refine Or.inl ⟨rfl, ?_⟩ | refine Or.inr ?_))
      refine Go_ops rfl (OpTo_pcall (v := .bool (p xs[j])) (av := first.toList ++ [mkE xs[j]] ++ cap.toList) rfl rfl rfl rfl rfl hf (fun w hm hio => hp xs[j] (List.getElem_mem hj) _ w hm) ?_)
      refine VC_sound tabOk 100 ?_
      refine ⟨fun h2 => ?_, fun h2 => ?_⟩
      · have hk := hs.keep hj (q := fun x => !p x) h2
        (repeat (first | refine Or.inl ⟨rfl, rfl, ?_⟩ | refine Or.inl ⟨rfl, ?_⟩ | refine Or.inr ?_))
        refine ⟨⟨by omega, by have := hs.len; omega⟩, ?_⟩
        (repeat (first | refine Or.inl ⟨rfl, rfl, ?_⟩ | refine Or.inl ⟨rfl, ?_⟩ | refine Or.inr ?_))
        show Go _ _ _ _
        refine Go_ops rfl (OpTo_storeRow tabOk encE_is (n := ((xs.take j).filter fun x => !p x).length) (s := .v (mkE xs[j])) (u := xs[j]) (xs := ys) 1 rfl rfl rfl rfl rfl rfl rfl (by have := hs.len; omega) rfl rfl ?_)
        refine VC_sound tabOk 100 ?_
        refine ⟨_, wrap_i64 (n := (((xs.take j).filter fun x => !p x).length : Int) + 1) (by omega) (by omega), ?_⟩
        refine ⟨_, wrap_i64 (n := (j : Int) + 1) (by omega) (by omega), ?_⟩
        refine Go_fin (j + 1, ys.set ((xs.take j).filter fun x => !p x).length xs[j]) ⟨hk.1, by simp only [hk.2, List.length_append, List.length_cons, List.length_nil]; omega⟩ (by simp; omega) ⟨rfl, rfl, ?_, rfl, trivial⟩ (fun _ h => h.sel [1] rfl)
        simp only [hk.2, List.length_append, List.length_cons, List.length_nil]; rfl
      · have hk := hs.skip hj (q := fun x => !p x) h2
        refine ⟨_, wrap_i64 (n := (j : Int) + 1) (by omega) (by omega), ?_⟩
        refine Go_fin (j + 1, ys) ⟨hk.1, by simp only [hk.2]; omega⟩ (by simp; omega) ⟨rfl, rfl, ?_, rfl, trivial⟩ (fun _ h => h.sel [1] rfl)
        simp only [hk.2]
    · have hj : ¬ j < xs.length := by simpa using h1
      obtain ⟨hd1, hd2⟩ := hs.done hj
      have hle := List.length_filter_le (fun x => !p x) xs
      have hyl := hs.len
      rw [hd2]
      refine ⟨⟨by omega, by omega⟩, ?_⟩
      show Go _ _ _ _
      refine Go_ops rfl (OpTo_clear tabOk encE_is (j := (xs.filter fun x => !p x).length) (m := xs.length - (xs.filter fun x => !p x).length) zeroE 0 rfl rfl rfl rfl rfl rfl rfl rfl (by omega) ?_)
      refine VC_sound tabOk 100 ?_
      refine ⟨⟨by omega, by omega⟩, ?_⟩
      refine ⟨_, ⟨rfl, rfl⟩, fun hfs w h => ?_⟩
      have h := h.own_take (i := 0) (n := (xs.filter fun x => !p x).length) encE_is (by simp; omega) rfl
      have e : (ys.take (xs.filter fun x => !p x).length ++ List.replicate (xs.length - (xs.filter fun x => !p x).length) zeroE).take (xs.filter fun x => !p x).length = xs.filter fun x => !p x := by
        rw [hd1]; simp
      rw [e] at h
      exact h

end Go.Proofs.YthpcahgdobnljaaGreat
