/- Events as values; Go's own functions on slices of them. -/
import Derived.Test.YtphfeldcmkbinaaSl64
import Derived.Test.YtphfeldcmkbinaaRxFn
set_option autoImplicit false
set_option linter.unusedVariables false
namespace Go.Proofs.Ytphfeldcmkbinaa
open Go.RX Go Go.RowKit

/-- An event. -/
structure EventM where
  id : Int
  tx : Int
  owner : ByteArray
  tries : Int
  table : Int
  kind : Int
  key : Int
  text : ByteArray

def encE : EventM → List Value := fun x => [.int .i64 x.id, .int .i64 x.tx, .string x.owner, .int .i64 x.tries, .int .i64 x.table, .int .u8 x.kind, .int .i64 x.key, .string x.text]
theorem encE_is : IsEnc encE 8 := ⟨fun _ => rfl, fun x v hv => by simp [encE] at hv; rcases hv with rfl | rfl | rfl | rfl | rfl | rfl | rfl | rfl <;> rfl, by decide⟩
abbrev mkE (x : EventM) : Value := .agg #[.int .i64 x.id, .int .i64 x.tx, .string x.owner, .int .i64 x.tries, .int .i64 x.table, .int .u8 x.kind, .int .i64 x.key, .string x.text]
def zeroE : EventM := ⟨0, 0, ⟨#[]⟩, 0, 0, 0, 0, ⟨#[]⟩⟩

set_option maxHeartbeats 400000 in
theorem sl_indexFunc_E (A : Option Addr) (c : Nat) (zs : List EventM) (f : FuncId) (first cap : Array Value) (p : EventM → Bool) (w0 : World) (hA : RdW w0 A (zs.flatMap encE)) (hn : zs.length ≤ 4611686018427387904) (hf : callable Try.prog f = true) (hp : Answers Try.prog w0 f first cap mkE p zs) :
    Calls Try.prog 47 #[.slice A zs.length c, .func (.func f) first cap] w0 fun e w' => e = .returned (.int .i64 (idxF p zs)) ∧ BelowD w0.heap.size w0 w' := by
  refine enterP (tab := tab) Try.func47 rfl Try.ntmps47 rfl (args := [_, _]) rfl ?_
  refine VC_sound tabOk 100 ?_
  refine Go_loop (σ := Nat) (fun i => [(0, .v (.slice A zs.length c)), (1, .v (.func (.func f) first cap)), (7, .v (.int .i64 zs.length)), (8, .v (.int .i64 i))]) (fun _ => []) (fun i => i ≤ zs.length ∧ ∀ j (h : j < zs.length), j < i → p zs[j] = false) (fun i => zs.length - i) 0 ⟨Nat.zero_le _, fun _ _ h => by omega⟩ ⟨rfl, rfl, rfl, rfl, trivial⟩ (fun _ h => h) ?_
  intro i ⟨hi, hne⟩
  refine VC_sound tabOk 100 ?_
  refine ⟨fun hb => ?_, fun hb => ?_⟩
  · have hlt : i < zs.length := by simpa using hb
    obtain ⟨b, o, rfl⟩ := RdW.some encE_is hA (ne_nil_of_lt hlt)
    refine ⟨⟨by omega, by omega⟩, ?_⟩
    refine Go_ops rfl (OpTo_loadRow tabOk encE_is (mkE zs[i]) rfl rfl rfl rfl rfl (fun h => by first | rfl | cases h) (fun w hm _ => hA.mod hm) (List.getElem?_eq_getElem hlt) rfl ?_)
    refine VC_sound tabOk 100 ?_
    refine Go_ops rfl (OpTo_pcall (v := .bool (p zs[i])) (av := first.toList ++ [mkE zs[i]] ++ cap.toList) rfl rfl rfl rfl rfl hf (fun w hm hio => hp zs[i] (List.getElem_mem hlt) w (hm.below hio)) ?_)
    refine VC_sound tabOk 100 ?_
    refine ⟨fun hb => ?_, fun hb => ?_⟩
    · exact congrArg (Value.int .i64) (idxF_at p zs i hlt hb hne).symm
    · refine ⟨_, wrap_i64 (n := (i : Int) + 1) (by omega) (by omega), ?_⟩
      refine Go_fin (i + 1) ⟨by omega, fun j h hj => ?_⟩ (by omega) ⟨rfl, rfl, rfl, rfl, trivial⟩ (fun _ h => h)
      by_cases e : j = i
      · subst e; exact hb
      · exact hne j h (by omega)
  · have hge : ¬ i < zs.length := by simpa using hb
    exact congrArg (Value.int .i64) (idxF_none p zs fun j h => hne j h (by omega)).symm

set_option maxHeartbeats 400000 in
theorem sl_containsFunc_E (A : Option Addr) (c : Nat) (zs : List EventM) (f : FuncId) (first cap : Array Value) (p : EventM → Bool) (w0 : World) (hA : RdW w0 A (zs.flatMap encE)) (hn : zs.length ≤ 4611686018427387904) (hf : callable Try.prog f = true) (hp : Answers Try.prog w0 f first cap mkE p zs) :
    Calls Try.prog 37 #[.slice A zs.length c, .func (.func f) first cap] w0 fun e w' => e = .returned (.bool (zs.any p)) ∧ BelowD w0.heap.size w0 w' := by
  refine enterP (tab := tab) Try.func37 rfl Try.ntmps37 rfl (args := [_, _]) rfl ?_
  refine VC_sound tabOk 100 ?_
  refine Go_ops rfl (OpTo_pcall rfl rfl rfl rfl rfl (by kernel_rfl) (fun w hm hio => sl_indexFunc_E A c zs f first cap p w (hA.mod hm) hn hf (hp.below (hm.below hio))) ?_)
  refine VC_sound tabOk 100 ?_
  exact congrArg Value.bool (idxF_any p zs)


end Go.Proofs.Ytphfeldcmkbinaa
