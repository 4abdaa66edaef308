/- What the functions of package snap do, and the references' of layer 5. -/
import Derived.Test.YtbhlkninmbafcaaGreatSl64
set_option maxRecDepth 100000
set_option autoImplicit false
set_option linter.unusedVariables false
namespace Go.Proofs.YtbhlkninmbafcaaGreat
open Go.RX Go Go.RowKit


/-- A snapshot as a value. -/
abbrev snV (mx : Int) (A : Option Addr) (n c : Nat) : Value := .agg #[.int .i64 mx, .slice A n c]

def snSees (mx : Int) (op : List Int) (x : Int) : Bool := decide (1 ≤ x) && (decide (x < mx) && !op.contains x)
def snLeast (mx : Int) : List Int → Int
  | [] => mx
  | z :: _ => z
def rightFrom (mx : Int) : Int → List Int → Bool
  | _, [] => true
  | last, x :: r => if x ≤ last then false else if mx ≤ x then false else rightFrom mx x r
def snRight (mx : Int) (op : List Int) : Bool := rightFrom mx 0 op && decide (1 ≤ mx)
def snHidden (amx : Int) (bop : List Int) : Nat := (bop.filter fun x => decide (amx ≤ x)).length
def snCovers (amx : Int) (aop : List Int) (bmx : Int) (bop : List Int) : Bool := !aop.any (snSees bmx bop) && (decide (bmx ≤ amx) || decide ((snHidden amx bop : Int) = bmx - amx))

set_option maxHeartbeats 400000 in
theorem snap_sees (mx : Int) (A : Option Addr) (c : Nat) (op : List Int) (x : Int) (w0 : World) (hA : RdI w0 A op) (hn : op.length ≤ 4611686018427387904) :
    Calls Tryz.prog 68 #[snV mx A op.length c, .int .i64 x] w0 fun e w' => e = .returned (.bool (snSees mx op x)) ∧ BelowD w0.heap.size w0 w' := by
  refine enterP (tab := tab) Tryz.func68 rfl Tryz.ntmps68 rfl (args := [_, _]) rfl ?_
  refine VC_sound tabOk 100 ?_
  intro bb _
  refine ⟨fun h1 => ?_, fun h1 => congrArg Value.bool (by simp [snSees, h1])⟩
  refine .inl ⟨rfl, ?_⟩
  refine ⟨fun h2 => ?_, fun h2 => congrArg Value.bool (by simp [snSees, h1, h2])⟩
  refine .inl ⟨rfl, ?_⟩
  refine Go_ops rfl (OpTo_pcall rfl rfl rfl rfl rfl (by kernel_rfl) (fun w hm _ => sl_contains A c op x w (hA.mod hm) hn) ?_)
  refine VC_sound tabOk 100 ?_
  exact congrArg Value.bool (by simp [snSees, h1, h2])

set_option maxHeartbeats 400000 in
theorem r05_sees (mx : Int) (A : Option Addr) (c : Nat) (op : List Int) (x : Int) (w0 : World) (hA : RdI w0 A op) (hn : op.length ≤ 4611686018427387904) :
    Calls Tryz.prog 72 #[snV mx A op.length c, .int .i64 x] w0 fun e w' => e = .returned (.bool (snSees mx op x)) ∧ BelowD w0.heap.size w0 w' := by
  refine enterP (tab := tab) Tryz.func72 rfl Tryz.ntmps72 rfl (args := [_, _]) rfl ?_
  refine VC_sound tabOk 100 ?_
  intro bb _
  refine ⟨fun h1 => ?_, fun h1 => congrArg Value.bool (by simp [snSees, h1])⟩
  refine .inl ⟨rfl, ?_⟩
  refine ⟨fun h2 => ?_, fun h2 => congrArg Value.bool (by simp [snSees, h1, h2])⟩
  refine .inl ⟨rfl, ?_⟩
  refine Go_ops rfl (OpTo_pcall rfl rfl rfl rfl rfl (by kernel_rfl) (fun w hm _ => r01_has A c op x w (hA.mod hm) hn) ?_)
  refine VC_sound tabOk 100 ?_
  exact congrArg Value.bool (by simp [snSees, h1, h2])




theorem rightFrom_cons (mx last : Int) (op : List Int) (i : Nat) (h : i < op.length) : rightFrom mx last (op.drop i) = if op[i] ≤ last then false else if mx ≤ op[i] then false else rightFrom mx op[i] (op.drop (i + 1)) := by
  rw [List.drop_eq_getElem_cons h]; rfl




theorem snHidden_take (amx : Int) (bop : List Int) (i : Nat) (h : i < bop.length) : snHidden amx (bop.take (i + 1)) = snHidden amx (bop.take i) + if amx ≤ bop[i] then 1 else 0 := by
  unfold snHidden
  rw [List.take_succ_eq_append_getElem h, List.filter_append, List.length_append]
  congr 1
  by_cases hh : amx ≤ bop[i] <;> simp [hh]
theorem snHidden_le (amx : Int) (bop : List Int) : snHidden amx bop ≤ bop.length := List.length_filter_le _ _
theorem snHidden_take_le (amx : Int) (bop : List Int) (i : Nat) : snHidden amx (bop.take i) ≤ bop.length := Nat.le_trans (snHidden_le _ _) (by simp; omega)



end Go.Proofs.YtbhlkninmbafcaaGreat
