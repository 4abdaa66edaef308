/- RX, part 3: operations that touch no memory: what each leaves, by computation; and that the model says so. -/
import Derived.Test.YthpcahgdobnljaaGreatRxCore
import Derived.Laws.Slices
set_option autoImplicit false
set_option linter.unusedVariables false
set_option linter.unusedSimpArgs false
namespace Go.RX
open Go

/-- A number of a kind's range needs no wrap. -/
theorem wrap_i64 {n : Int} (h0 : -9223372036854775808 ≤ n) (h1 : n ≤ 9223372036854775807) : n = IntKind.i64.wrap n := by
  simp only [IntKind.wrap, IntKind.bits, IntKind.signed]
  simp
  omega
theorem wrap_u8 {n : Int} (h0 : 0 ≤ n) (h1 : n ≤ 255) : n = IntKind.u8.wrap n := by
  simp only [IntKind.wrap, IntKind.bits, IntKind.signed]
  simp
  omega
theorem wrap_i32 {n : Int} (h0 : -2147483648 ≤ n) (h1 : n ≤ 2147483647) : n = IntKind.i32.wrap n := by
  simp only [IntKind.wrap, IntKind.bits, IntKind.signed]
  simp
  omega
theorem wrap_u64 {n : Int} (h0 : 0 ≤ n) (h1 : n ≤ 18446744073709551615) : n = IntKind.u64.wrap n := by
  simp only [IntKind.wrap, IntKind.bits, IntKind.signed]
  simp
  omega

def addA (a : Addr) (m : Nat) : Addr := match a.spot with
  | none => ⟨a.block, a.off + m, none⟩
  | some _ => a.add m
theorem addA_eq (a : Addr) (m : Nat) : addA a m = a.add m := by
  obtain ⟨b, o, s⟩ := a
  cases s with
  | none => simp only [addA, Addr.add]; split <;> simp_all
  | some x => rfl

def vbin (op : BinOp) (x y : Value) (K : SV → Prop) : Option Prop :=
  match op, x, y with
  | .add, .int k a, .int k' b => match decide (k = k') with
    | true => some (∃ z, z = k.wrap (a + b) ∧ K (.v (.int k z)))
    | false => none
  | .sub, .int k a, .int k' b => match decide (k = k') with
    | true => some (∃ z, z = k.wrap (a - b) ∧ K (.v (.int k z)))
    | false => none
  | .mul, .int k a, .int k' b => match decide (k = k') with
    | true => some (∃ z, z = k.wrap (a * b) ∧ K (.v (.int k z)))
    | false => none
  | .quo, .int k a, .int k' b => match decide (k = k') with
    | true => some (b ≠ 0 ∧ ∃ z, z = k.wrap (a.tdiv b) ∧ K (.v (.int k z)))
    | false => none
  | .rem, .int k a, .int k' b => match decide (k = k') with
    | true => some (b ≠ 0 ∧ ∃ z, z = a.tmod b ∧ K (.v (.int k z)))
    | false => none
  | .and, .int k a, .int k' b => match decide (k = k') with
    | true => some (∃ z, z = k.wrap (BitVec.ofInt k.bits a &&& BitVec.ofInt k.bits b).toNat ∧ K (.v (.int k z)))
    | false => none
  | .lss, .int k a, .int k' b => match decide (k = k') with
    | true => some (K (.v (.bool (decide (a < b)))))
    | false => none
  | .leq, .int k a, .int k' b => match decide (k = k') with
    | true => some (K (.v (.bool (decide (a ≤ b)))))
    | false => none
  | .gtr, .int k a, .int k' b => match decide (k = k') with
    | true => some (K (.v (.bool (decide (b < a)))))
    | false => none
  | .geq, .int k a, .int k' b => match decide (k = k') with
    | true => some (K (.v (.bool (decide (b ≤ a)))))
    | false => none
  | .eql, .int k a, .int k' b => match decide (k = k') with
    | true => some (K (.v (.bool (decide (a = b)))))
    | false => none
  | .neq, .int k a, .int k' b => match decide (k = k') with
    | true => some (K (.v (.bool (!decide (a = b)))))
    | false => none
  | .eql, .string a, .string b => some (K (.v (.bool (a.toList == b.toList))))
  | .neq, .string a, .string b => some (K (.v (.bool (!(a.toList == b.toList)))))
  | .lss, .string a, .string b => some (K (.v (.bool (Op.bytesLess a.toList b.toList))))
  | .gtr, .string a, .string b => some (K (.v (.bool (!(Op.bytesLess a.toList b.toList || a.toList == b.toList)))))
  | .geq, .string a, .string b => some (K (.v (.bool (!(Op.bytesLess a.toList b.toList)))))
  | .leq, .string a, .string b => some (K (.v (.bool (Op.bytesLess a.toList b.toList || a.toList == b.toList))))
  | _, _, _ => none

theorem eqGuard_int (P : Program) (w : World) (op : BinOp) (t : TypeId) (x y : Operand) (k k' : IntKind) (a b : Int) : (eqGuard op t x y (.int k a) (.int k' b)).run P w = .ok () w := by
  cases op <;> simp [eqGuard]
theorem eqGuard_string (P : Program) (w : World) (op : BinOp) (t : TypeId) (x y : Operand) (a b : ByteArray) : (eqGuard op t x y (.string a) (.string b)).run P w = .ok () w := by
  cases op <;> simp [eqGuard]
theorem eqGuard_bool (P : Program) (w : World) (op : BinOp) (t : TypeId) (x y : Operand) (a b : Bool) : (eqGuard op t x y (.bool a) (.bool b)).run P w = .ok () w := by
  cases op <;> simp [eqGuard]
theorem eqGuard_pointer (P : Program) (w : World) (op : BinOp) (t : TypeId) (x y : Operand) (a b : Option Addr) : (eqGuard op t x y (.pointer a) (.pointer b)).run P w = .ok () w := by
  cases op <;> simp [eqGuard]
theorem eqGuard_func (P : Program) (w : World) (op : BinOp) (t : TypeId) (x y : Operand) (v : Value) (h : v ≠ .nilIface) (h' : ∀ c, v ≠ .agg c) (u : Value) : (eqGuard op t x y v u).run P w = .ok () w := by
  cases op <;> simp [eqGuard] <;> cases v <;> simp_all

/-- What the model's operation does to two values. -/
def binRun (op : BinOp) (t : TypeId) (x y : Operand) (a b : Value) : Sem Value := do eqGuard op t x y a b; binOp op t a b

theorem vbin_sound {P : Program} {op : BinOp} {x y : Value} {K : SV → Prop} {X : Prop} (h : vbin op x y K = some X) (hx : X) :
    ∃ s, K s ∧ ∀ (t : TypeId) (p q : Operand) (w : World), (binRun op t p q x y).run P w = .ok s.val w := by
  unfold vbin at h
  split at h <;> (try split at h) <;> (try (cases h; done)) <;> (try (rename_i hk; have hk := of_decide_eq_true hk; subst hk)) <;> cases h
  · obtain ⟨z, rfl, hk⟩ := hx; exact ⟨_, hk, fun t p q w => by simp [binRun, eqGuard_int, binOp, Op.intArith, SV.val]⟩
  · obtain ⟨z, rfl, hk⟩ := hx; exact ⟨_, hk, fun t p q w => by simp [binRun, eqGuard_int, binOp, Op.intArith, SV.val]⟩
  · obtain ⟨z, rfl, hk⟩ := hx; exact ⟨_, hk, fun t p q w => by simp [binRun, eqGuard_int, binOp, Op.intArith, SV.val]⟩
  · obtain ⟨h0, z, rfl, hk⟩ := hx; exact ⟨_, hk, fun t p q w => by simp [binRun, eqGuard_int, binOp, Op.intDiv, SV.val, h0]⟩
  · obtain ⟨h0, z, rfl, hk⟩ := hx; exact ⟨_, hk, fun t p q w => by simp [binRun, eqGuard_int, binOp, Op.intDiv, SV.val, h0]⟩
  · obtain ⟨z, rfl, hk⟩ := hx; exact ⟨_, hk, fun t p q w => by simp [binRun, eqGuard_int, binOp, Op.intBits, SV.val]⟩
  all_goals
    refine ⟨_, hx, fun t p q w => ?_⟩
    first
      | (simp [binRun, eqGuard_int, binOp, Op.intCmp, SV.val]; done)
      | (simp [binRun, eqGuard_int, binOp, Op.intCmp, SV.val]; rfl)
      | (simp [binRun, eqGuard_string, binOp, Op.stringOp, SV.val]; done)
      | (simp [binRun, eqGuard_int, binOp, Op.intCmp, SV.val, bne]; rfl)

end Go.RX
