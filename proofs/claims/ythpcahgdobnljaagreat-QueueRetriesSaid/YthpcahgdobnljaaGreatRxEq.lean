/- RX, part 15: two values of one type of plain parts: are they equal? -/
import Derived.Test.YthpcahgdobnljaaGreatRxMap
import Derived.Laws.StructEq
set_option autoImplicit false
set_option linter.unusedVariables false
set_option linter.unusedSimpArgs false
namespace Go.RX
open Go Go.RowKit

/-- The parts of two values of several cells, by a comparison of parts. -/
def eqvF (tab : Tab) (rec : TypeId → Value → Value → Option Bool) (xs ys : List Value) : List (Nat × TypeId) → Option Bool
  | [] => some true
  | (off, ft) :: r => match tlook tab ft with
    | some i => match partL i xs off, partL i ys off with
      | some a, some b => match rec ft a b, eqvF tab rec xs ys r with
        | some p, some q => some (p && q)
        | _, _ => none
      | _, _ => none
    | none => none

/-- Are two values equal? By the types 'ts', of which no field is blank. -/
def eqv (tab : Tab) (ts : List Nat) : Nat → TypeId → Value → Value → Option Bool
  | 0, _, _, _ => none
  | d + 1, t, x, y => match kindIs tab t, x, y with
    | some (.int _), .int k a, .int k' b => match decide (k = k') with
      | true => some (a == b)
      | false => none
    | some .bool, .bool a, .bool b => some (a == b)
    | some .str, .string a, .string b => some (a.toList == b.toList)
    | some (.struct fs), .agg xs, .agg ys => match memb t ts with
      | true => eqvF tab (eqv tab ts d) xs.toList ys.toList fs
      | false => none
    | _, _, _ => none

/-- No field is blank. -/
def fairB (P : Program) (t : TypeId) : Bool := !P.stoodInHeld t && (P.fieldsOf t).toList.all fun f => decide (f.name ≠ "_")

theorem memb_mem {i : Nat} {l : List Nat} (h : memb i l = true) : i ∈ l := memb_spec h

section
variable {P : Program} {tab : Tab}

theorem eqvF_sound (ht : TabOk P tab) {rec : TypeId → Value → Value → Option Bool} {D : Nat} (hrec : ∀ t x y r w, rec t x y = some r → (Op.equalIn D t x y).run P w = .ok r w) {xs ys : Array Value} (w : World) :
    ∀ (fs : List Field) (r : Bool), (fs.all fun f => decide (f.name ≠ "_")) = true → eqvF tab rec xs.toList ys.toList (fs.map fun f => (f.offset, f.type)) = some r → (Op.eqFields D xs ys fs).run P w = .ok r w
  | [], r, _, h => by simp only [List.map_nil, eqvF] at h; cases h; simp [Op.eqFields]
  | f :: fs, r, hn, h => by
    simp only [List.all_cons, Bool.and_eq_true, decide_eq_true_eq] at hn
    simp only [List.map_cons, eqvF] at h
    split at h <;> try (cases h; done)
    rename_i i hi
    split at h <;> try (cases h; done)
    rename_i a b ha hb
    split at h <;> try (cases h; done)
    rename_i p q hp hq
    cases h
    have ih := eqvF_sound ht hrec w fs q (by simpa using hn.2) hq
    simp only [Op.eqFields, if_pos hn.1, Sem.run_bind, partL_sound ht hi ha w, Result.andThen_ok, partL_sound ht hi hb w, hrec _ _ _ _ w hp, Sem.run_ite]
    cases p
    · simp
    · simp [ih]

theorem eqv_sound (ht : TabOk P tab) {ts : List Nat} (hts : ∀ t ∈ ts, fairB P t = true) : ∀ (d e : Nat) (t : TypeId) (x y : Value) (r : Bool) (w : World), eqv tab ts d t x y = some r → (Op.equalIn (d + e) t x y).run P w = .ok r w
  | 0, _, _, _, _, _, _, h => by simp [eqv] at h
  | d + 1, e, t, x, y, r, w, h => by
    rw [show d + 1 + e = (d + e) + 1 from by omega]
    simp only [eqv] at h
    split at h
    · rename_i k0 k a k' b hk
      split at h <;> try (cases h; done)
      rename_i hkk
      have := of_decide_eq_true hkk
      subst this
      cases h
      obtain ⟨u, hu, hk⟩ := kind_spec ht hk
      simp only [TK.ok] at hk; subst hk
      exact run_equalIn_int w _ t _ _ a b hu
    · rename_i a b hk
      cases h
      obtain ⟨u, hu, hk⟩ := kind_spec ht hk
      simp only [TK.ok] at hk; subst hk
      exact equalIn_bool _ hu a b w
    · rename_i a b hk
      cases h
      obtain ⟨u, hu, hk⟩ := kind_spec ht hk
      simp only [TK.ok] at hk; subst hk
      exact run_equalIn_string w _ t a b hu
    · rename_i fs xs ys hk
      split at h <;> try (cases h; done)
      rename_i hm
      obtain ⟨u, hu, fields, hfl, hfs⟩ := kind_spec ht hk
      subst hfl
      have hf := hts t (memb_mem hm)
      simp only [fairB, Bool.and_eq_true, Bool.not_eq_true'] at hf
      have hfo : P.fieldsOf t = fields := by simp [Program.fieldsOf, hu]
      rw [run_equalIn_struct w (d + e) t xs ys (by rw [hfo]; exact hu) hf.1]
      rw [hfo]
      rw [hfo] at hf
      rw [← hfs] at h
      exact eqvF_sound ht (fun t' x' y' r' w' h' => eqv_sound ht hts d e t' x' y' r' w' h') w _ r (by simpa using hf.2) h
    · cases h

/-- Two structs compared. -/
theorem run_eq_struct (ht : TabOk P tab) {ts : List Nat} (hts : ∀ t ∈ ts, fairB P t = true) {t : TypeId} {xs ys : Array Value} {r : Bool} (hg : P.eqGuardType P.depth t = false) (h : eqv tab ts 5 t (.agg xs) (.agg ys) = some r) (x y : Operand) (w : World) :
    (binRun .eql t x y (.agg xs) (.agg ys)).run P w = .ok (.bool r) w ∧ (binRun .neq t x y (.agg xs) (.agg ys)).run P w = .ok (.bool (!r)) w := by
  have he : (Op.equalIn 10000 t (.agg xs) (.agg ys)).run P w = .ok r w := eqv_sound ht hts 5 9995 t _ _ r w h
  constructor
  · simp only [binRun, Sem.run_bind, run_eqGuard_agg w _ t x y xs ys hg, Result.andThen_ok, run_eql_struct, he]
  · simp only [binRun, Sem.run_bind, run_eqGuard_agg w _ t x y xs ys hg, Result.andThen_ok, run_neq_struct, he]
end
end Go.RX
