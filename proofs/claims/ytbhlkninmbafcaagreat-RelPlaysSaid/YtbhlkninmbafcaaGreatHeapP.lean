/- What views see: plain laws of versions. -/
import Derived.Test.YtbhlkninmbafcaaGreatHeapC
set_option maxRecDepth 100000
set_option autoImplicit false
set_option linter.unusedVariables false
set_option linter.unusedSimpArgs false
namespace Go.Proofs.YtbhlkninmbafcaaGreat
open Go.RX Go Go.RowKit

theorem sameBy_keys {κ α : Type} [DecidableEq κ] {key : α → κ} {xs ys : List α} (h : SameBy key xs ys) : (xs.map key).Perm (ys.map key) := List.perm_iff_count.2 fun k => by
  have e : ∀ l : List α, (l.map key).count k = (l.filter fun x => decide (key x = k)).length := fun l => by
    induction l with
    | nil => rfl
    | cons a l ih =>
      simp only [List.map_cons, List.count_cons, List.filter_cons, ih]
      by_cases hk : key a = k <;> simp [hk]
  rw [e, e, h k]
theorem SrtS.unique {xs ys zs : List RowM} (h : SrtS xs ys) (h' : SrtS xs zs) : ys = zs := Rise.unique ordI h.2.1 h'.2.1 (h.1.symm.trans h'.1)

/-- A version that a view saw has died by it. -/
def endV (st : Int → Int) (v : VwM) (x : VerM) : VerM := if seesP st v x = true then ⟨x.key, x.text, x.born, v.own⟩ else x
theorem seesP_own {st : Int → Int} {v : VwM} (ho : 0 < v.own) (k : Int) (t : ByteArray) (b : Int) : seesP st v ⟨k, t, b, v.own⟩ = false := by simp [seesP, didP, ho]
theorem filt_nil {α : Type} {p : α → Bool} {l : List α} (h : l.filter p = []) : ∀ x ∈ l, p x = false := fun x hx => by
  have := List.filter_eq_nil_iff.1 h x hx
  simpa using this

/-- In the midst of a Truncate: those with the keys 'ks' are still to die. -/
structure TruI (st : Int → Int) (v : VwM) (vs vs' : List VerM) (ks : List Int) : Prop where
  fin : vs'.map (endV st v) = vs.map (endV st v)
  ks : ((vs'.filter (seesP st v)).map VerM.key).Perm ks
  no : ∀ x ∈ vs', seesP st v x = true → othP st v x.died = false
theorem TruI.len {st : Int → Int} {v : VwM} {vs vs' : List VerM} {ks : List Int} (h : TruI st v vs vs' ks) : vs'.length = vs.length := by
  have := congrArg List.length h.fin
  simpa using this
theorem TruI.start {st : Int → Int} {v : VwM} {vs : List VerM} {ys : List RowM} (h : SrtS (seenL st v vs) ys) (hn : vs.any (truP st v) = false) : TruI st v vs vs (ys.map RowM.key) := by
  refine ⟨rfl, ?_, fun x hx hs => ?_⟩
  · have := sameBy_keys h.1
    rw [seenL, List.map_map] at this
    exact this
  · have := List.any_eq_false.1 hn x hx
    simp [truP, hs] at this
    exact this
theorem TruI.step {st : Int → Int} {v : VwM} {vs vs' : List VerM} {k : Int} {ks : List Int} (ho : 0 < v.own) (h : TruI st v vs vs' (k :: ks)) {i : Nat} {x : VerM} (hx : vs'[i]? = some x) (hf : findP st v k x = true) :
    TruI st v vs (vs'.set i ⟨x.key, x.text, x.born, v.own⟩) ks := by
  obtain ⟨hi, hxi⟩ := List.getElem?_eq_some_iff.1 hx
  have hk : x.key = k ∧ seesP st v x = true := by simpa [findP] using hf
  have es : vs' = vs'.take i ++ x :: vs'.drop (i + 1) := by rw [← hxi]; simp
  have e2 : vs'.set i ⟨x.key, x.text, x.born, v.own⟩ = vs'.take i ++ (⟨x.key, x.text, x.born, v.own⟩ : VerM) :: vs'.drop (i + 1) := by rw [List.set_eq_take_append_cons_drop, if_pos hi]
  refine ⟨?_, ?_, ?_⟩
  · rw [← h.fin]
    conv => rhs; rw [es]
    rw [e2, List.map_append, List.map_append, List.map_cons, List.map_cons]
    have e3 : endV st v ⟨x.key, x.text, x.born, v.own⟩ = endV st v x := by rw [endV, if_neg (by rw [seesP_own ho]; simp), endV, if_pos hk.2]
    rw [e3]
  · have hp := h.ks
    rw [es, List.filter_append, List.filter_cons, if_pos hk.2, List.map_append, List.map_cons, hk.1] at hp
    rw [e2, List.filter_append, List.filter_cons, if_neg (by rw [seesP_own ho]; simp), List.map_append]
    exact (List.perm_middle.symm.trans hp).cons_inv
  · intro y hy hs
    rw [e2] at hy
    rcases List.mem_append.1 hy with hy | hy
    · exact h.no y (List.mem_of_mem_take hy) hs
    rcases List.mem_cons.1 hy with rfl | hy
    · rw [seesP_own ho] at hs; cases hs
    · exact h.no y (List.mem_of_mem_drop hy) hs
theorem TruI.some {st : Int → Int} {v : VwM} {vs vs' : List VerM} {k : Int} {ks : List Int} (h : TruI st v vs vs' (k :: ks)) : ¬ ∀ x ∈ vs', findP st v k x = false := fun hn => by
  have hm : k ∈ (vs'.filter (seesP st v)).map VerM.key := h.ks.mem_iff.2 (by simp)
  obtain ⟨x, hx, rfl⟩ := List.mem_map.1 hm
  obtain ⟨hx, hs⟩ := List.mem_filter.1 hx
  have := hn x hx
  simp [findP, hs] at this
theorem TruI.done {st : Int → Int} {v : VwM} {vs vs' : List VerM} (h : TruI st v vs vs' []) : vs' = vs.map (endV st v) := by
  have h0 : vs'.filter (seesP st v) = [] := by simpa using h.ks.eq_nil
  rw [← h.fin]
  conv => lhs; rw [← List.map_id vs']
  refine List.map_congr_left fun x hx => ?_
  rw [endV, if_neg (by rw [filt_nil h0 x hx]; simp)]
  rfl
end Go.Proofs.YtbhlkninmbafcaaGreat
