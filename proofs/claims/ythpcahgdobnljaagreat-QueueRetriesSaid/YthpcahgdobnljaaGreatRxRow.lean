/- RX, part 12: a law's arguments as the statement gives them; and back. -/
import Derived.Test.YthpcahgdobnljaaGreatRxOps
import Derived.OpenShut
import Derived.SizedLaws
import Derived.Carry
import Derived.JoinedOf
import Derived.ProofKit
set_option autoImplicit false
set_option linter.unusedVariables false
set_option linter.unusedSimpArgs false
namespace Go.RX
open Go Go.RowKit Go.ChangeShapes Go.WideShapes

section
variable {H : Type} {enc : TypeId × Value → H} {P : Program}

theorem trodAll_below {W W' : World} (hl : laidOutB P = true) (hb : Below W.heap.size W W') : ∀ {ts : List TypeId} {vs : List Value} {ds : List (DataW H)} {ps : List MemPlace}, (ts.all fun t => P.readableRec t && decide (t < P.types.size)) = true →
    DataW.TrodAll enc P W 0 (fun _ => true) true ts vs ds ps → (∀ x ∈ ps, x.block < W.heap.size) → DataW.TrodAll enc P W' 0 (fun b => decide (b < W.heap.size)) true ts vs ds ps
  | [], vs, ds, ps, _, h, _ => by
    obtain ⟨rfl, rfl, rfl⟩ := trodAll_nil h
    exact trodAll_mk0
  | t :: ts, vs, ds, ps, hr, h, hlt => by
    obtain ⟨v, vs', d, ds', p, p', rfl, rfl, rfl, h1, h2⟩ := trodAll_cons h
    simp only [List.all_cons, Bool.and_eq_true, decide_eq_true_eq] at hr
    exact trodAll_cons_mk (Below.trod hl hr.1.1 hr.1.2 h1 hb fun x hx => hlt x (by simp [hx])) (trodAll_below hl hb hr.2 h2 fun x hx => hlt x (by simp [hx]))

variable {w : World} {base : Nat} {sp : Nat → Bool} {held : Bool}

theorem list_of {α : Type} {R : Nat → α → Prop} : ∀ {n : Nat}, (∀ i, i < n → ∃ u, R i u) → ∃ xs : List α, xs.length = n ∧ ∀ i u, xs[i]? = some u → R i u
  | 0, _ => ⟨[], rfl, fun i u h => by simp at h⟩
  | n + 1, h => by
    obtain ⟨xs, h1, h2⟩ := list_of (R := R) (n := n) fun i hi => h i (by omega)
    obtain ⟨u, hu⟩ := h n (by omega)
    refine ⟨xs ++ [u], by simp [h1], fun i v hv => ?_⟩
    by_cases e : i < n
    · rw [List.getElem?_append_left (by omega)] at hv; exact h2 i v hv
    · rw [List.getElem?_append_right (by omega)] at hv
      have : i - xs.length = 0 := by
        have := (List.getElem?_eq_some_iff.1 hv).1
        simp at this; omega
      rw [this] at hv
      simp at hv; subst hv
      have : i = n := by omega
      subst this; exact hu

theorem IsEnc.flat_inv {α : Type} {en : α → List Value} {k : Nat} (he : IsEnc en k) {xs : List α} {j : Nat} {v : Value} (h : (xs.flatMap en)[j]? = some v) : ∃ i r u, xs[i]? = some u ∧ (en u)[r]? = some v ∧ j = i * k + r ∧ r < k := by
  have hj := (List.getElem?_eq_some_iff.1 h).1
  rw [he.flat_len] at hj
  have hk := he.pos
  have hi : j / k < xs.length := Nat.div_lt_of_lt_mul (by rw [Nat.mul_comm]; exact hj)
  have hr : j % k < k := Nat.mod_lt _ hk
  have hlt : j % k < (en xs[j / k]).length := by rw [he.len]; exact hr
  have e : j = j / k * k + j % k := by rw [Nat.mul_comm]; exact (Nat.div_add_mod j k).symm
  have := he.flat_at (List.getElem?_eq_getElem hi) (j % k) _ (List.getElem?_eq_getElem hlt)
  rw [← e, h] at this
  refine ⟨j / k, j % k, xs[j / k], List.getElem?_eq_getElem hi, ?_, e, hr⟩
  rw [List.getElem?_eq_getElem hlt, this]

theorem rd_cells {α : Type} {en : α → List Value} {k : Nat} (he : IsEnc en k) {Q : α → Prop} {t e : TypeId} (ht : P.underlying t = some (.slice e)) (hc : P.cellsOf e = k)
    (dec : ∀ cs y fuel, DataW.trod enc P w base sp held fuel e cs = some y → ∃ u, cs = en u ∧ Q u) {fuel : Nat} {cs : List Value} {x : DataW H × List MemPlace} (hd : DataW.trod enc P w base sp held fuel t cs = some x) :
    ∃ (A : Option Addr) (c : Nat) (xs : List α), cs = [.slice A xs.length c] ∧ RdW w A (xs.flatMap en) ∧ (∀ x ∈ xs, Q x) ∧ xs.length ≤ c ∧ c ≤ maxLen := by
  rcases DataW.trod_slice ht hd with ⟨h0, _⟩ | ⟨a, len, cap, elems, rest, n, _, h0, _, _, hl, hm, hlen, hel, _, _⟩
  · exact ⟨none, 0, [], h0, .inl rfl, by simp, by simp, by simp⟩
  · obtain ⟨xs, hxl, hxs⟩ := list_of (n := len) (R := fun i u => w.cells? base (a.add (i * k)) k = some (en u) ∧ Q u) fun i hi => by
      have h1 := hel i hi
      rw [hc] at h1
      have h2 : elems[i]? = some (elems[i]'(by omega)) := List.getElem?_eq_getElem (by omega)
      rw [h2, Option.bind_eq_some_iff] at h1
      obtain ⟨cs', h3, h4⟩ := h1
      obtain ⟨u, rfl, hu⟩ := dec cs' _ _ h4
      exact ⟨u, h3, hu⟩
    refine ⟨some a, cap, xs, by rw [hxl]; exact h0, ?_, fun x hx => ?_, by omega, hm⟩
    · by_cases hn : xs = []
      · subst hn; exact .inl rfl
      · have hpos : 0 < xs.length := List.length_pos_iff.2 hn
        have cell : ∀ i u, xs[i]? = some u → ∀ r, r < k → w.cell? ((a.add (i * k)).add r) = (en u)[r]? := fun i u hu r hr => (World.cells?_some (hxs i u hu).1).2.2 r hr
        have h0 := cell 0 _ (List.getElem?_eq_getElem hpos) 0 he.pos
        have hl0 : 0 < (en xs[0]).length := by rw [he.len]; exact he.pos
        rw [List.getElem?_eq_getElem hl0] at h0
        obtain ⟨b, off, spot⟩ := a
        have hspot : spot = none := by simpa [Addr.add] using World.cell?_spot h0
        subst hspot
        refine .inr ⟨b, off, rfl, fun j v hv => ?_⟩
        obtain ⟨i, r, u, h1, h2, h3, h4⟩ := he.flat_inv hv
        have := cell i u h1 r h4
        rw [h2, ← addA_eq, ← addA_eq] at this
        subst h3
        simpa [addA, Nat.add_assoc] using this
    · obtain ⟨i, hi⟩ := List.mem_iff_getElem?.1 hx
      exact (hxs i x hi).2

theorem rd_slice {α : Type} {en : α → List Value} {k : Nat} (he : IsEnc en k) {Q : α → Prop} {t e : TypeId} (ht : P.underlying t = some (.slice e)) (hc : P.cellsOf e = k)
    (dec : ∀ cs y fuel, DataW.trod enc P w base sp held fuel e cs = some y → ∃ u, cs = en u ∧ Q u) {r : Reach} {b0 : Nat} {v : Value} {d : DataW H} {ps : List MemPlace} (hval : Value.okWide P w r b0 t v) (hd : DataW.Trod enc P w base sp held t v d ps) :
    ∃ (A : Option Addr) (c : Nat) (xs : List α), v = .slice A xs.length c ∧ RdW w A (xs.flatMap en) ∧ (∀ x ∈ xs, Q x) ∧ xs.length ≤ c ∧ c ≤ maxLen := by
  obtain ⟨a, len, cap, rfl⟩ := okWide_slice ht hval
  obtain ⟨fuel, hf⟩ := hd
  obtain ⟨A, c, xs, h1, h2⟩ := rd_cells he ht hc dec hf
  simp [Value.cells] at h1
  obtain ⟨rfl, rfl, rfl⟩ := h1
  exact ⟨_, _, xs, rfl, h2⟩

theorem rd_ints {k : IntKind} {t e : TypeId} (ht : P.underlying t = some (.slice e)) (hek : P.underlying e = some (.int k)) (hc : P.cellsOf e = 1) {r : Reach} {b0 : Nat} {v : Value} {d : DataW H} {ps : List MemPlace} (hval : Value.okWide P w r b0 t v)
    (hd : DataW.Trod enc P w base sp held t v d ps) : ∃ (A : Option Addr) (c : Nat) (xs : List Int), v = .slice A xs.length c ∧ RdW w A (xs.flatMap (encI k)) ∧ (∀ x ∈ xs, (Lit.int k x).wf = true) ∧ xs.length ≤ c ∧ c ≤ maxLen :=
  rd_slice (encI_is k) ht hc (fun cs y fuel h => by
    obtain ⟨n, h1, _, h3⟩ := DataW.trod_int hek h
    exact ⟨n, h1, h3⟩) hval hd

theorem rd_bools {t e : TypeId} (ht : P.underlying t = some (.slice e)) (hek : P.underlying e = some .bool) (hc : P.cellsOf e = 1) {r : Reach} {b0 : Nat} {v : Value} {d : DataW H} {ps : List MemPlace} (hval : Value.okWide P w r b0 t v)
    (hd : DataW.Trod enc P w base sp held t v d ps) : ∃ (A : Option Addr) (c : Nat) (xs : List Bool), v = .slice A xs.length c ∧ RdW w A (xs.flatMap encB) ∧ (∀ x ∈ xs, True) ∧ xs.length ≤ c ∧ c ≤ maxLen :=
  rd_slice encB_is ht hc (fun cs y fuel h => by
    obtain ⟨n, h1, _⟩ := DataW.trod_bool hek h
    exact ⟨n, h1, trivial⟩) hval hd

theorem rd_int {k : IntKind} {t : TypeId} (ht : P.underlying t = some (.int k)) {r : Reach} {b0 : Nat} {v : Value} {d : DataW H} {ps : List MemPlace} (hval : Value.okWide P w r b0 t v) (hd : DataW.Trod enc P w base sp held t v d ps) :
    ∃ n, v = .int k n ∧ (Lit.int k n).wf = true := by
  obtain ⟨n, h1, _, _, h2⟩ := open_int ht hval hd
  exact ⟨n, h1, h2⟩
theorem rd_bool {t : TypeId} (ht : P.underlying t = some .bool) {r : Reach} {b0 : Nat} {v : Value} {d : DataW H} {ps : List MemPlace} (hval : Value.okWide P w r b0 t v) (hd : DataW.Trod enc P w base sp held t v d ps) : ∃ b, v = .bool b := by
  obtain ⟨n, h1, _⟩ := open_bool ht hval hd
  exact ⟨n, h1⟩
theorem rd_string {t : TypeId} (ht : P.underlying t = some .string) {r : Reach} {b0 : Nat} {v : Value} {d : DataW H} {ps : List MemPlace} (hval : Value.okWide P w r b0 t v) (hd : DataW.Trod enc P w base sp held t v d ps) :
    ∃ s : ByteArray, v = .string s ∧ s.size ≤ maxLen := by
  obtain ⟨n, h1, _, _, h2⟩ := Go.ChangeMaps.open_string ht hval hd
  exact ⟨n, h1, h2⟩
end
end Go.RX
