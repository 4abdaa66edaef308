/- RX, part 10: slices: memory that is read as a list; a row that is owned; append, stores, cuts. -/
import Derived.Test.YthpcahgdobnljaaGreatRxLaws
import Derived.Laws.AppendOwn
set_option autoImplicit false
set_option linter.unusedVariables false
set_option linter.unusedSimpArgs false
namespace Go.RX
open Go Go.RowKit

/-! ### elements as cells -/
structure IsEnc {α : Type} (enc : α → List Value) (k : Nat) : Prop where
  len : ∀ x, (enc x).length = k
  one : ∀ x, ∀ v ∈ enc x, cell1 v = true
  pos : 0 < k

def encI (k : IntKind) : Int → List Value := fun x => [.int k x]
theorem encI_is (k : IntKind) : IsEnc (encI k) 1 := ⟨fun _ => rfl, fun x v hv => by simp [encI] at hv; subst hv; rfl, by decide⟩
def encB : Bool → List Value := fun x => [.bool x]
theorem encB_is : IsEnc encB 1 := ⟨fun _ => rfl, fun x v hv => by simp [encB] at hv; subst hv; rfl, by decide⟩
theorem flat_encI (k : IntKind) (zs : List Int) : zs.flatMap (encI k) = zs.map (.int k) := by induction zs <;> simp_all [encI]
theorem flat_encB (zs : List Bool) : zs.flatMap encB = zs.map .bool := by induction zs <;> simp_all [encB]

section
variable {α : Type} {enc : α → List Value} {k : Nat}
theorem IsEnc.flat_len (he : IsEnc enc k) (xs : List α) : (xs.flatMap enc).length = xs.length * k := by
  induction xs with
  | nil => simp
  | cons x r ih => simp [ih, he.len, Nat.succ_mul]; omega
theorem IsEnc.flat_nil (he : IsEnc enc k) {xs : List α} (h : xs.flatMap enc = []) : xs = [] := by
  have := he.flat_len xs
  rw [h] at this
  have hp := he.pos
  have h0 : xs.length * k = 0 := by simpa using this.symm
  rcases Nat.mul_eq_zero.1 h0 with h | h
  · exact List.eq_nil_of_length_eq_zero h
  · omega
theorem IsEnc.flat_at (he : IsEnc enc k) : ∀ {xs : List α} {i : Nat} {x : α}, xs[i]? = some x → ∀ j v, (enc x)[j]? = some v → (xs.flatMap enc)[i * k + j]? = some v
  | [], i, x, h, _, _, _ => by simp at h
  | y :: r, 0, x, h, j, v, hv => by
    simp at h; subst h
    have hj := (List.getElem?_eq_some_iff.1 hv).1
    rw [List.flatMap_cons, List.getElem?_append_left (by omega)]
    simpa using hv
  | y :: r, i + 1, x, h, j, v, hv => by
    have := he.flat_at (xs := r) (i := i) (by simpa using h) j v hv
    rw [List.flatMap_cons, List.getElem?_append_right (by rw [he.len, Nat.succ_mul]; omega), he.len, ← this]
    congr 1
    rw [Nat.succ_mul]; omega
theorem IsEnc.flat_one (he : IsEnc enc k) {xs : List α} : ∀ v ∈ xs.flatMap enc, cell1 v = true := by
  intro v hv
  obtain ⟨x, _, hx⟩ := List.mem_flatMap.1 hv
  exact he.one x v hx
theorem IsEnc.flat_take (he : IsEnc enc k) (xs : List α) (n : Nat) : (xs.take n).flatMap enc = (xs.flatMap enc).take (n * k) := by
  induction xs generalizing n with
  | nil => simp
  | cons x r ih =>
    cases n with
    | zero => simp
    | succ n =>
      have hl := he.len x
      simp only [List.take_succ_cons, List.flatMap_cons, ih]
      rw [List.take_append, hl, List.take_of_length_le (l := enc x) (by rw [hl, Nat.succ_mul]; omega)]
      congr 2
      rw [Nat.succ_mul]; omega
theorem IsEnc.flat_drop (he : IsEnc enc k) (xs : List α) (n : Nat) : (xs.drop n).flatMap enc = (xs.flatMap enc).drop (n * k) := by
  induction xs generalizing n with
  | nil => simp
  | cons x r ih =>
    cases n with
    | zero => simp
    | succ n =>
      have hl := he.len x
      simp only [List.drop_succ_cons, List.flatMap_cons, ih]
      rw [List.drop_append, hl, List.drop_of_length_le (l := enc x) (by rw [hl, Nat.succ_mul]; omega), List.nil_append]
      congr 1
      rw [Nat.succ_mul]; omega
theorem IsEnc.flat_set (he : IsEnc enc k) {xs : List α} {i : Nat} (hi : i < xs.length) (y : α) : (xs.set i y).flatMap enc = (xs.flatMap enc).take (i * k) ++ enc y ++ (xs.flatMap enc).drop (i * k + k) := by
  rw [List.set_eq_take_append_cons_drop, if_pos hi]
  simp only [List.flatMap_append, List.flatMap_cons]
  rw [he.flat_take, he.flat_drop, List.append_assoc, Nat.succ_mul]
end

/-! ### memory that reads as cells -/
def RdW (w : World) (A : Option Addr) (cs : List Value) : Prop := cs = [] ∨ ∃ b o, A = some ⟨b, o, none⟩ ∧ ∀ j v, cs[j]? = some v → w.cell? ⟨b, o + j, none⟩ = some v

theorem RdW.old {w0 w : World} {A : Option Addr} {cs : List Value} (h : RdW w0 A cs) (hk : ∀ n, n < w0.heap.size → w.heap[n]? = w0.heap[n]?) : RdW w A cs := by
  rcases h with h | ⟨b, o, h1, h2⟩
  · exact .inl h
  · refine .inr ⟨b, o, h1, fun j v hv => ?_⟩
    have := h2 j v hv
    have hlt := World.block_lt_of_cell? w0 _ this
    rw [← this]
    exact World.cell?_of_block (hk b hlt)

theorem RdW.mod {w0 w : World} {A : Option Addr} {cs : List Value} {Rs : List Res} (h : RdW w0 A cs) (hm : Mod [heapOf w0] Rs w) : RdW w A cs :=
  h.old fun n hn => by
    have := hm.sub (heapOf w0) (by simp) n (w0.heap[n]) (by simp [heapOf, hn])
    rw [this]; simp [hn]

theorem RdW.io {w0 w : World} {A : Option Addr} {cs : List Value} (h : RdW w0 A cs) (hb : BelowD w0.heap.size w0 w) : RdW w A cs := h.old fun n hn => hb.block n hn

/-- A heap that tells of memory. -/
def RdH (h : PH) (A : Option Addr) (cs : List Value) : Prop := cs = [] ∨ ∃ b o, A = some ⟨b, o, none⟩ ∧ ∃ c T fr, h b = some (.cells c T fr) ∧ ∀ j v, cs[j]? = some v → c[o + j]? = some v
theorem RdH.world {h : PH} {A : Option Addr} {cs : List Value} {w : World} (hr : RdH h A cs) (hs : Sub h w) : RdW w A cs := by
  rcases hr with hr | ⟨b, o, h1, c, T, fr, h2, h3⟩
  · exact .inl hr
  · exact .inr ⟨b, o, h1, fun j v hv => by simp [World.cell?, hs b _ h2, h3 j v hv]⟩
theorem RdW.heap {w : World} {A : Option Addr} {cs : List Value} (hr : RdW w A cs) : RdH (heapOf w) A cs := by
  rcases hr with hr | ⟨b, o, h1, h2⟩
  · exact .inl hr
  · cases cs with
    | nil => exact .inl rfl
    | cons v0 r =>
      have h0 := h2 0 v0 rfl
      simp only [World.cell?] at h0
      split at h0
      · rename_i c T fr hb
        refine .inr ⟨b, o, h1, c, T, fr, hb, fun j v hv => ?_⟩
        have := h2 j v hv
        simpa [World.cell?, hb] using this
      · cases h0

def mkV : Bool → List Value → Value
  | true, cs => .agg cs.toArray
  | false, [v] => v
  | false, _ => undef

section
variable {P : Program} {tab : Tab}

theorem run_loadVar_cell (ht : TabOk P tab) {T : Nat} {i : TyI} (hi : tlook tab T = some i) (ha : i.kind.agg = false) {w : World} {p : Addr} {v : Value} (h : w.cell? p = some v) : (loadVar T p).run P w = .ok v w := by
  simp only [loadVar, Sem.run_bind, (ht T i hi).run_agg, Result.andThen_ok, ha]
  simp [h]

/-- The cells of one element. -/
theorem run_loadVar_cells (ht : TabOk P tab) {T : Nat} {i : TyI} (hi : tlook tab T = some i) {w : World} {b o : Nat} {cs : List Value} (hl : cs.length = i.size) (h1 : i.kind.agg = false → i.size = 1)
    (h : ∀ j v, cs[j]? = some v → w.cell? ⟨b, o + j, none⟩ = some v) : (loadVar T ⟨b, o, none⟩).run P w = .ok (mkV i.kind.agg cs) w := by
  have hok := ht T i hi
  cases ha : i.kind.agg with
  | true =>
    have hr := run_loadCells_list (P := P) (w := w) ⟨b, o, none⟩ cs fun j u hu => by rw [← addA_eq]; exact h j u hu
    rw [hl] at hr
    simp only [loadVar, Sem.run_bind, hok.run_agg, Result.andThen_ok, ha, if_true, hok.run_size, hr, Sem.run_pure, mkV]
  | false =>
    rw [h1 ha] at hl
    match cs, hl with
    | [v], _ => exact run_loadVar_cell ht hi ha (h 0 v rfl)

/-- An element of a list that memory reads as. -/
theorem rxLoadRow (ht : TabOk P tab) {T : Nat} {i : TyI} (hi : tlook tab T = some i) {α : Type} {enc : α → List Value} {k : Nat} (he : IsEnc enc k) (hk : i.size = k) (h1 : i.kind.agg = false → i.size = 1) {w : World} {b o : Nat} {xs : List α}
    (hr : RdW w (some ⟨b, o, none⟩) (xs.flatMap enc)) {n : Nat} {x : α} (hx : xs[n]? = some x) {p : Addr} (hp : p = ⟨b, o + n * k, none⟩) {v : Value} (hv : mkV i.kind.agg (enc x) = v) : (loadVar T p).run P w = .ok v w := by
  subst hp hv
  rcases hr with hr | ⟨b', o', e, h2⟩
  · have := he.flat_nil hr; subst this; simp at hx
  · cases e
    refine run_loadVar_cells ht hi (by rw [he.len, hk]) h1 fun j v hv => ?_
    rw [Nat.add_assoc]
    exact h2 _ v (he.flat_at hx j v hv)
end

/-! ### a row that is owned -/
def OwnS {α : Type} (enc : α → List Value) (k : Nat) (T : TypeId) (A : Option Addr) (c : Nat) (xs : List α) : HP := fun h =>
  (xs = [] ∧ c = 0 ∧ h = emp) ∨ ∃ b pre tl, A = some ⟨b, pre.length, none⟩ ∧ h = one b (.cells (pre ++ xs.flatMap enc ++ tl).toArray T (0, 0)) ∧ tl.length = (c - xs.length) * k ∧ xs.length ≤ c ∧ c ≤ 9223372036854775807

abbrev own {α : Type} (enc : α → List Value) (k : Nat) (T : TypeId) (A : Option Addr) (c : Nat) (xs : List α) : Res := .hp (OwnS enc k T A c xs)

section
variable {α : Type} {enc : α → List Value} {k : Nat} {T : TypeId} {A : Option Addr} {c : Nat} {xs : List α} {hfs : List PH} {Rs : List Res} {w : World}

theorem OwnS.rd {h : PH} (ho : OwnS enc k T A c xs h) : RdH h A (xs.flatMap enc) := by
  rcases ho with ⟨rfl, _⟩ | ⟨b, pre, tl, h1, h2, _⟩
  · exact .inl rfl
  · subst h2
    refine .inr ⟨b, pre.length, h1, _, T, (0, 0), one_same _ _, fun j v hv => ?_⟩
    have hj := (List.getElem?_eq_some_iff.1 hv).1
    simp [List.append_assoc, List.getElem?_append_right, List.getElem?_append_left hj, hv]

theorem Mod.own_rd {i : Nat} (hm : Mod hfs Rs w) (hi : Rs[i]? = some (own enc k T A c xs)) : RdW w A (xs.flatMap enc) := by
  obtain ⟨h, h1, h2⟩ := hm.get hi
  exact (OwnS.rd h1).world h2

theorem Mod.own_le {i : Nat} (hm : Mod hfs Rs w) (hi : Rs[i]? = some (own enc k T A c xs)) : xs.length ≤ c ∧ c ≤ 9223372036854775807 := by
  obtain ⟨h, h1, h2⟩ := hm.get hi
  rcases h1 with ⟨rfl, rfl, _⟩ | ⟨b, pre, tl, _, _, _, h3, h4⟩
  · simp
  · exact ⟨h3, h4⟩

/-- Of nothing something is owned: nothing. -/
theorem Mod.own_nil (A : Option Addr) (hm : Mod hfs Rs w) : Mod hfs (own enc k T A 0 [] :: Rs) w :=
  hm.add (h := emp) (fun _ _ => rfl) (.inl ⟨rfl, rfl, rfl⟩) (fun _ _ => rfl) (Sub.emp w)

/-- A block that is known whole is a row. -/
theorem Mod.own_blk {i b : Nat} {cs : List Value} (hm : Mod hfs Rs w) (hi : Rs[i]? = some (.blk b T cs)) (hc : cs = xs.flatMap enc) (hl : xs.length ≤ 9223372036854775807) : Mod hfs (Rs.set i (own enc k T (some ⟨b, 0, none⟩) xs.length xs)) w :=
  hm.turn hi fun h h1 h2 => by
    cases h1
    refine ⟨_, .inr ⟨b, [], [], rfl, ?_, by simp, Nat.le_refl _, hl⟩, h2, fun n _ hn => ⟨rfl, hn⟩⟩
    simp [hc]

/-- The first ones alone. -/
theorem Mod.own_take {i n : Nat} (he : IsEnc enc k) (hn : n ≤ xs.length) (hm : Mod hfs Rs w) (hi : Rs[i]? = some (own enc k T A c xs)) : Mod hfs (Rs.set i (own enc k T A c (xs.take n))) w :=
  hm.turn hi fun h h1 h2 => by
    refine ⟨h, ?_, h2, fun n _ hn => ⟨rfl, hn⟩⟩
    rcases h1 with ⟨rfl, rfl, h3⟩ | ⟨b, pre, tl, h3, h4, h5, h6, h7⟩
    · exact .inl ⟨by simp, rfl, h3⟩
    · refine .inr ⟨b, pre, (xs.drop n).flatMap enc ++ tl, h3, ?_, ?_, by simp; omega, h7⟩
      · rw [h4, List.append_assoc, List.append_assoc, ← List.append_assoc (List.flatMap enc (xs.take n)), ← List.flatMap_append, List.take_append_drop]
      · rw [List.length_append, he.flat_len, h5, List.length_drop, List.length_take, ← Nat.add_mul]
        congr 1
        omega

/-- The last ones alone. -/
theorem Mod.own_drop {i n : Nat} (he : IsEnc enc k) (hn : n ≤ xs.length) (hm : Mod hfs Rs w) (hi : Rs[i]? = some (own enc k T A c xs)) : Mod hfs (Rs.set i (own enc k T (slA A c n k) (c - n) (xs.drop n))) w :=
  hm.turn hi fun h h1 h2 => by
    by_cases hcn : c = n
    · refine ⟨emp, .inl ⟨?_, by omega, rfl⟩, Sub.emp w, fun _ _ hx => ⟨rfl, rfl⟩⟩
      rcases h1 with ⟨rfl, _⟩ | ⟨_, _, _, _, _, _, h6, _⟩
      · simp
      · exact List.drop_eq_nil_of_le (by omega)
    · refine ⟨h, ?_, h2, fun _ _ hx => ⟨rfl, hx⟩⟩
      rcases h1 with ⟨rfl, rfl, h3⟩ | ⟨b, pre, tl, h3, h4, h5, h6, h7⟩
      · exact .inl ⟨by simp, by simp, h3⟩
      · refine .inr ⟨b, pre ++ (xs.take n).flatMap enc, tl, ?_, ?_, ?_, by simp; omega, by omega⟩
        · rw [slA, if_neg hcn, h3, Option.map_some, ← addA_eq]
          simp only [addA, List.length_append, he.flat_len, List.length_take]
          congr 3
          rw [Nat.min_eq_left hn]
        · have hx : xs.flatMap enc = (xs.take n).flatMap enc ++ (xs.drop n).flatMap enc := by rw [← List.flatMap_append, List.take_append_drop]
          rw [h4, hx]
          simp [List.append_assoc]
        · rw [h5, List.length_drop]; congr 1; omega

/-- An element is written. -/
theorem Mod.own_store {P : Program} {tab : Tab} (ht : TabOk P tab) {T' : Nat} {ti : TyI} (hti : tlook tab T' = some ti) (hk : ti.size = k) (he : IsEnc enc k) {i n : Nat} {y : α} {v : Value} (hv : v.cells.toList = enc y) {b o : Nat} {xs : List α}
    (hm : Mod hfs Rs w) (hi : Rs[i]? = some (own enc k T (some ⟨b, o, none⟩) c xs)) (hn : n < xs.length) {p : Addr} (hp : p = ⟨b, o + n * k, none⟩) :
    ∃ w', (storeVar T' p v).run P w = .ok () w' ∧ Mod hfs (Rs.set i (own enc k T (some ⟨b, o, none⟩) c (xs.set n y))) w' ∧ Oth w w' := by
  subst hp
  obtain ⟨h, h1, h2, hset⟩ := hm.open_ hi
  rcases h1 with ⟨rfl, _⟩ | ⟨b', pre, tl, h3, h4, h5, h6, h7⟩
  · simp at hn
  · obtain ⟨rfl, rfl⟩ : b = b' ∧ o = pre.length := by simpa using h3
    have hb : w.heap[b]? = some (.cells (pre ++ xs.flatMap enc ++ tl).toArray T (0, 0)) := h2 b _ (by rw [h4]; exact one_same _ _)
    have hfl := he.flat_len xs
    have hnk : n * k + k ≤ xs.length * k := by rw [← Nat.succ_mul]; exact Nat.mul_le_mul_right k hn
    obtain ⟨w', e1, e2, e3, e4, e5, e6, e7⟩ := run_storeCells (P := P) v.cells.toList 0 (w := w) (b := b) (off := pre.length + n * k) hb (by rw [hv, he.len]; simp [hfl]; omega) (by rw [hv]; exact he.one y)
    have hok := ht T' ti hti
    have hvs : v.cells.size = ti.size := by rw [hk, ← he.len y, ← hv]; simp
    refine ⟨w', ?_, hset _ _ w' (.inr ⟨b, pre, tl, rfl, rfl, by simpa using h5, by simpa using h6, h7⟩) (Sub.one ?_) (fun m _ hm0 => ?_), ⟨e5, e6, e7.1, by omega, by omega⟩⟩
    · simp only [storeVar, Sem.run_bind, hok.run_size, Result.andThen_ok, hvs, ne_eq, not_true_eq_false, if_false]
      simpa using e1
    · rw [e2, hv, he.flat_set hn, he.len]
      congr 2
      apply Array.toList_inj.1
      simp only [Nat.add_zero]
      rw [List.append_assoc pre, List.take_append, List.take_of_length_le (l := pre) (by omega), List.drop_append, List.drop_of_length_le (l := pre) (by omega), List.nil_append]
      rw [show pre.length + n * k - pre.length = n * k from by omega, show pre.length + n * k + k - pre.length = n * k + k from by omega]
      rw [List.take_append_of_le_length (by omega), List.drop_append_of_le_length (by omega)]
      simp [List.append_assoc]
    · have hne : m ≠ b := fun e => by subst e; rw [h4, one_same] at hm0; cases hm0
      exact ⟨e3 m hne, one_ne _ hne⟩
end

/-! ### append -/
section
variable {P : Program} {tab : Tab} {hfs : List PH} {Rs : List Res} {w : World} {α : Type} {enc : α → List Value} {k : Nat}

theorem run_first {B : Option Addr} {cs : List Value} {size n c : Nat} (hB : RdW w B cs) (hl : cs.length = n * size) (m : Nat) : (Builtin.firstCells size n (.slice B m c)).run P w = .ok cs.toArray w := by
  cases B with
  | none =>
    rcases hB with rfl | ⟨b, o, h, _⟩
    · simp [Builtin.firstCells]
    · cases h
  | some a =>
    simp only [Builtin.firstCells]
    rw [← hl]
    refine run_loadCells_list (P := P) (w := w) a cs fun j v hv => ?_
    rcases hB with rfl | ⟨b, o, h, h2⟩
    · simp at hv
    · cases h
      rw [← addA_eq]
      exact h2 j v hv

theorem zeroCells_toList_len (z : Array Value) (n : Nat) : (Builtin.zeroCells z n).toList.length = n * z.size := by simp [Builtin.zeroCells]

theorem append_own (ht : TabOk P tab) (he : IsEnc enc k) {sT xT e ty : TypeId} {ti : TyI} (hs : kindIs tab sT = some (.slice e)) (hx : kindIs tab xT = some (.slice e)) (hti : tlook tab e = some ti) (hk : ti.size = k) (hz : ti.zero.cells.toList.length = k)
    {A B : Option Addr} {c mc : Nat} {xs ys : List α} {i : Nat} (hm : Mod hfs Rs w) (hi : Rs[i]? = some (own enc k e A c xs)) (hB : RdW w B (ys.flatMap enc)) (hbd : (xs.length + ys.length) * ti.bytes ≤ 140737488355328) (hmx : xs.length + ys.length ≤ 9223372036854775807) :
    ∃ A' c' w', (Builtin.append_ #[sT, xT] ty #[.slice A xs.length c, .slice B ys.length mc]).run P w = .ok (.slice A' (xs.length + ys.length) c') w' ∧ Mod hfs (Rs.set i (own enc k e A' c' (xs ++ ys))) w' ∧ Oth w w' := by
  obtain ⟨d, hd, hdk⟩ := kind_spec ht hs
  simp only [TK.ok] at hdk; subst hdk
  obtain ⟨d', hd', hdk'⟩ := kind_spec ht hx
  simp only [TK.ok] at hdk'; subst hdk'
  have hok := ht e ti hti
  obtain ⟨inf, hinf, hinfb⟩ : ∃ inf : TypeInfo, (∀ w, (typeInfo e).run P w = .ok inf w) ∧ inf.bytes = ti.bytes := by
    obtain ⟨x, hx, e1⟩ := Option.map_eq_some_iff.1 hok.info
    simp only [Prod.mk.injEq] at e1
    exact ⟨x, fun w => by simp [typeInfo, program, Sem.run, hx], e1.2.1⟩
  have hsz : ∀ w, (sizeOf e).run P w = .ok k w := fun w => by rw [← hk]; exact hok.run_size
  have hzr : ∀ w, (zeroValue e).run P w = .ok ti.zero w := fun w => hok.run_zero
  have hyl : (ys.flatMap enc).length = ys.length * k := he.flat_len ys
  have hxl := he.flat_len xs
  have hnews := run_first (P := P) (w := w) (c := mc) hB hyl ys.length
  have hrdx := Mod.own_rd hm hi
  have hle := Mod.own_le hm hi
  obtain ⟨h, h1, h2, hset⟩ := hm.open_ hi
  by_cases hroom : xs.length + ys.length ≤ c
  · -- there is room
    rcases h1 with ⟨rfl, rfl, _⟩ | ⟨b, pre, tl, h3, h4, h5, h6, h7⟩
    · -- of nothing, nothing
      have hy : ys = [] := by simpa using hroom
      subst hy
      simp only [List.length_nil, List.flatMap_nil] at hnews
      refine ⟨A, 0, w, ?_, by simpa [Mod.set_same hi] using hm, Oth.refl w⟩
      cases A <;> simp [Builtin.append_, run_underlying' hd, run_underlying' hd', hsz, Builtin.lenOf, hnews, storeCells]
    · subst h3
      have hb : w.heap[b]? = some (.cells (pre ++ xs.flatMap enc ++ tl).toArray e (0, 0)) := h2 b _ (by rw [h4]; exact one_same _ _)
      have hyk : ys.length * k ≤ (c - xs.length) * k := Nat.mul_le_mul_right k (by omega)
      obtain ⟨w', e1, e2, e3, e4, e5, e6, e7⟩ := run_storeCells (P := P) (ys.flatMap enc) 0 (w := w) (b := b) (off := pre.length + xs.length * k) hb (by simp [hxl, hyl, h5]; omega) he.flat_one
      refine ⟨some ⟨b, pre.length, none⟩, c, w', ?_, hset _ _ w' (.inr ⟨b, pre, tl.drop (ys.length * k), rfl, rfl, ?_, by simpa using hroom, h7⟩) (Sub.one ?_) (fun m _ hm0 => ?_), ⟨e5, e6, e7.1, by omega, by omega⟩⟩
      · have hadd : (⟨b, pre.length, none⟩ : Addr).add (xs.length * k) = ⟨b, pre.length + xs.length * k, none⟩ := by rw [← addA_eq]; rfl
        simp [Builtin.append_, run_underlying' hd, run_underlying' hd', hsz, Builtin.lenOf, hnews, hroom, hadd, e1]
      · rw [List.length_drop, h5, List.length_append, ← Nat.sub_mul]; congr 1; omega
      · rw [e2]
        congr 2
        apply Array.toList_inj.1
        simp only [Nat.add_zero, List.flatMap_append, hyl]
        have hpl : (pre ++ xs.flatMap enc).length = pre.length + xs.length * k := by simp [hxl]
        rw [← hpl, List.take_append_of_le_length (Nat.le_refl _), List.take_length, List.drop_append, List.drop_of_length_le (l := pre ++ xs.flatMap enc) (by omega), List.nil_append]
        rw [show (pre ++ xs.flatMap enc).length + ys.length * k - (pre ++ xs.flatMap enc).length = ys.length * k from by omega]
        simp [List.append_assoc]
      · have hne : m ≠ b := fun e => by subst e; rw [h4, one_same] at hm0; cases hm0
        exact ⟨e3 m hne, one_ne _ hne⟩
  · -- a new array
    have hgt : c < xs.length + ys.length := by omega
    have hfit := growslice_fits (bytes := ti.bytes) hgt hbd
    let q : Question := .appendCap (xs.length + ys.length) c e
    let t := w.tape w.drawn q
    have hcut : q.cut t = xs.length + ys.length + t % (2 ^ 63 - (xs.length + ys.length)) := rfl
    have hlt := Nat.mod_lt t (show 0 < 2 ^ 63 - (xs.length + ys.length) by omega)
    let nc := q.cut t
    have hnc : xs.length + ys.length ≤ nc ∧ nc ≤ 9223372036854775807 := by
      show xs.length + ys.length ≤ q.cut t ∧ q.cut t ≤ _
      rw [hcut]; omega
    let w1 : World := { w with drawn := w.drawn + 1 }
    have hx1 : RdW w1 A (xs.flatMap enc) := hrdx.old fun _ _ => rfl
    have hy1 : RdW w1 B (ys.flatMap enc) := hB.old fun _ _ => rfl
    have hold := run_first (P := P) (w := w1) (c := c) hx1 hxl xs.length
    have hnew := run_first (P := P) (w := w1) (c := mc) hy1 hyl ys.length
    let tl := (Builtin.zeroCells ti.zero.cells (nc - (xs.length + ys.length))).toList
    let w' : World := { w1 with heap := w.heap.push (.cells (xs.flatMap enc ++ ys.flatMap enc ++ tl).toArray e (0, 0)) }
    have hch : (choose q).run P w = .ok nc w1 := by
      show Sem.run P (.choose q .pure) w = _
      simp only [Sem.run]
      rfl
    have hroomE : ∀ n w, (askRoom n).run P w = .ok () w := by
      intro n w
      unfold askRoom
      split
      · rfl
      · rfl
    refine ⟨some ⟨w.heap.size, 0, none⟩, nc, w', ?_, hset _ (one w.heap.size (.cells (xs.flatMap enc ++ ys.flatMap enc ++ tl).toArray e (0, 0))) w' (.inr ⟨w.heap.size, [], tl, rfl, by simp, ?_, by simpa using hnc.1, hnc.2⟩) (Sub.one ?_) (fun m hm1 hm0 => ?_), ⟨rfl, rfl, rfl, by simp [w', w1], by simp [w', w1]⟩⟩
    · have hmax : ¬ (IntKind.i64.max < ((xs.length + ys.length : Nat) : Int)) := by simp [IntKind.max, IntKind.bits, IntKind.signed]; omega
      have hfit' : ¬ (281474976710656 < Builtin.nextslicecap (xs.length + ys.length) c * inf.bytes) := by rw [hinfb]; omega
      have hmax' : ¬ (IntKind.i64.max < (xs.length : Int) + (ys.length : Int)) := by simpa using hmax
      have hold' : (Builtin.firstCells k xs.length (.slice A xs.length c)).run P w.drew = .ok (xs.flatMap enc).toArray w.drew := hold
      have hnew' : (Builtin.firstCells k ys.length (.slice B ys.length mc)).run P w.drew = .ok (ys.flatMap enc).toArray w.drew := hnew
      have hforced : (Question.appendCap (xs.length + ys.length) c e).forced = false := rfl
      simp [Builtin.append_, run_underlying' hd, run_underlying' hd', hsz, Builtin.lenOf, hroom, hinf, hzr, hroomE, hold', hnew', hfit', hmax', hforced, newRow, newObj, Sem.run]
      rw [if_neg (by omega)]
      show Result.ok _ _ = Result.ok _ _
      congr 1
      simp only [World.alloc, w', w1, tl, nc, t, q, World.drew]
      congr 3
      apply Array.toList_inj.1
      simp [List.append_assoc]
    · simp only [tl, zeroCells_toList_len, List.length_append]
      rw [← hz]; simp
    · simp [w']
    · exact ⟨by simp [w', w1, Array.getElem?_push, Nat.ne_of_lt hm1], one_ne _ (Nat.ne_of_lt hm1)⟩
end
end Go.RX
