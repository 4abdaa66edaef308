/- RX, part 5: what is left to show of a piece of code, by computation; and that it suffices. -/
import Derived.Test.YthpcahgdobnljaaGreatRxPop
set_option autoImplicit false
set_option linter.unusedVariables false
set_option linter.unusedSimpArgs false
namespace Go.RX
open Go

/-! ### memory -/
def findR (b : Nat) (E : Prop) : List Res → Nat → (Nat → TypeId → List Value → Prop) → Prop
  | [], _, _ => E
  | .blk b' T cs :: r, i, K => (b = b' ∧ K i T cs) ∨ findR b E r (i + 1) K
  | .hp _ :: r, i, K => findR b E r (i + 1) K

theorem findR_sound {b : Nat} {E : Prop} : ∀ {Rs : List Res} {i : Nat} {K : Nat → TypeId → List Value → Prop}, findR b E Rs i K → E ∨ ∃ j T cs, Rs[j]? = some (.blk b T cs) ∧ K (i + j) T cs
  | [], _, _, h => .inl h
  | .blk b' T cs :: r, i, K, h => by
    simp only [findR] at h
    rcases h with ⟨rfl, h⟩ | h
    · exact .inr ⟨0, T, cs, by simp, h⟩
    · rcases findR_sound h with h | ⟨j, T', cs', h1, h2⟩
      · exact .inl h
      · exact .inr ⟨j + 1, T', cs', by simpa using h1, by rw [Nat.add_comm j 1, ← Nat.add_assoc]; exact h2⟩
  | .hp _ :: r, i, K, h => by
    simp only [findR] at h
    rcases findR_sound h with h | ⟨j, T', cs', h1, h2⟩
    · exact .inl h
    · exact .inr ⟨j + 1, T', cs', by simpa using h1, by rw [Nat.add_comm j 1, ← Nat.add_assoc]; exact h2⟩

def vcLoad (tab : Tab) (Rs : List Res) (T : TypeId) (v : Option SV) (K : Value → Prop) (E : Prop) : Prop := match tlook tab T, v with
  | some i, some (.v (.pointer (some p))) => match p.spot with
    | none => findR p.block E Rs 0 fun _ _ cs => match partL i cs p.off with
      | some v => K v
      | none => False
    | some _ => E
  | _, _ => E

def vcStore (tab : Tab) (Rs : List Res) (T : TypeId) (v u : Option SV) (K : List Res → Prop) (E : Prop) : Prop := match tlook tab T, v, u with
  | some i, some (.v (.pointer (some p))), some u => match p.spot with
    | none => match Nat.beq u.val.cells.toList.length i.size with
      | true => findR p.block E Rs 0 fun j T' cs => match splice cs p.off u.val.cells.toList with
        | some cs' => allOne u.val.cells.toList = true ∧ K (Rs.set j (.blk p.block T' cs'))
        | none => False
      | false => E
    | some _ => E
  | _, _, _ => E

def repL : Nat → List Value → List Value
  | 0, _ => []
  | n + 1, z => z ++ repL n z

def setd (N : Nat) (dst : Option Tmp) (s : SV) (l : L) (K : L → Prop) : Prop := match dst with
  | none => K l
  | some d => match Nat.blt d N with
    | true => K ((d, s) :: l)
    | false => False

theorem setd_sound {N : Nat} {dst : Option Tmp} {s : SV} {l : L} {K : L → Prop} {a : Act} (h : setd N dst s l K) (hf : Fr N a l) : ∃ l', K l' ∧ Fr N (a.put dst s.val) l' := by
  unfold setd at h
  split at h
  · exact ⟨l, h, hf⟩
  · split at h
    · rename_i d hd
      exact ⟨_, h, hf.put (by simpa using hd) s⟩
    · exact h.elim

/-- One operation that is carried out. -/
def vcDo (tab : Tab) (N B : Nat) (l : L) (Rs : List Res) (o : Oper) (K : L → List Res → Prop) (E : Prop) : Prop :=
  match pop tab l o.op (fun s => setd N o.dst s l fun l' => K l' Rs) with
  | some X => X
  | none => match o.op with
    | .load T x => vcLoad tab Rs T (ev l x) (fun v => setd N o.dst (.v v) l fun l' => K l' Rs) E
    | .store T x y => match o.dst with
      | none => vcStore tab Rs T (ev l x) (ev l y) (fun Rs' => K l Rs') E
      | some _ => E
    | .alloc T => match tlook tab T with
      | some i => ∀ b, B ≤ b → setd N o.dst (.v (.pointer (some ⟨b, 0, none⟩))) l fun l' => K l' (.blk b T i.zero.cells.toList :: Rs)
      | none => E
    | .box T x => match ev l x with
      | some s => ∀ b, B ≤ b → setd N o.dst (.v (.pointer (some ⟨b, 0, none⟩))) l fun l' => K l' (.blk b T s.val.cells.toList :: Rs)
      | none => E
    | .buildSlice T n ps => match kindIs tab T with
      | some (.slice e) => match tlook tab e, evp l ps.toList with
        | some i, some vs => match Nat.beq i.zero.cells.toList.length i.size, Nat.ble (n * i.size) 16777216, Nat.beq (n * i.size) 0 with
          | true, true, false => match fillL (fun j => some (j * i.size, i.size)) (repL n i.zero.cells.toList) vs with
            | some cs => ∀ b, B ≤ b → setd N o.dst (.v (.slice (some ⟨b, 0, none⟩) n n)) l fun l' => K l' (.blk b e cs :: Rs)
            | none => E
          | _, _, _ => match Nat.beq n 0, ps.toList with
            | true, [] => ∀ b, B ≤ b → setd N o.dst (.v (.slice (some ⟨b, 0, none⟩) 0 0)) l fun l' => K l' (.blk b e [] :: Rs)
            | _, _ => E
        | _, _ => E
      | _ => E
    | _ => E

def isStore : Op → Bool
  | .store .. => true
  | _ => false

/-- What comes of an operation. -/
def Done (P : Program) (N : Nat) (hfs : List PH) (w0 : World) (o : Oper) (a : Act) (w : World) (K : L → List Res → Prop) : Prop :=
  ∃ v w' l' Rs', ((execOp a.eval o).run P w = .ok (.value v) w' ∨ ((execOp a.eval o).run P w = .ok .skip w' ∧ v = undef)) ∧ K l' Rs' ∧ Fr N (a.put o.dst v) l' ∧ Mod hfs Rs' w' ∧ Oth w0 w' ∧ (isStore o.op = false → ∀ n, n < w.heap.size → w'.heap[n]? = w.heap[n]?)

section
variable {P : Program} {tab : Tab} {N : Nat} {hfs : List PH} {w0 : World}

theorem run_loadVar_at (ht : TabOk P tab) {T : Nat} {i : TyI} (hi : tlook tab T = some i) {w : World} {b off : Nat} {T' : TypeId} {cs : List Value} {fr : Nat × Nat} (hb : w.heap[b]? = some (.cells cs.toArray T' fr))
    {v : Value} (h : partL i cs off = some v) : (loadVar T ⟨b, off, none⟩).run P w = .ok v w := by
  have hok := ht T i hi
  have hcell : ∀ j, w.cell? ⟨b, j, none⟩ = cs[j]? := fun j => by simp [World.cell?, hb]
  unfold partL at h
  split at h <;> try (cases h; done)
  rename_i r hr
  split at h <;> try (cases h; done)
  rename_i vs hvs
  obtain ⟨h1, h2⟩ := dropN_spec hr
  obtain ⟨h3, h4⟩ := takeN_spec hvs
  have hvl : vs.length = i.size := by rw [h4]; simp; omega
  have hat : ∀ j u, vs[j]? = some u → cs[off + j]? = some u := by
    intro j u hu
    rw [h4, List.getElem?_take] at hu
    split at hu
    · rw [h2, List.getElem?_drop] at hu; exact hu
    · cases hu
  split at h
  · rename_i ha
    cases h
    have hl := run_loadCells_list (P := P) (w := w) ⟨b, off, none⟩ vs fun j u hu => by
      rw [← addA_eq]
      exact (hcell _).trans (hat j u hu)
    rw [hvl] at hl
    simp only [loadVar, Sem.run_bind, hok.run_agg, Result.andThen_ok, ha, if_true, hok.run_size, hl, Sem.run_pure]
  · rename_i ha
    split at h <;> try (cases h; done)
    rename_i v'
    cases h
    have : cs[off]? = some v := hat 0 v rfl
    simp only [loadVar, Sem.run_bind, hok.run_agg, Result.andThen_ok, ha]
    simp [hcell, this]

/-- Cells written one behind the other. -/
theorem run_storeCells : ∀ (vs : List Value) (i : Nat) {w : World} {b off : Nat} {T : TypeId} {cs : Array Value}, w.heap[b]? = some (.cells cs T (0, 0)) → off + i + vs.length ≤ cs.size → (∀ v ∈ vs, cell1 v = true) →
    ∃ w', (storeCells ⟨b, off, none⟩ vs i).run P w = .ok () w' ∧ w'.heap[b]? = some (.cells (cs.toList.take (off + i) ++ vs ++ cs.toList.drop (off + i + vs.length)).toArray T (0, 0)) ∧ (∀ n, n ≠ b → w'.heap[n]? = w.heap[n]?) ∧ w'.heap.size = w.heap.size ∧ w'.os = w.os ∧ w'.tape = w.tape ∧ w'.output = w.output ∧ w'.drawn = w.drawn
  | [], i, w, b, off, T, cs, hb, _, _ => ⟨w, by simp [storeCells], by simpa using hb, fun _ _ => rfl, rfl, rfl, rfl, rfl, rfl⟩
  | v :: vs, i, w, b, off, T, cs, hb, hl, h1 => by
    simp only [List.length_cons] at hl
    have hv := h1 v (by simp)
    have hc : w.cell? ((⟨b, off, none⟩ : Addr).add i) = some (cs[off + i]'(by omega)) := by
      rw [← addA_eq]; simp [addA, World.cell?, hb, show off + i < cs.size by omega]
    have hfz : w.frozen? ((⟨b, off, none⟩ : Addr).add i) = false := by
      rw [← addA_eq]; simp [addA, World.frozen?, hb]
    have hst : (store ((⟨b, off, none⟩ : Addr).add i) v).run P w = .ok () (w.setCell ((⟨b, off, none⟩ : Addr).add i) v) := by
      cases v <;> simp_all [store, Sem.run, cell1]
    have hadd : (⟨b, off, none⟩ : Addr).add i = ⟨b, off + i, none⟩ := by rw [← addA_eq]; rfl
    have hb' : (w.setCell ⟨b, off + i, none⟩ v).heap[b]? = some (.cells (cs.setIfInBounds (off + i) v) T (0, 0)) := by
      simp [World.setCell, Array.getElem?_modify, hb]
    obtain ⟨w', e1, e2, e3, e4, e5, e6, e7⟩ := run_storeCells vs (i + 1) (w := w.setCell ⟨b, off + i, none⟩ v) (b := b) (off := off) hb' (by simp; omega) (fun u hu => h1 u (by simp [hu]))
    refine ⟨w', ?_, ?_, fun n hn => ?_, by rw [e4]; simp [World.setCell], e5, e6, e7⟩
    · rw [hadd] at hst
      simp only [storeCells, Sem.run_bind, hadd, hst, Result.andThen_ok, e1]
    · rw [e2]
      congr 2
      apply Array.toList_inj.1
      simp only [Array.toList_setIfInBounds, List.length_cons]
      have hk : off + i < cs.toList.length := by simp; omega
      rw [show off + (i + 1) = off + i + 1 from rfl, List.take_add_one, List.take_set_of_le (Nat.le_refl _), List.drop_set_of_lt (by omega)]
      simp [show off + i < cs.size by omega]
      congr 1
      omega
    · rw [e3 n hn]
      simp only [World.setCell, Array.getElem?_modify]
      rw [if_neg (by simpa using fun h => hn h.symm)]

theorem run_storeVar_at (ht : TabOk P tab) {T : Nat} {i : TyI} (hi : tlook tab T = some i) {w : World} {b off : Nat} {T' : TypeId} {cs cs' : List Value} (hb : w.heap[b]? = some (.cells cs.toArray T' (0, 0)))
    {v : Value} (hs : v.cells.toList.length = i.size) (h1 : allOne v.cells.toList = true) (h : splice cs off v.cells.toList = some cs') :
    ∃ w', (storeVar T ⟨b, off, none⟩ v).run P w = .ok () w' ∧ w'.heap[b]? = some (.cells cs'.toArray T' (0, 0)) ∧ (∀ n, n ≠ b → w'.heap[n]? = w.heap[n]?) ∧ Oth w w' := by
  obtain ⟨k1, k2⟩ := splice_spec h
  have hok := ht T i hi
  obtain ⟨w', e1, e2, e3, e4, e5, e6, e7⟩ := run_storeCells (P := P) v.cells.toList 0 (w := w) (b := b) (off := off) hb (by simp at k1 ⊢; omega) (allOne_spec h1)
  refine ⟨w', ?_, ?_, e3, ⟨e5, e6, e7.1, by omega, by omega⟩⟩
  · have hs' : v.cells.size = i.size := by simpa using hs
    simp only [storeVar, Sem.run_bind, hok.run_size, Result.andThen_ok, hs', ne_eq, not_true_eq_false, if_false]
    simpa using e1
  · rw [e2, k2]; simp

theorem vcLoad_sound (ht : TabOk P tab) {Rs : List Res} {T : TypeId} {v : Option SV} {K : Value → Prop} {E : Prop} {w : World} (hm : Mod hfs Rs w) (h : vcLoad tab Rs T v K E) :
    E ∨ ∃ p u, v = some (.v (.pointer (some p))) ∧ K u ∧ (Instr.loadAt T (.pointer (some p))).run P w = .ok u w := by
  unfold vcLoad at h
  split at h
  · rename_i i p hi
    split at h
    · rename_i hsp
      rcases findR_sound h with h | ⟨j, T', cs, h1, h2⟩
      · exact .inl h
      · split at h2
        · rename_i u hu
          refine .inr ⟨p, u, rfl, h2, ?_⟩
          obtain ⟨b, o, s⟩ := p
          simp only at hsp
          subst hsp
          simp [Instr.loadAt, Instr.sureAddr, run_loadVar_at ht hi (hm.blk_at h1) hu]
        · exact h2.elim
    · exact .inl h
  · exact .inl h

theorem vcStore_sound (ht : TabOk P tab) {Rs : List Res} {T : TypeId} {v u : Option SV} {K : List Res → Prop} {E : Prop} {w : World} (hm : Mod hfs Rs w) (h : vcStore tab Rs T v u K E) :
    E ∨ ∃ p s Rs' w', v = some (.v (.pointer (some p))) ∧ u = some s ∧ K Rs' ∧ (Instr.storeAt T (.pointer (some p)) s.val).run P w = .ok () w' ∧ Mod hfs Rs' w' ∧ Oth w w' := by
  unfold vcStore at h
  split at h
  · rename_i i p s hi
    split at h
    · rename_i hsp
      split at h
      · rename_i hsz
        rcases findR_sound h with h | ⟨j, T', cs, h1, h2⟩
        · exact .inl h
        · split at h2
          · rename_i cs' hcs
            obtain ⟨h2, h3⟩ := h2
            obtain ⟨b, o, sp⟩ := p
            simp only at hsp
            subst hsp
            obtain ⟨w', e1, e2, e3, e4⟩ := run_storeVar_at ht hi (hm.blk_at h1) (Nat.eq_of_beq_eq_true hsz) h2 hcs
            refine .inr ⟨_, s, _, w', rfl, rfl, h3, by simp [Instr.storeAt, Instr.sureAddr, e1], ?_, e4⟩
            rw [Nat.zero_add]
            exact hm.setBlk h1 e2 e3
          · exact h2.elim
      · exact .inl h
    · exact .inl h
  · exact .inl h

theorem repL_range (z : List Value) : ∀ n, n * z.length ≠ 0 → ((Array.range (n * z.length)).map fun i => (z.toArray)[i % z.toArray.size]!) = (repL n z).toArray := by
  intro n hn
  have hz : 0 < z.length := Nat.pos_of_ne_zero fun e => hn (by simp [e])
  have len : ∀ n, (repL n z).length = n * z.length := by
    intro n
    induction n with
    | zero => simp [repL]
    | succ n ih => simp [repL, ih, Nat.succ_mul]; omega
  have at_ : ∀ n i, i < n * z.length → (repL n z)[i]? = z[i % z.length]? := by
    intro n
    induction n with
    | zero => intro i h; omega
    | succ n ih =>
      intro i h
      rw [Nat.succ_mul] at h
      simp only [repL, List.getElem?_append]
      split
      · rename_i hlt; rw [Nat.mod_eq_of_lt hlt]
      · rename_i hge
        rw [ih _ (by omega), ← Nat.mod_eq_sub_mod (by omega)]
  apply Array.toList_inj.1
  apply List.ext_getElem?
  intro i
  by_cases hi : i < n * z.length
  · have hm : i % z.length < z.length := Nat.mod_lt _ hz
    simp only [Array.toList_map, Array.toList_range, List.getElem?_map, List.getElem?_range hi, Option.map_some, at_ n i hi]
    simp [hm]
  · rw [List.getElem?_eq_none (by simp; omega), List.getElem?_eq_none (by simp [len]; omega)]

theorem vcDo_sound (ht : TabOk P tab) {l : L} {Rs : List Res} {o : Oper} {K : L → List Res → Prop} {E : Prop} {a : Act} {w : World} (hf : Fr N a l) (hm : Mod hfs Rs w) (hio : Oth w0 w)
    (h : vcDo tab N w0.heap.size l Rs o K E) : E ∨ Done P N hfs w0 o a w K := by
  unfold vcDo at h
  split at h
  · rename_i X hp
    obtain ⟨s, h1, h2⟩ := pop_sound ht hf hp h
    obtain ⟨l', k1, k2⟩ := setd_sound h1 hf
    exact .inr ⟨s.val, w, l', Rs, .inl (h2 w o rfl), k1, k2, hm, hio, fun _ _ _ => rfl⟩
  · have newBlk : ∀ (T : TypeId) (cs : List Value) (v : Value), ((execOp a.eval o).run P w = .ok (.value v) { w with heap := w.heap.push (.cells cs.toArray T (0, 0)) }) →
        setd N o.dst (.v v) l (fun l' => K l' (.blk w.heap.size T cs :: Rs)) → Done P N hfs w0 o a w K := by
      intro T cs v hrun hk
      obtain ⟨l', k1, k2⟩ := setd_sound hk hf
      exact ⟨v, _, l', _, .inl hrun, k1, k2, hm.newBlk T cs, hio.trans (Oth.push w _), fun _ n hn => by simp [Array.getElem?_push, Nat.ne_of_lt hn]⟩
    split at h
    · rename_i T x ho
      rcases vcLoad_sound ht hm h with h | ⟨p, u, h1, h2, h3⟩
      · exact .inl h
      · obtain ⟨l', k1, k2⟩ := setd_sound h2 hf
        refine .inr ⟨u, w, l', Rs, .inl ?_, k1, k2, hm, hio, fun _ _ _ => rfl⟩
        simp only [execOp, ho, ev_sound hf h1, SV.val, Sem.run_bind, h3]
        rfl
    · rename_i T x y ho
      split at h
      · rename_i hd
        rcases vcStore_sound ht hm h with h | ⟨p, s, Rs', w', h1, h2, h3, h4, h5, h6⟩
        · exact .inl h
        · refine .inr ⟨undef, w', l, Rs', .inr ⟨?_, rfl⟩, h3, by rw [hd]; exact hf, h5, hio.trans h6, fun h => (by rw [ho] at h; cases h)⟩
          simp only [execOp, ho, ev_sound hf h1, ev_sound hf h2, SV.val, Sem.run_bind] at h4 ⊢
          rw [h4]
          rfl
      · exact .inl h
    · rename_i T ho
      split at h
      · rename_i i hi
        refine .inr (newBlk T i.zero.cells.toList _ ?_ (h w.heap.size hio.size))
        simp [execOp, ho, Instr.alloc, (ht _ _ hi).run_zero, newVar, newRow, newObj, Sem.run]
      · exact .inl h
    · rename_i T x ho
      split at h
      · rename_i s hs
        refine .inr (newBlk T s.val.cells.toList _ ?_ (h w.heap.size hio.size))
        simp [execOp, ho, Instr.box, ev_sound hf hs, newVar, newRow, newObj, Sem.run]
      · exact .inl h
    · rename_i T n ps ho
      split at h <;> try (exact .inl h)
      rename_i e hk
      split at h <;> try (exact .inl h)
      rename_i i vs hi hvs
      split at h
      rotate_left
      · split at h <;> try (exact .inl h)
        rename_i hn hps
        have hn : n = 0 := Nat.eq_of_beq_eq_true hn
        subst hn
        refine .inr (newBlk e [] _ ?_ (h w.heap.size hio.size))
        obtain ⟨d, hd, k⟩ := kind_spec ht hk
        simp only [TK.ok] at k; subst k
        have hok := ht _ _ hi
        have hps' : ps = #[] := by apply Array.toList_inj.1; simpa using hps
        subst hps'
        simp only [execOp, ho]
        simp [Instr.buildSlice, run_underlying' hd, hok.run_size, Instr.fill, newRow, newObj, Sem.run]
        have e0 : (Array.range 0 : Array Nat) = #[] := by apply Array.toList_inj.1; simp
        rw [e0]
        simp
      rename_i hz hle hnz
      split at h <;> try (exact .inl h)
      rename_i cs hcs
      refine .inr (newBlk e cs _ ?_ (h w.heap.size hio.size))
      obtain ⟨d, hd, k⟩ := kind_spec ht hk
      simp only [TK.ok] at k; subst k
      have hok := ht _ _ hi
      have hz' : i.zero.cells.toList.length = i.size := Nat.eq_of_beq_eq_true hz
      have hnz' : n * i.size ≠ 0 := Nat.ne_of_beq_eq_false hnz
      have hle' : n * i.size ≤ 16777216 := Nat.le_of_ble_eq_true hle
      have hmap : (ps.toList.map fun (x : Nat × Operand) => (x.1, a.eval x.2)) = vs := evp_sound hf hvs
      have hr := repL_range i.zero.cells.toList n (by rw [hz']; exact hnz')
      rw [hz'] at hr
      have hfill := fillL_sound _ vs _ _ hcs
      rw [← hr] at hfill
      simp only [Array.toArray_toList] at hfill
      simp only [execOp, ho]
      simp [Instr.buildSlice, run_underlying' hd, hok.run_size, hok.run_zero, hmap, hfill, newRow, newObj, Sem.run, hnz', show ¬ 16777216 < n * i.size by omega]
    · exact .inl h

end
end Go.RX
