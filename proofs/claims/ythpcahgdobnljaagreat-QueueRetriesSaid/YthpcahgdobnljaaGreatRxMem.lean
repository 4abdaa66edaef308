/- RX, part 16: new slices of zeroes; bytes as a text; a map gone through, in whichever order. -/
import Derived.Test.YthpcahgdobnljaaGreatRxMap
import Derived.Laws.BytesString
import Derived.Laws.MakeOwn
import Derived.Maps.RangeRun
set_option autoImplicit false
set_option linter.unusedVariables false
set_option linter.unusedSimpArgs false
namespace Go.RX
open Go Go.RowKit

/-- A block that stands somewhere. -/
theorem findR_at {b : Nat} {E : Prop} {T : TypeId} {cs : List Value} : ∀ {Rs : List Res} {i j : Nat} {K : Nat → TypeId → List Value → Prop}, Rs[j]? = some (.blk b T cs) → K (i + j) T cs → findR b E Rs i K
  | [], _, _, _, h, _ => by simp at h
  | .blk b' T' cs' :: r, i, 0, K, h, hk => by
    simp at h
    obtain ⟨rfl, rfl, rfl⟩ := h
    exact .inl ⟨rfl, hk⟩
  | .blk b' T' cs' :: r, i, j + 1, K, h, hk => .inr (findR_at (Rs := r) (by simpa using h) (by rw [Nat.add_right_comm, Nat.add_assoc]; exact hk))
  | .hp _ :: r, i, 0, K, h, hk => by simp at h
  | .hp _ :: r, i, j + 1, K, h, hk => findR_at (Rs := r) (by simpa using h) (by rw [Nat.add_right_comm, Nat.add_assoc]; exact hk)

/-- Memory that is known otherwise. -/
theorem findR_E {b : Nat} {E : Prop} (h : E) : ∀ {Rs : List Res} {i : Nat} {K : Nat → TypeId → List Value → Prop}, findR b E Rs i K
  | [], _, _ => h
  | .blk _ _ _ :: r, _, _ => .inr (findR_E h (Rs := r))
  | .hp _ :: r, _, _ => findR_E h (Rs := r)

/-- Some of the resources, in their order. -/
theorem Mod.less {hfs : List PH} {a b : List Res} {w : World} (hs : b.Sublist a) (hm : Mod hfs a w) : Mod hfs b w := by
  obtain ⟨r, hr⟩ := hs.exists_perm_append
  exact (hm.permRs (hr.trans List.perm_append_comm)).drop

/-! ### a part of an element of a row -/
theorem rxLoadPart {P : Program} {tab : Tab} (ht : TabOk P tab) {T : Nat} {ti : TyI} (hti : tlook tab T = some ti) {α : Type} {enc : α → List Value} {k : Nat} (he : IsEnc enc k) {w : World} {b o : Nat} {xs : List α} (hr : RdW w (some ⟨b, o, none⟩) (xs.flatMap enc)) {n off : Nat} {x : α} (hx : xs[n]? = some x)
    {v : Value} (hv : partL ti (enc x) off = some v) {p : Addr} (hp : p = ⟨b, o + n * k + off, none⟩) : (loadVar T p).run P w = .ok v w := by
  subst hp
  unfold partL at hv
  split at hv <;> try (cases hv; done)
  rename_i r hr1
  split at hv <;> try (cases hv; done)
  rename_i vs hvs
  obtain ⟨h1, h2⟩ := dropN_spec hr1
  obtain ⟨h3, h4⟩ := takeN_spec hvs
  have hvl : vs.length = ti.size := by rw [h4]; simp; omega
  have hmk : mkV ti.kind.agg vs = v := by
    split at hv
    · rename_i ha; cases hv; rw [ha]; rfl
    · rename_i ha
      split at hv <;> try (cases hv; done)
      cases hv; rw [ha]; rfl
  have h1' : ti.kind.agg = false → ti.size = 1 := fun ha => by
    rw [ha] at hv
    simp only at hv
    split at hv <;> try (cases hv; done)
    simpa using hvl.symm
  rcases hr with hr | ⟨b', o', e, hcell⟩
  · have := he.flat_nil hr; subst this; simp at hx
  · cases e
    rw [← hmk]
    refine run_loadVar_cells ht hti hvl h1' fun j u hu => ?_
    have hu' : (enc x)[off + j]? = some u := by
      rw [h4, List.getElem?_take] at hu
      split at hu
      · rw [h2, List.getElem?_drop] at hu; exact hu
      · cases hu
    have := hcell _ u (he.flat_at hx _ u hu')
    rw [← this]
    congr 2
    omega

theorem OpTo_loadPart {E : Env} {l : L} {Rs : List Res} {o : Oper} {K : L → List Res → Prop} {α : Type} {enc : α → List Value} {k : Nat} (ht : TabOk E.P E.tab) (he : IsEnc enc k) {T : TypeId} {x : Operand} {p : Addr} {ti : TyI} {b off n j : Nat} {xs : List α} {u : α} (v : Value) (ho : o.op = .load T x) (hx : ev l x = some (.v (.pointer (some p)))) (hti : tlook E.tab T = some ti)
    (hr : ∀ w, Mod E.hfs Rs w → Oth E.w0 w → RdW w (some ⟨b, off, none⟩) (xs.flatMap enc)) (hu : xs[n]? = some u) (hv : partL ti (enc u) j = some v) (hp : p = ⟨b, off + n * k + j, none⟩)
    (hK : setd E.N o.dst (.v v) l fun l' => K l' Rs) : OpTo E l Rs o K :=
  OpTo_load ho hx (fun w hm hio => rxLoadPart ht hti he (hr w hm hio) hu hv hp) hK

theorem list_part {α : Type} (P E R vs : List α) (j : Nat) (h : j + vs.length ≤ E.length) : (P ++ (E ++ R)).take (P.length + j) ++ vs ++ (P ++ (E ++ R)).drop (P.length + j + vs.length) = P ++ ((E.take j ++ vs ++ E.drop (j + vs.length)) ++ R) := by
  rw [List.take_append, List.take_of_length_le (l := P) (by omega), show P.length + j - P.length = j from by omega, List.take_append_of_le_length (by omega)]
  rw [List.drop_append, List.drop_of_length_le (l := P) (by omega), List.nil_append, show P.length + j + vs.length - P.length = j + vs.length from by omega, List.drop_append_of_le_length (by omega)]
  simp [List.append_assoc]

theorem IsEnc.flat_split {α : Type} {enc : α → List Value} {k : Nat} (he : IsEnc enc k) {xs : List α} {n : Nat} {x : α} (hx : xs[n]? = some x) : xs.flatMap enc = (xs.take n).flatMap enc ++ (enc x ++ (xs.drop (n + 1)).flatMap enc) := by
  obtain ⟨hn, rfl⟩ := List.getElem?_eq_some_iff.1 hx
  have e : xs = xs.take n ++ xs[n] :: xs.drop (n + 1) := by rw [← List.drop_eq_getElem_cons hn, List.take_append_drop]
  refine (congrArg (List.flatMap enc) e).trans ?_
  rw [List.flatMap_append, List.flatMap_cons]

/-- A part of an element is written. -/
theorem Mod.own_storePart {P : Program} {tab : Tab} (ht : TabOk P tab) {α : Type} {enc : α → List Value} {k : Nat} {T : TypeId} {c : Nat} {hfs : List PH} {Rs : List Res} {w : World} {T' : Nat} {ti : TyI} (hti : tlook tab T' = some ti) (he : IsEnc enc k) {i n j : Nat} {x y : α} {v : Value} {b o : Nat} {xs : List α}
    (hx : xs[n]? = some x) (hv : splice (enc x) j v.cells.toList = some (enc y)) (hk : ti.size = v.cells.toList.length) (h1 : ∀ u ∈ v.cells.toList, cell1 u = true) (hm : Mod hfs Rs w) (hi : Rs[i]? = some (own enc k T (some ⟨b, o, none⟩) c xs)) {p : Addr} (hp : p = ⟨b, o + n * k + j, none⟩) :
    ∃ w', (storeVar T' p v).run P w = .ok () w' ∧ Mod hfs (Rs.set i (own enc k T (some ⟨b, o, none⟩) c (xs.set n y))) w' ∧ Oth w w' := by
  subst hp
  have hn := (List.getElem?_eq_some_iff.1 hx).1
  obtain ⟨h, g1, h2, hset⟩ := hm.open_ hi
  rcases g1 with ⟨rfl, _⟩ | ⟨b', pre, tl, h3, h4, h5, h6, h7⟩
  · simp at hn
  · obtain ⟨rfl, rfl⟩ : b = b' ∧ o = pre.length := by simpa using h3
    obtain ⟨hs1, hs2⟩ := splice_spec hv
    have hsp := he.flat_split hx
    have hA : ((xs.take n).flatMap enc).length = n * k := by rw [he.flat_len, List.length_take, Nat.min_eq_left (by omega)]
    have hcells : (pre ++ xs.flatMap enc ++ tl) = (pre ++ (xs.take n).flatMap enc) ++ (enc x ++ ((xs.drop (n + 1)).flatMap enc ++ tl)) := by rw [hsp]; simp [List.append_assoc]
    have hpl : (pre ++ (xs.take n).flatMap enc).length = pre.length + n * k := by simp [hA]
    have hb : w.heap[b]? = some (.cells (pre ++ xs.flatMap enc ++ tl).toArray T (0, 0)) := h2 b _ (by rw [h4]; exact one_same _ _)
    obtain ⟨w', e1, e2, e3, e4, e5, e6, e7⟩ := run_storeCells (P := P) v.cells.toList 0 (w := w) (b := b) (off := pre.length + n * k + j) hb (by
      have hs1' : j + v.cells.size ≤ (enc x).length := by simpa using hs1
      rw [hcells]; simp [hA]; omega) h1
    have hok := ht T' ti hti
    have hvs : v.cells.size = ti.size := by rw [hk]; simp
    refine ⟨w', ?_, hset _ _ w' (.inr ⟨b, pre, tl, rfl, rfl, by simpa using h5, by simpa using h6, h7⟩) (Sub.one ?_) (fun m _ hm0 => ?_), ⟨e5, e6, e7.1, by omega, by omega⟩⟩
    · simp only [storeVar, Sem.run_bind, hok.run_size, Result.andThen_ok, hvs, ne_eq, not_true_eq_false, if_false]
      simpa using e1
    · rw [e2]
      congr 2
      apply Array.toList_inj.1
      simp only [Nat.add_zero]
      rw [hcells]
      have := list_part (pre ++ (xs.take n).flatMap enc) (enc x) ((xs.drop (n + 1)).flatMap enc ++ tl) v.cells.toList j hs1
      rw [hpl] at this
      rw [this, ← hs2, List.set_eq_take_append_cons_drop, if_pos hn]
      simp [List.flatMap_append, List.append_assoc]
    · have hne : m ≠ b := fun e => by subst e; rw [h4, one_same] at hm0; cases hm0
      exact ⟨e3 m hne, one_ne _ hne⟩

theorem OpTo_storePart {E : Env} {l : L} {Rs : List Res} {o : Oper} {K : L → List Res → Prop} {α : Type} {enc : α → List Value} {k : Nat} (ht : TabOk E.P E.tab) (he : IsEnc enc k) {T T' : TypeId} {x y : Operand} {p : Addr} {s : SV} {ti : TyI} {b n off c j : Nat} {xs : List α} {u u' : α} (i : Nat) (ho : o.op = .store T' x y) (hd : o.dst = none) (hx : ev l x = some (.v (.pointer (some p)))) (hy : ev l y = some s)
    (hti : tlook E.tab T' = some ti) (hi : Rs[i]? = some (own enc k T (some ⟨b, off, none⟩) c xs)) (hu : xs[n]? = some u) (hv : splice (enc u) j s.val.cells.toList = some (enc u')) (hk : ti.size = s.val.cells.toList.length) (h1 : allOne s.val.cells.toList = true) (hp : p = ⟨b, off + n * k + j, none⟩)
    (hK : K l (Rs.set i (own enc k T (some ⟨b, off, none⟩) c (xs.set n u')))) : OpTo E l Rs o K :=
  OpTo_skip (Qo := fun Rs' => Rs' = Rs.set i (own enc k T (some ⟨b, off, none⟩) c (xs.set n u'))) hd
    (fun a w hf hmod hio => by
      obtain ⟨w', h1, h2, h3⟩ := hmod.own_storePart ht hti he hu hv hk (allOne_spec h1) hi hp
      refine ⟨_, w', ?_, rfl, h2, h3⟩
      simp only [execOp, ho, ev_sound hf hx, ev_sound hf hy, SV.val, Instr.storeAt, Instr.sureAddr, Sem.run_bind, Sem.run_pure, Result.andThen_ok] at h1 ⊢
      rw [h1]
      rfl)
    (fun Rs' h => by subst h; exact hK)

theorem repL_add (z : List Value) : ∀ n m, repL (n + m) z = repL n z ++ repL m z
  | 0, m => by simp [repL]
  | n + 1, m => by rw [Nat.add_right_comm]; simp [repL, repL_add z n m]
theorem repL_len (z : List Value) : ∀ n, (repL n z).length = n * z.length
  | 0 => by simp [repL]
  | n + 1 => by simp [repL, repL_len z n, Nat.succ_mul]; omega

theorem madeCells_repL (z : Array Value) (n k : Nat) (hk : z.toList.length = k) (h : 0 < k) : madeCells z (n * k) = (repL n z.toList).toArray := by
  by_cases hn : n = 0
  · subst hn
    apply Array.toList_inj.1
    simp [madeCells, repL]
  · have := repL_range z.toList n (by rw [hk]; exact Nat.mul_ne_zero hn (by omega))
    rw [hk] at this
    rw [← this]
    simp [madeCells]

section
variable {E : Env} {l : L} {Rs : List Res} {o : Oper} {K : L → List Res → Prop} {α : Type} {enc : α → List Value} {k : Nat}

theorem OpTo_make (ht : TabOk E.P E.tab) (he : IsEnc enc k) {T e : TypeId} {lx cx : Operand} {kl kc : IntKind} {n c : Int} {ti : TyI} (z : α) (ho : o.op = .makeSlice T lx cx) (hl : ev l lx = some (.v (.int kl n))) (hc : ev l cx = some (.v (.int kc c)))
    (hT : kindIs E.tab T = some (.slice e)) (hti : tlook E.tab e = some ti) (hk : ti.size = k) (hz : ti.zero.cells.toList = enc z) (h0 : 0 ≤ n) (hnc : n ≤ c) (hbd : (ti.bytes : Int) * c ≤ 281474976710656) (h63 : c ≤ 9223372036854775807)
    (hK : ∀ b, E.w0.heap.size ≤ b → setd E.N o.dst (.v (.slice (some ⟨b, 0, none⟩) n.toNat c.toNat)) l fun l' => K l' (own enc k e (some ⟨b, 0, none⟩) c.toNat (List.replicate n.toNat z) :: Rs)) : OpTo E l Rs o K := by
  intro a w hf hm hio
  obtain ⟨l', k1, k2⟩ := setd_sound (hK w.heap.size hio.size) hf
  obtain ⟨d, hd, hdk⟩ := kind_spec ht hT
  simp only [TK.ok] at hdk; subst hdk
  obtain ⟨inf, hinf, e1⟩ := Option.map_eq_some_iff.1 (ht e ti hti).info
  simp only [Prod.mk.injEq] at e1
  obtain ⟨es, eb, ez⟩ := e1
  have hrun := run_make (P := E.P) w T e inf ti.zero hd hinf ez kl kc n c h0 hnc (by rw [eb]; exact hbd) h63
  have hzl : ti.zero.cells.toList.length = k := by rw [hz, he.len]
  rw [es, hk, madeCells_repL _ _ _ hzl he.pos, hz] at hrun
  unfold Oper.wp
  have hex : (execOp a.eval o).run E.P w = .ok (.value (.slice (some ⟨w.heap.size, 0, none⟩) n.toNat c.toNat)) (w.alloc (.cells (repL c.toNat (enc z)).toArray e)) := by
    simp only [execOp, ho, ev_sound hf hl, ev_sound hf hc, SV.val, Sem.run_bind, hrun]
    rfl
  rw [hex]
  have hsplit : repL c.toNat (enc z) = (List.replicate n.toNat z).flatMap enc ++ repL (c.toNat - n.toNat) (enc z) := by
    rw [flat_replicate, ← repL_add]; congr 1; omega
  refine ⟨l', _, k1, k2, hm.add (h := one w.heap.size (.cells (repL c.toNat (enc z)).toArray e (0, 0))) (fun m hm' => (MapKept.heap_alloc w _).2 m hm') ?_ (fun m hm' => one_ne _ (Nat.ne_of_lt hm')) (Sub.one (MapKept.heap_alloc w _).1), hio.trans (Oth.push w _)⟩
  refine .inr ⟨w.heap.size, [], repL (c.toNat - n.toNat) (enc z), rfl, by rw [hsplit]; simp, ?_, by simp; omega, by omega⟩
  rw [repL_len, he.len]; simp

/-- Some bytes as a text. -/
def bytesOf (ns : List Int) : ByteArray := ns.foldl (fun r n => r.push (UInt8.ofNat n.toNat)) ByteArray.empty

theorem OpTo_bytesStr (ht : TabOk E.P E.tab) {src dst e : TypeId} {x : Operand} {A : Option Addr} {n c : Nat} {ns : List Int} (ho : o.op = .convert src dst x) (hx : ev l x = some (.v (.slice A n c))) (hs : kindIs E.tab src = some (.slice e)) (he : kindIs E.tab e = some (.int .u8)) (hd : kindIs E.tab dst = some .str)
    (hn : n = ns.length) (hr : ∀ w, Mod E.hfs Rs w → Oth E.w0 w → RdW w A (ns.flatMap (encI .u8))) (hK : setd E.N o.dst (.v (.string (bytesOf ns))) l fun l' => K l' Rs) : OpTo E l Rs o K :=
  OpTo_run (Qo := fun v Rs' => v = .string (bytesOf ns) ∧ Rs' = Rs)
    (fun a w hf hm hio => by
      obtain ⟨d1, hd1, e1⟩ := kind_spec ht hs
      obtain ⟨d2, hd2, e2⟩ := kind_spec ht he
      obtain ⟨d3, hd3, e3⟩ := kind_spec ht hd
      simp only [TK.ok] at e1 e2 e3; subst e1 e2 e3
      refine ⟨_, Rs, w, ?_, ⟨rfl, rfl⟩, hm, Oth.refl w⟩
      have hconv : (convert src dst (.slice A n c)).run E.P w = .ok (.string (bytesOf ns)) w := by
        rw [run_convert_bytes_string w src dst e A n c hd1 hd2 hd3]
        subst hn
        have h := hr w hm hio
        rw [flat_encI] at h
        cases A with
        | none =>
          rcases h with h | ⟨b, o', h, _⟩
          · have : ns = [] := by simpa using h
            subst this; simp [Conv.bytesToString, bytesOf]
          · cases h
        | some a =>
          refine run_bytesToString w a ns.length c ns ?_
          have := run_loadCells_list (P := E.P) (w := w) a (ns.map (Value.int .u8)) fun j v hv => ?_
          · simpa using this
          · rcases h with h | ⟨b, o', h, h2⟩
            · rw [h] at hv; simp at hv
            · cases h; rw [← addA_eq]; exact h2 j v hv
      simp only [execOp, ho, ev_sound hf hx, SV.val, Sem.run_bind, hconv]
      rfl)
    (fun u Rs' ⟨h1, h2⟩ => by subst h1 h2; exact hK)

theorem bytesOf_push (ns : List Int) (n : Int) : bytesOf (ns ++ [n]) = (bytesOf ns).push (UInt8.ofNat n.toNat) := by simp [bytesOf]
theorem bytesOf_data (ns : List Int) : (bytesOf ns).data.toList = ns.map fun n => UInt8.ofNat n.toNat := by
  have key : ∀ (ns : List Int) (s : ByteArray), (ns.foldl (fun r n => r.push (UInt8.ofNat n.toNat)) s).data.toList = s.data.toList ++ ns.map fun n => UInt8.ofNat n.toNat := by
    intro ns
    induction ns with
    | nil => intro s; simp
    | cons n r ih =>
      intro s
      rw [List.foldl_cons, ih]
      show (s.data.push _).toList ++ _ = _
      rw [Array.toList_push, List.append_assoc]
      rfl
  unfold bytesOf
  rw [key]
  rfl
theorem bytesOf_size (ns : List Int) : (bytesOf ns).size = ns.length := by
  have h := congrArg List.length (bytesOf_data ns)
  rw [List.length_map] at h
  exact h
end

/-! ### a map gone through -/
section
variable {κ ν : Type}
open Go.ChangeMaps (setBlock)

/-- A map, and one who goes through it: what is left of it. -/
def MpItS (kE : κ → Value) (vE : ν → Value) (b bi : Nat) (al todo : List (κ × ν)) (last : Option (κ × ν)) : HP := fun h => ∃ (es : List ((κ × ν) × Nat)) (clock : Nat) (seen : Array Nat),
  h = uni (one b (.map (es.map (entV kE vE)).toArray clock)) (one bi (.mapIter (some b) clock seen clock)) ∧ b ≠ bi ∧ es.map (·.1) = al ∧ EntOk es clock ∧ (es.filter fun e => !seen.contains e.2).map (·.1) = todo ∧
    ∀ p, last = some p → ∃ (seen0 : Array Nat) (e : (κ × ν) × Nat), seen = seen0.push e.2 ∧ e ∈ es ∧ e.1 = p
abbrev mpItR (kE : κ → Value) (vE : ν → Value) (b bi : Nat) (al todo : List (κ × ν)) (last : Option (κ × ν)) : Res := .hp (MpItS kE vE b bi al todo last)

theorem uni_at1 {b bi : Nat} {o1 o2 : Obj} : uni (one b o1) (one bi o2) b = some o1 := by simp [uni, one_same]
theorem uni_at2 {b bi : Nat} {o1 o2 : Obj} (h : b ≠ bi) : uni (one b o1) (one bi o2) bi = some o2 := by simp [uni, one_ne o1 (Ne.symm h), one_same]
theorem uni_none {b bi n : Nat} {o1 o2 : Obj} (h1 : n ≠ b) (h2 : n ≠ bi) : uni (one b o1) (one bi o2) n = none := by simp [uni, one_ne _ h1, one_ne _ h2]
theorem uni_inv {b bi n : Nat} {o1 o2 : Obj} (h : uni (one b o1) (one bi o2) n = none) : n ≠ b ∧ n ≠ bi := by
  constructor
  · rintro rfl; rw [uni_at1] at h; cases h
  · rintro rfl
    by_cases hb : b = n
    · subst hb; rw [uni_at1] at h; cases h
    · rw [uni_at2 hb] at h; cases h
theorem Sub.uni {w : World} {b bi : Nat} {o1 o2 : Obj} (h1 : w.heap[b]? = some o1) (h2 : w.heap[bi]? = some o2) : Sub (RX.uni (RX.one b o1) (RX.one bi o2)) w := by
  intro n o e
  by_cases hb : n = b
  · subst hb; rw [uni_at1] at e; cases e; exact h1
  · simp only [RX.uni, one_ne _ hb] at e
    exact Sub.one h2 n o (by simpa using e)

variable {kE : κ → Value} {vE : ν → Value}

theorem Mod.itEnd {hfs : List PH} {Rs : List Res} {w : World} {i b bi : Nat} {al todo : List (κ × ν)} {last : Option (κ × ν)} (hm : Mod hfs Rs w) (hi : Rs[i]? = some (mpItR kE vE b bi al todo last)) : Mod hfs (Rs.set i (mpR kE vE b al)) w :=
  hm.turn hi fun h ⟨es, clock, seen, h1, h2, h3, h4, h5, h6⟩ hs => by
    subst h1
    exact ⟨_, ⟨es, clock, rfl, h3, h4⟩, Sub.one (hs _ _ uni_at1), fun n _ hn => ⟨rfl, one_ne _ (uni_inv hn).1⟩⟩

theorem Mod.it_nodup {hfs : List PH} {Rs : List Res} {w : World} {i b bi : Nat} {al todo : List (κ × ν)} {last : Option (κ × ν)} (hm : Mod hfs Rs w) (hi : Rs[i]? = some (mpItR kE vE b bi al todo last)) : (keys al).Nodup := by
  obtain ⟨h, ⟨es, clock, seen, h1, h2, h3, h4, h5, h6⟩, hs⟩ := hm.get hi
  rw [← h3]; exact h4.keys

theorem filter_split {es : List ((κ × ν) × Nat)} {clock : Nat} (ho : EntOk es clock) {seen : Array Nat} {e : (κ × ν) × Nat} (he : e ∈ es.filter fun e => !seen.contains e.2) :
    ∃ F1 F2, (es.filter fun e => !seen.contains e.2) = F1 ++ e :: F2 ∧ (es.filter fun x => !(seen.push e.2).contains x.2) = F1 ++ F2 := by
  obtain ⟨F1, F2, hF⟩ := List.append_of_mem he
  refine ⟨F1, F2, hF, ?_⟩
  have h1 : (es.filter fun x => !(seen.push e.2).contains x.2) = (es.filter fun x => !seen.contains x.2).filter fun x => !(x.2 == e.2) := by
    rw [List.filter_filter]
    apply List.filter_congr
    intro x _
    by_cases hx : x.2 = e.2 <;> simp [Array.contains_push, hx]
  rw [h1, hF]
  have hp : (F1 ++ e :: F2).Pairwise fun a b => a.2 < b.2 := by rw [← hF]; exact ho.born.sublist List.filter_sublist
  rw [List.pairwise_append] at hp
  obtain ⟨_, p2, p3⟩ := hp
  rw [List.pairwise_cons] at p2
  rw [List.filter_append, List.filter_cons_of_neg (by simp), List.filter_eq_self.2, List.filter_eq_self.2]
  · intro x hx; have := p2.1 x hx; simp; omega
  · intro x hx; have := p3 x hx e (by simp); simp; omega

variable {E : Env} {l : L} {Rs : List Res} {o : Oper} {K : L → List Res → Prop}

theorem OpTo_range (ht : TabOk E.P E.tab) {T kt et : TypeId} {x : Operand} {b : Nat} {al : List (κ × ν)} (i : Nat) (ho : o.op = .range T x) (hx : ev l x = some (.v (.map (some b)))) (hT : kindIs E.tab T = some (.map kt et)) (hi : Rs[i]? = some (mpR kE vE b al))
    (hK : ∀ bi, E.w0.heap.size ≤ bi → setd E.N o.dst (.v (.pointer (some ⟨bi, 0, none⟩))) l fun l' => K l' (Rs.set i (mpItR kE vE b bi al al none))) : OpTo E l Rs o K := by
  intro a w hf hm hio
  obtain ⟨l', k1, k2⟩ := setd_sound (hK w.heap.size hio.size) hf
  obtain ⟨es, clock, h1, h2, h3⟩ := hm.mp_at hi
  have hu := run_underlying' (w := w) (kind_map ht hT)
  unfold Oper.wp
  have hex : (execOp a.eval o).run E.P w = .ok (.value (.pointer (some ⟨w.heap.size, 0, none⟩))) (w.alloc (.mapIter (some b) clock #[] clock)) := by
    simp [execOp, ho, ev_sound hf hx, SV.val, Instr.range, hu, MapKept.run_getObj_map h1, newObj, Sem.run]
  rw [hex]
  have hb : b < w.heap.size := (Array.getElem?_eq_some_iff.1 h1).1
  refine ⟨l', _, k1, k2, ?_, hio.trans (Oth.push w _)⟩
  refine hm.turn hi fun h hh hs => ?_
  obtain ⟨es', clock', e1, e2, e3⟩ := hh
  subst e1
  have hb' := hs _ _ (one_same b _)
  rw [h1] at hb'
  refine ⟨uni (one b (.map (es.map (entV kE vE)).toArray clock)) (one w.heap.size (.mapIter (some b) clock #[] clock)), ⟨es, clock, #[], rfl, by omega, h2, h3, ?_, fun p hp => by cases hp⟩, Sub.uni ?_ ?_, fun n hn hn0 => ⟨?_, uni_none ?_ (by omega)⟩⟩
  · rw [List.filter_eq_self.2 (by simp)]; exact h2
  · rw [(MapKept.heap_alloc w _).2 b hb]; exact h1
  · exact (MapKept.heap_alloc w _).1
  · exact (MapKept.heap_alloc w _).2 n hn
  · rintro rfl; rw [one_same] at hn0; cases hn0

theorem OpTo_next {x : Operand} {b bi : Nat} {al todo : List (κ × ν)} {last : Option (κ × ν)} (i : Nat) (ho : o.op = .next x false) (hx : ev l x = some (.v (.pointer (some ⟨bi, 0, none⟩)))) (hi : Rs[i]? = some (mpItR kE vE b bi al todo last))
    (hK0 : todo = [] → setd E.N o.dst (.v (.tuple #[.bool false])) l fun l' => K l' Rs)
    (hK1 : ∀ t1 p t2, todo = t1 ++ p :: t2 → setd E.N o.dst (.v (.tuple #[.bool true, kE p.1, vE p.2])) l fun l' => K l' (Rs.set i (mpItR kE vE b bi al (t1 ++ t2) (some p)))) : OpTo E l Rs o K :=
  OpTo_run (Qo := fun v Rs' => (todo = [] ∧ v = .tuple #[.bool false] ∧ Rs' = Rs) ∨ ∃ t1 p t2, todo = t1 ++ p :: t2 ∧ v = .tuple #[.bool true, kE p.1, vE p.2] ∧ Rs' = Rs.set i (mpItR kE vE b bi al (t1 ++ t2) (some p)))
    (fun a w hf hm hio => by
      obtain ⟨h, ⟨es, clock, seen, h1, h2, h3, h4, h5, h6⟩, hs, hset⟩ := hm.open_ hi
      subst h1
      have hb := hs _ _ (uni_at1 (bi := bi) (o2 := .mapIter (some b) clock seen clock))
      have hbi := hs _ _ (uni_at2 h2)
      have hleft : (leftOf (es.map (entV kE vE)).toArray seen).toList = (es.filter fun e => !seen.contains e.2).map (entV kE vE) := by
        simp only [leftOf, Array.toList_filter, List.filter_map]
        rfl
      have hlow : ∀ x ∈ (es.map (entV kE vE)).toArray.toList, x.born < clock := by
        intro x hx
        obtain ⟨e, he, rfl⟩ := List.mem_map.1 (show x ∈ es.map (entV kE vE) from hx)
        exact h4.low e he
      have hex : ∀ v w', (Instr.next (.pointer (some ⟨bi, 0, none⟩)) false o.type).run E.P w = .ok v w' → (execOp a.eval o).run E.P w = .ok (.value v) w' := by
        intro v w' h
        simp only [execOp, ho, ev_sound hf hx, SV.val, Sem.run_bind, h]
        rfl
      rcases run_next_at (P := E.P) w o.type bi b clock clock seen _ clock hbi hb hlow (Nat.le_refl _) with ⟨g1, g2⟩ | ⟨e, g1, w1, g2, g3⟩
      · refine ⟨_, Rs, w, hex _ _ g2, .inl ⟨?_, rfl, rfl⟩, hm, Oth.refl w⟩
        rw [← h5]
        have := congrArg List.length hleft
        simp only [Array.length_toList, g1, List.length_map] at this
        rw [List.eq_nil_of_length_eq_zero this.symm]; rfl
      · rw [hleft] at g1
        obtain ⟨e0, he0, rfl⟩ := List.mem_map.1 g1
        obtain ⟨F1, F2, f1, f2⟩ := filter_split h4 he0
        have hw1 : w1.heap = w.heap := by rcases g2 with rfl | rfl <;> rfl
        refine ⟨_, _, _, hex _ _ g3, .inr ⟨F1.map (·.1), e0.1, F2.map (·.1), by rw [← h5, f1]; simp, rfl, rfl⟩, ?_, ?_⟩
        · refine hset _ (uni (one b (.map (es.map (entV kE vE)).toArray clock)) (one bi (.mapIter (some b) clock (seen.push e0.2) clock))) _ ⟨es, clock, seen.push e0.2, rfl, h2, h3, h4, by rw [f2]; simp, fun p hp => ⟨seen, e0, rfl, (List.mem_filter.1 he0).1, by cases hp; rfl⟩⟩ (Sub.uni ?_ ?_) (fun n hn hn0 => ?_)
          · show (w1.heap.setIfInBounds bi _)[b]? = _
            rw [hw1, Array.getElem?_setIfInBounds_ne (Ne.symm h2)]; exact hb
          · show (w1.heap.setIfInBounds bi _)[bi]? = _
            rw [hw1]
            exact (MapKept.heap_set hbi).1
          · obtain ⟨n1, n2⟩ := uni_inv hn0
            refine ⟨?_, uni_none n1 n2⟩
            show (w1.heap.setIfInBounds bi _)[n]? = _
            rw [hw1, Array.getElem?_setIfInBounds_ne (Ne.symm n2)]
        · have hsz : w.heap.size ≤ (w1.heap.setIfInBounds bi (.mapIter (some b) clock (seen.push e0.2) clock)).size := by rw [hw1]; simp
          rcases g2 with rfl | rfl
          · exact ⟨rfl, rfl, rfl, hsz, by first | exact Nat.le_refl _ | exact Nat.le_succ _⟩
          · exact ⟨rfl, rfl, rfl, hsz, by first | exact Nat.le_refl _ | exact Nat.le_succ _⟩)
    (fun v Rs' h => by
      rcases h with ⟨g1, rfl, rfl⟩ | ⟨t1, p, t2, g1, rfl, rfl⟩
      · exact hK0 g1
      · exact hK1 t1 p t2 g1)

theorem OpTo_entry {x : Operand} {b bi : Nat} {al todo : List (κ × ν)} (p : κ × ν) (i : Nat) (ho : o.op = .entry x) (hx : ev l x = some (.v (.pointer (some ⟨bi, 0, none⟩)))) (hi : Rs[i]? = some (mpItR kE vE b bi al todo (some p)))
    (hK : setd E.N o.dst (.v (.tuple #[kE p.1, vE p.2])) l fun l' => K l' Rs) : OpTo E l Rs o K :=
  OpTo_run (Qo := fun v Rs' => v = .tuple #[kE p.1, vE p.2] ∧ Rs' = Rs)
    (fun a w hf hm hio => by
      obtain ⟨h, ⟨es, clock, seen, h1, h2, h3, h4, h5, h6⟩, hs, hset⟩ := hm.open_ hi
      subst h1
      have hb := hs _ _ (uni_at1 (bi := bi) (o2 := .mapIter (some b) clock seen clock))
      have hbi := hs _ _ (uni_at2 h2)
      obtain ⟨seen0, e, rfl, he, rfl⟩ := h6 p rfl
      have hnd : ((es.map (entV kE vE)).map (·.born)).Nodup := by
        have e1 : (es.map (entV kE vE)).map (·.born) = es.map (·.2) := by rw [List.map_map]; rfl
        rw [e1]
        exact List.pairwise_map.2 (h4.born.imp fun h => Nat.ne_of_lt h)
      have := run_entry_at (P := E.P) w bi b clock seen0 (es.map (entV kE vE)).toArray clock (entV kE vE e) hbi hb (by simpa using List.mem_map.2 ⟨e, he, rfl⟩) (by simpa using hnd)
      refine ⟨_, Rs, w, ?_, ⟨rfl, rfl⟩, hm, Oth.refl w⟩
      simp only [execOp, ho, ev_sound hf hx, SV.val, Sem.run_bind, this]
      rfl)
    (fun u Rs' ⟨h1, h2⟩ => by subst h1 h2; exact hK)
end
end Go.RX
