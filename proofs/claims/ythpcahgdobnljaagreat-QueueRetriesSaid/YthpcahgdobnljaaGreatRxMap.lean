/- RX, part 14: maps. -/
import Derived.Test.YthpcahgdobnljaaGreatRxFn
import Derived.MapKept
set_option autoImplicit false
set_option linter.unusedVariables false
set_option linter.unusedSimpArgs false
namespace Go.RX
open Go Go.RowKit

/-- A map that is owned: its entries in order, and the number that the next one gets. -/
def MapS (b : Nat) (es : List MapEntry) (clock : Nat) : HP := fun h => h = one b (.map es.toArray clock)
abbrev mapR (b : Nat) (es : List MapEntry) (clock : Nat) : Res := .hp (MapS b es clock)

theorem Mod.map_at {hfs : List PH} {Rs : List Res} {w : World} {i b : Nat} {es : List MapEntry} {clock : Nat} (hm : Mod hfs Rs w) (hi : Rs[i]? = some (mapR b es clock)) : w.heap[b]? = some (.map es.toArray clock) := by
  obtain ⟨h, h1, h2⟩ := hm.get hi
  cases h1
  exact h2 _ _ (one_same _ _)

theorem Mod.setMap {hfs : List PH} {Rs : List Res} {w w' : World} {i b : Nat} {es es' : List MapEntry} {clock clock' : Nat} (hm : Mod hfs Rs w) (hi : Rs[i]? = some (mapR b es clock))
    (hb : w'.heap[b]? = some (.map es'.toArray clock')) (hk : ∀ n, n ≠ b → w'.heap[n]? = w.heap[n]?) : Mod hfs (Rs.set i (mapR b es' clock')) w' :=
  hm.turn hi fun h h1 _ => by
    cases h1
    refine ⟨_, rfl, Sub.one hb, fun n _ hn => ?_⟩
    have hne : n ≠ b := fun e => by subst e; rw [one_same] at hn; cases hn
    exact ⟨hk n hne, one_ne _ hne⟩

theorem OpTo_makeMap {E : Env} {l : L} {Rs : List Res} {o : Oper} {K : L → List Res → Prop} {T : TypeId} (ho : o.op = .makeMap T none)
    (hK : ∀ b, E.w0.heap.size ≤ b → setd E.N o.dst (.v (.map (some b))) l fun l' => K l' (mapR b [] 0 :: Rs)) : OpTo E l Rs o K := by
  intro a w hf hm hio
  obtain ⟨l', k1, k2⟩ := setd_sound (hK w.heap.size hio.size) hf
  unfold Oper.wp
  have hrun : (execOp a.eval o).run E.P w = .ok (.value (.map (some w.heap.size))) { w with heap := w.heap.push (.map #[] 0) } := by
    simp only [execOp, ho]
    rfl
  rw [hrun]
  exact ⟨l', _, k1, k2, hm.add (h := one w.heap.size (.map #[] 0)) (fun n hn => by simp [Array.getElem?_push, Nat.ne_of_lt hn]) rfl (fun n hn => one_ne _ (Nat.ne_of_lt hn)) (Sub.one (by simp)), hio.trans (Oth.push w _)⟩

/-! ### maps of plain keys, typed -/
/-- How a key is a value, and of which type. -/
structure KeyOk {κ : Type} [DecidableEq κ] (P : Program) (t : TypeId) (kE : κ → Value) : Prop where
  desc : ∃ d, P.underlying t = some d ∧ (∀ a b, Instr.sameNow d (kE a) (kE b) = some (decide (a = b))) ∧ ∀ a, MapKept.IsKey d (kE a)

theorem keyOk_int {P : Program} {tab : Tab} (ht : TabOk P tab) {t : TypeId} {k : IntKind} (h : kindIs tab t = some (.int k)) : KeyOk P t (Value.int k) := by
  obtain ⟨d, hd, hk⟩ := kind_spec ht h
  simp only [TK.ok] at hk; subst hk
  refine ⟨_, hd, fun a b => ?_, fun a => rfl⟩
  simp only [Instr.sameNow, if_true]
  congr 1

theorem bytes_decide (a b : ByteArray) : (a == b) = decide (a = b) := by
  obtain ⟨⟨x⟩⟩ := a
  obtain ⟨⟨y⟩⟩ := b
  show ((⟨x⟩ : Array UInt8) == ⟨y⟩) = _
  by_cases h : x = y
  · subst h; simp
  · simp [h]

theorem keyOk_str {P : Program} {tab : Tab} (ht : TabOk P tab) {t : TypeId} (h : kindIs tab t = some .str) : KeyOk P t Value.string := by
  obtain ⟨d, hd, hk⟩ := kind_spec ht h
  simp only [TK.ok] at hk; subst hk
  refine ⟨_, hd, fun a b => ?_, fun a => trivial⟩
  simp only [Instr.sameNow, bytes_decide]

section
variable {κ ν : Type}
abbrev keys (al : List (κ × ν)) : List κ := al.map (·.1)
def entV (kE : κ → Value) (vE : ν → Value) (e : (κ × ν) × Nat) : MapEntry := { key := kE e.1.1, val := vE e.1.2, born := e.2 }

/-- A map's entries, each with its own number; no key twice. -/
structure EntOk (es : List ((κ × ν) × Nat)) (clock : Nat) : Prop where
  keys : (keys (es.map (·.1))).Nodup
  born : es.Pairwise fun a b => a.2 < b.2
  low : ∀ e ∈ es, e.2 < clock

theorem EntOk.nil : EntOk ([] : List ((κ × ν) × Nat)) 0 := ⟨by simp, by simp, by simp⟩
theorem EntOk.push {es : List ((κ × ν) × Nat)} {clock : Nat} (h : EntOk es clock) {k : κ} (v : ν) (hk : k ∉ RX.keys (es.map (·.1))) : EntOk (es ++ [((k, v), clock)]) (clock + 1) := by
  refine ⟨?_, ?_, ?_⟩
  · have : RX.keys ((es ++ [((k, v), clock)]).map (·.1)) = RX.keys (es.map (·.1)) ++ [k] := by simp [RX.keys]
    rw [this]
    refine List.nodup_append.2 ⟨h.keys, by simp, fun a ha b hb => ?_⟩
    simp at hb; subst hb
    exact fun e => hk (e ▸ ha)
  · refine List.pairwise_append.2 ⟨h.born, by simp, fun a ha b hb => ?_⟩
    simp at hb; subst hb
    exact h.low a ha
  · intro e he
    rcases List.mem_append.1 he with he | he
    · have := h.low e he; omega
    · simp at he; subst he; simp

theorem map_snd_modify {es : List ((κ × ν) × Nat)} {f : (κ × ν) × Nat → (κ × ν) × Nat} (hf : ∀ e, (f e).2 = e.2) (j : Nat) : (es.modify j f).map (·.2) = es.map (·.2) := by
  apply List.ext_getElem?
  intro i
  simp only [List.getElem?_map, List.getElem?_modify]
  cases es[i]? with
  | none => rfl
  | some e => by_cases h : j = i <;> simp [h, hf]

theorem EntOk.erase {es : List ((κ × ν) × Nat)} {clock : Nat} (h : EntOk es clock) (j : Nat) : EntOk (es.eraseIdx j) clock := by
  have hs := List.eraseIdx_sublist es j
  refine ⟨h.keys.sublist ((hs.map _).map _), h.born.sublist hs, fun e he => h.low e (hs.subset he)⟩

/-- A map that is owned. -/
def MpS (kE : κ → Value) (vE : ν → Value) (b : Nat) (al : List (κ × ν)) : HP := fun h => ∃ es clock, h = one b (.map (es.map (entV kE vE)).toArray clock) ∧ es.map (·.1) = al ∧ EntOk es clock
abbrev mpR (kE : κ → Value) (vE : ν → Value) (b : Nat) (al : List (κ × ν)) : Res := .hp (MpS kE vE b al)

section
variable {kE : κ → Value} {vE : ν → Value} {hfs : List PH} {Rs : List Res} {w : World} {i b : Nat} {al : List (κ × ν)}

theorem Mod.mp_nodup (hm : Mod hfs Rs w) (hi : Rs[i]? = some (mpR kE vE b al)) : (keys al).Nodup := by
  obtain ⟨h, ⟨es, clock, _, h2, h3⟩, _⟩ := hm.get hi
  rw [← h2]; exact h3.keys

theorem Mod.mp_at (hm : Mod hfs Rs w) (hi : Rs[i]? = some (mpR kE vE b al)) : ∃ es clock, w.heap[b]? = some (.map (es.map (entV kE vE)).toArray clock) ∧ es.map (·.1) = al ∧ EntOk es clock := by
  obtain ⟨h, ⟨es, clock, h1, h2, h3⟩, h4⟩ := hm.get hi
  exact ⟨es, clock, h4 _ _ (by rw [h1]; exact one_same _ _), h2, h3⟩

theorem Mod.mp_set (hm : Mod hfs Rs w) (hi : Rs[i]? = some (mpR kE vE b al)) {es' : List ((κ × ν) × Nat)} {clock' : Nat} {al' : List (κ × ν)} (he : es'.map (·.1) = al') (ho : EntOk es' clock') :
    Mod hfs (Rs.set i (mpR kE vE b al')) { w with heap := w.heap.setIfInBounds b (.map (es'.map (entV kE vE)).toArray clock') } :=
  hm.turn hi fun h ⟨es, clock, h1, h2, h3⟩ h4 => by
    subst h1
    have hb : w.heap[b]? = some _ := h4 _ _ (one_same _ _)
    refine ⟨one b (.map (es'.map (entV kE vE)).toArray clock'), ⟨es', clock', rfl, he, ho⟩, Sub.one (MapKept.heap_set hb).1, fun n _ hn => ?_⟩
    have hne : n ≠ b := fun e => by subst e; rw [one_same] at hn; cases hn
    exact ⟨(MapKept.heap_set hb).2 n hne, one_ne _ hne⟩

theorem Oth.setAt (w : World) (b : Nat) (o : Obj) : Oth w { w with heap := w.heap.setIfInBounds b o } := ⟨rfl, rfl, rfl, by simp, Nat.le_refl _⟩

theorem entV_modify (es : List ((κ × ν) × Nat)) (j : Nat) (k : κ) (v : ν) : (es.map (entV kE vE)).toArray.modify j (fun e => { e with key := kE k, val := vE v }) = ((es.modify j fun e => ((k, v), e.2)).map (entV kE vE)).toArray := by
  apply Array.toList_inj.1
  apply List.ext_getElem?
  intro n
  simp only [Array.toList_modify, List.getElem?_modify, List.getElem?_map]
  cases es[n]? with
  | none => rfl
  | some e => by_cases h : j = n <;> simp [h, entV]
end


theorem map_eraseIdx' {α β : Type} (f : α → β) : ∀ (es : List α) (j : Nat), (es.map f).eraseIdx j = (es.eraseIdx j).map f
  | [], j => by simp
  | e :: r, 0 => rfl
  | e :: r, j + 1 => by simp [map_eraseIdx' f r j]
section
variable {E : Env} {l : L} {Rs : List Res} {o : Oper} {K : L → List Res → Prop} {kE : κ → Value} {vE : ν → Value}
theorem kind_map {P : Program} {tab : Tab} (ht : TabOk P tab) {t kt et : TypeId} (h : kindIs tab t = some (.map kt et)) : P.underlying t = some (.map kt et) := by
  obtain ⟨d, hd, hk⟩ := kind_spec ht h
  simp only [TK.ok] at hk; subst hk; exact hd

theorem OpTo_mapLen (ht : TabOk E.P E.tab) {T kt et : TypeId} {x : Operand} {b : Nat} {al : List (κ × ν)} (i : Nat) (ho : o.op = .call { callee := .builtin .len, args := #[x], argTypes := #[T] }) (hx : ev l x = some (.v (.map (some b))))
    (hT : kindIs E.tab T = some (.map kt et)) (hi : Rs[i]? = some (mpR kE vE b al)) (hK : setd E.N o.dst (.v (.int .i64 al.length)) l fun l' => K l' Rs) : OpTo E l Rs o K :=
  OpTo_run (Qo := fun v Rs' => v = .int .i64 al.length ∧ Rs' = Rs)
    (fun a w hf hm hio => by
      obtain ⟨es, clock, h1, h2, h3⟩ := hm.mp_at hi
      have hu := run_underlying' (w := w) (kind_map ht hT)
      refine ⟨_, Rs, w, ?_, ⟨rfl, rfl⟩, hm, Oth.refl w⟩
      subst h2
      simp [execOp, ho, ev_sound hf hx, SV.val, resolve, invoke, builtin, Builtin.len_, hu, MapKept.run_getObj_map h1, goInt])
    (fun u Rs' ⟨h1, h2⟩ => by subst h1 h2; exact hK)

theorem OpTo_makeMp {T : TypeId} (ho : o.op = .makeMap T none) (hK : ∀ b, E.w0.heap.size ≤ b → setd E.N o.dst (.v (.map (some b))) l fun l' => K l' (mpR kE vE b [] :: Rs)) : OpTo E l Rs o K := by
  intro a w hf hm hio
  obtain ⟨l', k1, k2⟩ := setd_sound (hK w.heap.size hio.size) hf
  unfold Oper.wp
  have hrun : (execOp a.eval o).run E.P w = .ok (.value (.map (some w.heap.size))) { w with heap := w.heap.push (.map #[] 0) } := by
    simp only [execOp, ho]
    rfl
  rw [hrun]
  exact ⟨l', _, k1, k2, hm.add (h := one w.heap.size (.map #[] 0)) (fun n hn => by simp [Array.getElem?_push, Nat.ne_of_lt hn]) ⟨[], 0, rfl, rfl, EntOk.nil⟩ (fun n hn => one_ne _ (Nat.ne_of_lt hn)) (Sub.one (by simp)), hio.trans (Oth.push w _)⟩

def mapAns (ok : Bool) (zero : Value) (vE : ν → Value) (r : Option ν) : Value := match ok with
  | true => .tuple #[(r.map vE).getD zero, .bool r.isSome]
  | false => (r.map vE).getD zero

end
end

section
variable {κ ν : Type} [DecidableEq κ]

def aget (k : κ) : List (κ × ν) → Option ν
  | [] => none
  | p :: r => if p.1 = k then some p.2 else aget k r
def aset (k : κ) (v : ν) : List (κ × ν) → List (κ × ν)
  | [] => [(k, v)]
  | p :: r => if p.1 = k then (k, v) :: r else p :: aset k v r
def adel (k : κ) : List (κ × ν) → List (κ × ν)
  | [] => []
  | p :: r => if p.1 = k then r else p :: adel k r

theorem aget_none {k : κ} : ∀ {al : List (κ × ν)}, aget k al = none ↔ k ∉ keys al
  | [] => by simp [aget]
  | p :: r => by
    simp only [aget, keys, List.map_cons, List.mem_cons, not_or]
    by_cases h : p.1 = k
    · simp [h]
    · simp only [if_neg h]
      rw [aget_none]
      exact ⟨fun hh => ⟨fun e => h e.symm, hh⟩, fun hh => hh.2⟩
theorem aget_mem {k : κ} {v : ν} : ∀ {al : List (κ × ν)}, aget k al = some v → (k, v) ∈ al
  | [], h => by simp [aget] at h
  | p :: r, h => by
    simp only [aget] at h
    split at h
    · rename_i hk; cases h; subst hk; simp
    · exact List.mem_cons_of_mem _ (aget_mem h)
theorem aget_of_mem {k : κ} {v : ν} : ∀ {al : List (κ × ν)}, (keys al).Nodup → (k, v) ∈ al → aget k al = some v
  | p :: r, hn, h => by
    simp only [keys, List.map_cons, List.nodup_cons] at hn
    simp only [aget]
    rcases List.mem_cons.1 h with h | h
    · subst h; simp
    · have : p.1 ≠ k := fun e => hn.1 (e ▸ List.mem_map.2 ⟨_, h, rfl⟩)
      rw [if_neg this]
      exact aget_of_mem hn.2 h
theorem aset_new {k : κ} {v : ν} : ∀ {al : List (κ × ν)}, k ∉ keys al → aset k v al = al ++ [(k, v)]
  | [], _ => rfl
  | p :: r, h => by
    simp only [keys, List.map_cons, List.mem_cons, not_or] at h
    simp only [aset, if_neg (Ne.symm h.1), List.cons_append]
    rw [aset_new h.2]
theorem aset_keys {k : κ} {v : ν} : ∀ {al : List (κ × ν)}, k ∈ keys al → keys (aset k v al) = keys al
  | p :: r, h => by
    simp only [aset]
    split
    · rename_i hk; subst hk; simp [keys]
    · rename_i hk
      simp only [keys, List.map_cons, List.mem_cons] at h ⊢
      rcases h with h | h
      · exact absurd h.symm hk
      · exact congrArg _ (aset_keys h)
theorem aget_aset {k k' : κ} {v : ν} : ∀ {al : List (κ × ν)}, aget k' (aset k v al) = if k = k' then some v else aget k' al
  | [] => by simp [aset, aget]
  | p :: r => by
    simp only [aset]
    by_cases h : p.1 = k
    · rw [if_pos h]
      simp only [aget]
      by_cases h2 : k = k'
      · simp [h2]
      · simp [h2, h]
    · rw [if_neg h]
      simp only [aget, aget_aset]
      by_cases h2 : k = k'
      · subst h2; simp [h]
      · simp [h2]
theorem aset_nodup {k : κ} {v : ν} {al : List (κ × ν)} (h : (keys al).Nodup) : (keys (aset k v al)).Nodup := by
  by_cases hk : k ∈ keys al
  · rw [aset_keys hk]; exact h
  · rw [aset_new hk]
    simp only [keys, List.map_append, List.map_cons, List.map_nil]
    refine List.nodup_append.2 ⟨h, by simp, fun a ha b hb => ?_⟩
    simp at hb; subst hb
    exact fun e => hk (e ▸ ha)
theorem adel_sub {k : κ} : ∀ (al : List (κ × ν)), (adel k al).Sublist al
  | [] => List.Sublist.refl _
  | p :: r => by
    simp only [adel]
    split
    · exact List.sublist_cons_self _ _
    · exact (adel_sub r).cons_cons _
theorem adel_nodup {k : κ} {al : List (κ × ν)} (h : (keys al).Nodup) : (keys (adel k al)).Nodup := h.sublist ((adel_sub al).map _)
theorem adel_none {k : κ} : ∀ {al : List (κ × ν)}, k ∉ keys al → adel k al = al
  | [], _ => rfl
  | p :: r, h => by
    simp only [keys, List.map_cons, List.mem_cons, not_or] at h
    simp only [adel, if_neg (Ne.symm h.1)]
    rw [adel_none h.2]
theorem adel_filter {k : κ} : ∀ {al : List (κ × ν)}, (keys al).Nodup → adel k al = al.filter fun p => !decide (p.1 = k)
  | [], _ => rfl
  | p :: r, h => by
    simp only [keys, List.map_cons, List.nodup_cons] at h
    simp only [adel]
    split
    · rename_i hk
      rw [List.filter_cons_of_neg (by simp [hk])]
      symm
      refine List.filter_eq_self.2 fun q hq => ?_
      have : q.1 ≠ k := fun e => h.1 (hk ▸ e ▸ List.mem_map.2 ⟨q, hq, rfl⟩)
      simp [this]
    · rename_i hk
      rw [List.filter_cons_of_pos (by simp [hk]), adel_filter h.2]
theorem aget_adel {k k' : κ} {al : List (κ × ν)} (h : (keys al).Nodup) : aget k' (adel k al) = if k = k' then none else aget k' al := by
  induction al with
  | nil => simp [adel, aget]
  | cons p r ih =>
    simp only [keys, List.map_cons, List.nodup_cons] at h
    simp only [adel]
    by_cases hp : p.1 = k
    · rw [if_pos hp]
      by_cases h2 : k = k'
      · subst h2
        rw [if_pos rfl]
        exact aget_none.2 (hp ▸ h.1)
      · rw [if_neg h2]
        simp only [aget]
        rw [if_neg (fun e => h2 (hp ▸ e))]
    · rw [if_neg hp]
      simp only [aget, ih h.2]
      by_cases h2 : k = k'
      · subst h2; simp [hp]
      · simp [h2]

/-! #### entries -/
def mfind (k : κ) : List ((κ × ν) × Nat) → Nat → Option (Nat × ν)
  | [], _ => none
  | e :: r, i => if k = e.1.1 then some (i, e.1.2) else mfind k r (i + 1)

theorem findNow_mfind {d : TypeDesc} {kE : κ → Value} {vE : ν → Value} (hs : ∀ a b, Instr.sameNow d (kE a) (kE b) = some (decide (a = b))) (k : κ) : ∀ (es : List ((κ × ν) × Nat)) (i : Nat),
    Instr.findNow d (kE k) (es.map (entV kE vE)) i = some ((mfind k es i).map fun p => (p.1, vE p.2))
  | [], i => rfl
  | e :: r, i => by
    simp only [List.map_cons, Instr.findNow, entV, hs, mfind]
    by_cases h : k = e.1.1
    · simp [h]
    · simp only [h, decide_false, if_neg, not_false_eq_true]
      exact findNow_mfind hs k r (i + 1)

theorem mfind_spec (k : κ) : ∀ (es : List ((κ × ν) × Nat)) (i : Nat), (mfind k es i = none ∧ k ∉ keys (es.map (·.1))) ∨
    ∃ j v, mfind k es i = some (i + j, v) ∧ aget k (es.map (·.1)) = some v ∧ (∃ e, es[j]? = some e ∧ e.1.1 = k) ∧ (∀ u, (es.modify j fun e => ((k, u), e.2)).map (·.1) = aset k u (es.map (·.1))) ∧ (es.eraseIdx j).map (·.1) = adel k (es.map (·.1))
  | [], i => .inl ⟨rfl, by simp⟩
  | e :: r, i => by
    simp only [mfind]
    by_cases h : k = e.1.1
    · subst h
      refine .inr ⟨0, e.1.2, by simp, by simp [aget], ⟨e, by simp, rfl⟩, fun u => by simp [aset, List.modify], by simp [adel]⟩
    · rw [if_neg h]
      have h' : ¬ e.1.1 = k := fun hh => h hh.symm
      rcases mfind_spec k r (i + 1) with ⟨h1, h2⟩ | ⟨j, v, h1, h2, h3, h4, h5⟩
      · exact .inl ⟨h1, by simp only [keys, List.map_cons, List.mem_cons, not_or]; exact ⟨h, h2⟩⟩
      · refine .inr ⟨j + 1, v, by rw [h1]; congr 2; omega, by simp [aget, h', h2], by simpa using h3, fun u => ?_, ?_⟩
        · simp only [List.map_cons, aset, if_neg h']
          rw [← h4 u]; simp [List.modify]
        · simp only [List.eraseIdx_cons_succ, List.map_cons, adel, if_neg h']
          rw [h5]

theorem EntOk.modify {es : List ((κ × ν) × Nat)} {clock : Nat} (h : EntOk es clock) {k : κ} {v : ν} {j : Nat} (hj : (es.modify j fun e => ((k, v), e.2)).map (·.1) = aset k v (es.map (·.1))) : EntOk (es.modify j fun e => ((k, v), e.2)) clock := by
  have hm := map_snd_modify (es := es) (f := fun e => ((k, v), e.2)) (fun _ => rfl) j
  refine ⟨by rw [hj]; exact aset_nodup h.keys, ?_, fun e he => ?_⟩
  · have h1 : (es.map (·.2)).Pairwise (· < ·) := List.pairwise_map.2 h.born
    rw [← hm] at h1
    exact List.pairwise_map.1 h1
  · have : e.2 ∈ (es.modify j fun e => ((k, v), e.2)).map (·.2) := List.mem_map.2 ⟨e, he, rfl⟩
    rw [hm] at this
    obtain ⟨e', h1, h2⟩ := List.mem_map.1 this
    rw [← h2]; exact h.low e' h1

variable {E : Env} {l : L} {Rs : List Res} {o : Oper} {K : L → List Res → Prop} {kE : κ → Value} {vE : ν → Value}

theorem OpTo_lookup (ht : TabOk E.P E.tab) {T kt et : TypeId} {x ix : Operand} {ok : Bool} {b : Nat} {al : List (κ × ν)} {ti : TyI} {s : SV} (k : κ) (r : Option ν) (hr : aget k al = r) (i : Nat) (ho : o.op = .lookup T x ix ok) (hx : ev l x = some (.v (.map (some b)))) (hix : ev l ix = some s) (hs : s.val = kE k)
    (hT : kindIs E.tab T = some (.map kt et)) (hk : KeyOk E.P kt kE) (hti : tlook E.tab et = some ti) (hi : Rs[i]? = some (mpR kE vE b al))
    (hK : setd E.N o.dst (.v (mapAns ok ti.zero vE r)) l fun l' => K l' Rs) : OpTo E l Rs o K := by
  subst hr
  exact OpTo_run (Qo := fun v Rs' => v = mapAns ok ti.zero vE (aget k al) ∧ Rs' = Rs)
    (fun a w hf hm hio => by
      obtain ⟨es, clock, h1, h2, h3⟩ := hm.mp_at hi
      obtain ⟨d, hd, hsame, hkey⟩ := hk.desc
      have hfind := MapKept.run_findKey (P := E.P) (w := w) hd (findNow_mfind (vE := vE) hsame k es 0)
      have hz := (ht _ _ hti).run_zero (w := w)
      have hu := run_underlying' (w := w) (kind_map ht hT)
      refine ⟨_, Rs, w, ?_, ⟨rfl, rfl⟩, hm, Oth.refl w⟩
      have hlook : (Instr.lookup T (.map (some b)) (kE k) ok).run E.P w = .ok (mapAns ok ti.zero vE (aget k al)) w := by
        subst h2
        rcases mfind_spec k es 0 with ⟨m1, m2⟩ | ⟨j, v, m1, m2, _⟩
        · rw [m1] at hfind
          have : aget k (es.map (·.1)) = none := aget_none.2 m2
          cases ok <;> simp [Instr.lookup, hu, MapKept.run_getObj_map h1, MapKept.run_checkKey hd (hkey k), hfind, hz, this, mapAns]
        · rw [m1] at hfind
          cases ok <;> simp [Instr.lookup, hu, MapKept.run_getObj_map h1, MapKept.run_checkKey hd (hkey k), hfind, m2, mapAns]
      have hs' : s.val = kE k := hs
      simp only [execOp, ho, ev_sound hf hx, ev_sound hf hix, hs', Sem.run_bind]
      rw [show (SV.v (Value.map (some b))).val = .map (some b) from rfl, hlook]
      rfl)
    (fun u Rs' ⟨h1, h2⟩ => by subst h1 h2; exact hK)

theorem OpTo_mapUpdate (ht : TabOk E.P E.tab) {T kt et : TypeId} {x ix y : Operand} {b : Nat} {al : List (κ × ν)} {s u : SV} (k : κ) (v : ν) (i : Nat) (ho : o.op = .mapUpdate T x ix y) (hd0 : o.dst = none) (hx : ev l x = some (.v (.map (some b)))) (hix : ev l ix = some s) (hs : s.val = kE k) (hy : ev l y = some u) (hv : u.val = vE v)
    (hT : kindIs E.tab T = some (.map kt et)) (hk : KeyOk E.P kt kE) (hi : Rs[i]? = some (mpR kE vE b al)) (hK : K l (Rs.set i (mpR kE vE b (aset k v al)))) : OpTo E l Rs o K :=
  OpTo_skip (Qo := fun Rs' => Rs' = Rs.set i (mpR kE vE b (aset k v al))) hd0
    (fun a w hf hm hio => by
      obtain ⟨es, clock, h1, h2, h3⟩ := hm.mp_at hi
      obtain ⟨d, hd, hsame, hkey⟩ := hk.desc
      have hfind := MapKept.run_findKey (P := E.P) (w := w) hd (findNow_mfind (vE := vE) hsame k es 0)
      have hu := run_underlying' (w := w) (kind_map ht hT)
      subst h2
      have hex : ∀ w', (Instr.mapUpdate T (.map (some b)) (kE k) (vE v)).run E.P w = .ok () w' → (execOp a.eval o).run E.P w = .ok .skip w' := by
        intro w' h
        simp only [execOp, ho, ev_sound hf hx, ev_sound hf hix, ev_sound hf hy, hs, hv, Sem.run_bind]
        rw [show (SV.v (Value.map (some b))).val = .map (some b) from rfl, h]
        rfl
      rcases mfind_spec k es 0 with ⟨m1, m2⟩ | ⟨j, v0, m1, m2, ⟨e, m3, m3'⟩, m4, m5⟩
      · rw [m1] at hfind
        refine ⟨_, _, hex _ ?_, rfl, hm.mp_set hi (es' := es ++ [((k, v), clock)]) (clock' := clock + 1) (by rw [aset_new m2]; simp) (h3.push v m2), Oth.setAt _ _ _⟩
        simp [Instr.mapUpdate, hu, MapKept.run_getObj_map h1, MapKept.run_checkKey hd (hkey k), hfind, MapKept.run_setObj_map _ h1, entV]
      · rw [m1] at hfind
        have he : ((es.map (entV kE vE)).toArray[j]?) = some (entV kE vE e) := by simp [m3]
        have hkk : (entV kE vE e).key = kE k := by simp [entV, m3']
        refine ⟨_, _, hex _ ?_, rfl, hm.mp_set hi (es' := es.modify j fun e => ((k, v), e.2)) (clock' := clock) (m4 v) (h3.modify (m4 v)), Oth.setAt _ _ _⟩
        rw [← entV_modify]
        simp [Instr.mapUpdate, hu, MapKept.run_getObj_map h1, MapKept.run_checkKey hd (hkey k), hfind, m3, hkk, MapKept.run_keyThatStays (hkey k), MapKept.run_setObj_map _ h1])
    (fun Rs' h => by subst h; exact hK)

theorem OpTo_mapDel (ht : TabOk E.P E.tab) {T T2 kt et : TypeId} {x ix : Operand} {b : Nat} {al : List (κ × ν)} {s : SV} (k : κ) (i : Nat) (ho : o.op = .call { callee := .builtin .delete, args := #[x, ix], argTypes := #[T, T2] }) (hx : ev l x = some (.v (.map (some b)))) (hix : ev l ix = some s) (hs : s.val = kE k)
    (hT : kindIs E.tab T = some (.map kt et)) (hk : KeyOk E.P kt kE) (hi : Rs[i]? = some (mpR kE vE b al)) (hK : setd E.N o.dst (.v (.tuple #[])) l fun l' => K l' (Rs.set i (mpR kE vE b (adel k al)))) : OpTo E l Rs o K :=
  OpTo_run (Qo := fun v Rs' => v = .tuple #[] ∧ Rs' = Rs.set i (mpR kE vE b (adel k al)))
    (fun a w hf hm hio => by
      obtain ⟨es, clock, h1, h2, h3⟩ := hm.mp_at hi
      obtain ⟨d, hd, hsame, hkey⟩ := hk.desc
      have hfind := MapKept.run_findKey (P := E.P) (w := w) hd (findNow_mfind (vE := vE) hsame k es 0)
      have hu := run_underlying' (w := w) (kind_map ht hT)
      subst h2
      have hex : ∀ w', (Builtin.delete_ #[T, T2] o.type #[.map (some b), kE k]).run E.P w = .ok (.tuple #[]) w' → (execOp a.eval o).run E.P w = .ok (.value (.tuple #[])) w' := by
        intro w' h
        have e1 : a.eval x = .map (some b) := ev_sound hf hx
        have e2 : a.eval ix = kE k := (ev_sound hf hix).trans hs
        simp only [execOp, ho, Sem.run_bind, resolve, invoke, builtin]
        simp [e1, e2, h]
      rcases mfind_spec k es 0 with ⟨m1, m2⟩ | ⟨j, v0, m1, m2, ⟨e, m3, m3'⟩, m4, m5⟩
      · rw [m1] at hfind
        refine ⟨_, _, _, hex _ ?_, ⟨rfl, rfl⟩, hm.mp_set hi (es' := es) (clock' := clock) (adel_none m2).symm h3, Oth.setAt _ _ _⟩
        simp [Builtin.delete_, hu, MapKept.run_getObj_map h1, MapKept.run_checkKey hd (hkey k), hfind, MapKept.run_setObj_map _ h1]
      · rw [m1] at hfind
        refine ⟨_, _, _, hex _ ?_, ⟨rfl, rfl⟩, hm.mp_set hi (es' := es.eraseIdx j) (clock' := clock) m5 (h3.erase j), Oth.setAt _ _ _⟩
        have he : (es.map (entV kE vE)).toArray.eraseIdxIfInBounds j = ((es.eraseIdx j).map (entV kE vE)).toArray := by
          simp [map_eraseIdx']
        rw [← he]
        simp [Builtin.delete_, hu, MapKept.run_getObj_map h1, MapKept.run_checkKey hd (hkey k), hfind, MapKept.run_setObj_map _ h1])
    (fun u Rs' ⟨h1, h2⟩ => by subst h1 h2; exact hK)
end
end Go.RX
