/- RX, part 2: frames by slots; what stands in them behind operations that touch no memory. -/
import Derived.Test.YthpcahgdobnljaaGreatRxHeap
import Derived.Laws.Rows
import Derived.WalkArith
set_option autoImplicit false
set_option linter.unusedVariables false
set_option linter.unusedSimpArgs false
namespace Go.RX
open Go

/-! ### slots -/
inductive SV where
  | v (x : Value)
  | tt
  | ff

def SV.val : SV → Value
  | .v x => x
  | .tt => .bool true
  | .ff => .bool false

abbrev L := List (Nat × SV)

def look : L → Nat → Option SV
  | [], _ => none
  | (d, s) :: r, t => match Nat.beq d t with
    | true => some s
    | false => look r t

structure Fr (N : Nat) (a : Act) (l : L) : Prop where
  defers : a.defers = []
  size : a.tmps.size = N
  at_ : ∀ t s, look l t = some s → a.tmps[t]? = some s.val

theorem Fr.put {N : Nat} {a : Act} {l : L} (h : Fr N a l) {d : Nat} (hd : d < N) (s : SV) : Fr N (a.put (some d) s.val) ((d, s) :: l) := by
  refine ⟨h.defers, by simp [Act.put, h.size], fun t s' e => ?_⟩
  simp only [look] at e
  cases hb : Nat.beq d t with
  | true =>
    rw [hb] at e
    have := Nat.eq_of_beq_eq_true hb
    subst this
    cases e
    simp [Act.put, h.size, hd]
  | false =>
    rw [hb] at e
    have hne : d ≠ t := Nat.ne_of_beq_eq_false hb
    simp only [Act.put]
    rw [Array.getElem?_setIfInBounds_ne hne]
    exact h.at_ t s' e

theorem Fr.mono {N : Nat} {a : Act} {l l' : L} (h : Fr N a l) (hl : ∀ t s, look l' t = some s → look l t = some s ∨ ∃ s', look l t = some s' ∧ s'.val = s.val) : Fr N a l' :=
  ⟨h.defers, h.size, fun t s e => by
    rcases hl t s e with e | ⟨s', e, k⟩
    · exact h.at_ t s e
    · rw [← k]; exact h.at_ t s' e⟩

/-- A slot's Bool is known: it may be written as such. -/
theorem Fr.dec {N : Nat} {a : Act} {l : L} (h : Fr N a l) {t : Nat} {s s' : SV} (e : look l t = some s) (k : s.val = s'.val) : Fr N a ((t, s') :: l) := by
  refine h.mono fun t' s1 e1 => ?_
  simp only [look] at e1
  cases hb : Nat.beq t t' with
  | true =>
    rw [hb] at e1
    have := Nat.eq_of_beq_eq_true hb
    subst this
    cases e1
    exact .inr ⟨s, e, k⟩
  | false => rw [hb] at e1; exact .inl e1

def constSV : Value → Option SV
  | .bool true => some .tt
  | .bool false => some .ff
  | v => some (.v v)
theorem constSV_val {v : Value} {s : SV} (h : constSV v = some s) : s.val = v := by
  unfold constSV at h
  split at h <;> cases h <;> rfl

def ev (l : L) : Operand → Option SV
  | .tmp t => look l t
  | .const v => constSV v
  | .global g => some (.v (.pointer (some ⟨g, 0, none⟩)))
  | .func f => some (.v (.func (.func f) #[] #[]))

theorem ev_sound {N : Nat} {a : Act} {l : L} (h : Fr N a l) {x : Operand} {s : SV} (e : ev l x = some s) : a.eval x = s.val := by
  cases x with
  | tmp t => simp only [ev] at e; simp [Act.eval, Array.getD_eq_getD_getElem?, h.at_ t s e]
  | const v => simp only [ev] at e; simp [Act.eval, constSV_val e]
  | global g => simp only [ev] at e; cases e; rfl
  | func f => simp only [ev] at e; cases e; rfl

def evs (l : L) : List Operand → Option (List Value)
  | [] => some []
  | x :: r => match ev l x with
    | some s => match evs l r with
      | some vs => some (s.val :: vs)
      | none => none
    | none => none

theorem evs_sound {N : Nat} {a : Act} {l : L} (h : Fr N a l) : ∀ {xs : List Operand} {vs : List Value}, evs l xs = some vs → xs.map a.eval = vs
  | [], vs, e => by simp only [evs] at e; cases e; rfl
  | x :: r, vs, e => by
    simp only [evs] at e
    split at e
    · rename_i s hs
      split at e
      · rename_i vs' hvs
        cases e
        simp [ev_sound h hs, evs_sound h hvs]
      · cases e
    · cases e

def evp (l : L) : List (Nat × Operand) → Option (List (Nat × Value))
  | [] => some []
  | (i, x) :: r => match ev l x with
    | some s => match evp l r with
      | some vs => some ((i, s.val) :: vs)
      | none => none
    | none => none

theorem evp_sound {N : Nat} {a : Act} {l : L} (h : Fr N a l) : ∀ {xs : List (Nat × Operand)} {vs : List (Nat × Value)}, evp l xs = some vs → (xs.map fun p => (p.1, a.eval p.2)) = vs
  | [], vs, e => by simp only [evp] at e; cases e; rfl
  | (i, x) :: r, vs, e => by
    simp only [evp] at e
    split at e
    · rename_i s hs
      split at e
      · rename_i vs' hvs
        cases e
        simp [ev_sound h hs, evp_sound h hvs]
      · cases e
    · cases e

/-! ### the types that the code names -/
inductive TK where
  | int (k : IntKind)
  | bool
  | str
  | ptr (e : TypeId)
  | slice (e : TypeId)
  | array (n : Nat) (e : TypeId)
  | map (k v : TypeId)
  | struct (fs : List (Nat × TypeId))
  | other

structure TyI where
  kind : TK
  size : Nat
  bytes : Nat
  zero : Value

abbrev Tab := List (Nat × TyI)

def tlook : Tab → Nat → Option TyI
  | [], _ => none
  | (d, s) :: r, t => match Nat.beq d t with
    | true => some s
    | false => tlook r t

def TK.agg : TK → Bool
  | .array .. => true
  | .struct _ => true
  | _ => false

def TK.ok (d : TypeDesc) : TK → Prop
  | .int k => d = .int k
  | .bool => d = .bool
  | .str => d = .string
  | .ptr e => d = .pointer e
  | .slice e => d = .slice e
  | .array n e => d = .array n e
  | .map k v => d = .map k v
  | .struct fs => ∃ fields, d = .struct fields ∧ (fields.toList.map fun f => (f.offset, f.type)) = fs
  | .other => (match d with | .struct _ => false | .array .. => false | _ => true) = true

structure TyI.ok (P : Program) (t : TypeId) (i : TyI) : Prop where
  desc : ∃ d, P.underlying t = some d ∧ i.kind.ok d
  info : (P.info? t).map (fun x => (x.size, x.bytes, x.zero)) = some (i.size, i.bytes, some i.zero)

def TabOk (P : Program) (tab : Tab) : Prop := ∀ t i, tlook tab t = some i → i.ok P t

theorem TabOk.nil (P : Program) : TabOk P [] := fun t i e => by cases e
theorem TabOk.cons {P : Program} {t : Nat} {i : TyI} {r : Tab} (h : i.ok P t) (hr : TabOk P r) : TabOk P ((t, i) :: r) := by
  intro t' i' e
  simp only [tlook] at e
  cases hb : Nat.beq t t' with
  | true => rw [hb] at e; have := Nat.eq_of_beq_eq_true hb; subst this; cases e; exact h
  | false => rw [hb] at e; exact hr _ _ e

section
variable {P : Program} {w : World}
theorem run_underlying' {t : TypeId} {d : TypeDesc} (h : P.underlying t = some d) : (underlying t).run P w = .ok d w := by
  simp [underlying, program, Sem.run, h]
theorem TyI.ok.run_info {t : TypeId} {i : TyI} (h : i.ok P t) : ∃ x : TypeInfo, (typeInfo t).run P w = .ok x w ∧ x.size = i.size ∧ x.bytes = i.bytes ∧ x.zero = some i.zero := by
  obtain ⟨x, hx, e⟩ := Option.map_eq_some_iff.1 h.info
  simp only [Prod.mk.injEq] at e
  exact ⟨x, by simp [typeInfo, program, Sem.run, hx], e.1, e.2.1, e.2.2⟩
theorem TyI.ok.run_size {t : TypeId} {i : TyI} (h : i.ok P t) : (sizeOf t).run P w = .ok i.size w := by
  obtain ⟨x, hx, e, _⟩ := h.run_info (w := w)
  simp [sizeOf, hx, e]
theorem TyI.ok.run_zero {t : TypeId} {i : TyI} (h : i.ok P t) : (zeroValue t).run P w = .ok i.zero w := by
  obtain ⟨x, hx, _, _, e⟩ := h.run_info (w := w)
  simp [zeroValue, hx, e]
theorem TyI.ok.run_agg {t : TypeId} {i : TyI} (h : i.ok P t) : (isAgg t).run P w = .ok i.kind.agg w := by
  obtain ⟨d, hd, k⟩ := h.desc
  simp only [isAgg, Sem.run_bind, run_underlying' hd, Result.andThen_ok]
  cases e : i.kind with
  | other =>
    rw [e] at k
    simp only [TK.ok] at k
    cases d <;> simp_all [TK.agg]
  | struct fs => rw [e] at k; obtain ⟨f, rfl, _⟩ := k; rfl
  | _ => rw [e] at k; simp only [TK.ok] at k; subst k; rfl
end

/-! ### lists of cells -/
def dropN : Nat → List Value → Option (List Value)
  | 0, r => some r
  | n + 1, _ :: r => dropN n r
  | _ + 1, [] => none
def takeN : Nat → List Value → Option (List Value)
  | 0, _ => some []
  | n + 1, x :: r => match takeN n r with
    | some s => some (x :: s)
    | none => none
  | _ + 1, [] => none
def splice : List Value → Nat → List Value → Option (List Value)
  | c :: cs, n + 1, vs => match splice cs n vs with
    | some s => some (c :: s)
    | none => none
  | [], _ + 1, _ => none
  | cs, 0, [] => some cs
  | _ :: cs, 0, v :: vs => match splice cs 0 vs with
    | some s => some (v :: s)
    | none => none
  | [], 0, _ :: _ => none
def cell1 : Value → Bool
  | .agg _ => false
  | .tuple _ => false
  | _ => true
def allOne : List Value → Bool
  | [] => true
  | v :: r => match cell1 v with
    | true => allOne r
    | false => false
theorem allOne_spec : ∀ {vs : List Value}, allOne vs = true → ∀ v ∈ vs, cell1 v = true
  | [], _, v, hv => by cases hv
  | x :: r, h, v, hv => by
    simp only [allOne] at h
    split at h
    · rcases List.mem_cons.1 hv with rfl | hv
      · assumption
      · exact allOne_spec h v hv
    · cases h

theorem dropN_spec : ∀ {n : Nat} {cs r : List Value}, dropN n cs = some r → n ≤ cs.length ∧ r = cs.drop n
  | 0, cs, r, h => by simp only [dropN] at h; cases h; simp
  | n + 1, [], r, h => by simp [dropN] at h
  | n + 1, x :: cs, r, h => by
    simp only [dropN] at h
    obtain ⟨h1, h2⟩ := dropN_spec h
    exact ⟨by simp; omega, by simp [h2]⟩
theorem takeN_spec : ∀ {n : Nat} {cs r : List Value}, takeN n cs = some r → n ≤ cs.length ∧ r = cs.take n
  | 0, cs, r, h => by simp only [takeN] at h; cases h; simp
  | n + 1, [], r, h => by simp [takeN] at h
  | n + 1, x :: cs, r, h => by
    simp only [takeN] at h
    split at h
    · rename_i s hs
      cases h
      obtain ⟨h1, h2⟩ := takeN_spec hs
      exact ⟨by simp; omega, by simp [h2]⟩
    · cases h
theorem splice_spec : ∀ {cs : List Value} {n : Nat} {vs r : List Value}, splice cs n vs = some r → n + vs.length ≤ cs.length ∧ r = cs.take n ++ vs ++ cs.drop (n + vs.length)
  | c :: cs, n + 1, vs, r, h => by
    simp only [splice] at h
    split at h
    · rename_i s hs
      cases h
      obtain ⟨h1, h2⟩ := splice_spec hs
      refine ⟨by simp; omega, ?_⟩
      rw [h2, show n + 1 + vs.length = (n + vs.length) + 1 from by omega]
      simp
    · cases h
  | [], n + 1, vs, r, h => by simp [splice] at h
  | [], 0, [], r, h => by simp only [splice] at h; cases h; simp
  | c :: cs, 0, [], r, h => by simp only [splice] at h; cases h; simp
  | c :: cs, 0, v :: vs, r, h => by
    simp only [splice] at h
    split at h
    · rename_i s hs
      cases h
      obtain ⟨h1, h2⟩ := splice_spec hs
      refine ⟨by simp at *; omega, ?_⟩
      rw [h2]
      simp
    · cases h
  | [], 0, v :: vs, r, h => by simp [splice] at h

/-! ### parts of a value of several cells -/
def fillL (place : Nat → Option (Nat × Nat)) : List Value → List (Nat × Value) → Option (List Value)
  | cells, [] => some cells
  | cells, (i, v) :: rest => match place i with
    | none => none
    | some (off, size) => match Nat.beq v.cells.toList.length size with
      | false => none
      | true => match splice cells off v.cells.toList with
        | some cells' => fillL place cells' rest
        | none => none

theorem foldl_set (vs : List Value) (off : Nat) : ∀ (k : Nat) (cs : Array Value), off + k + vs.length ≤ cs.size →
    (vs.zipIdx k).foldl (fun cs (x : Value × Nat) => cs.setIfInBounds (off + x.2) x.1) cs = (cs.toList.take (off + k) ++ vs ++ cs.toList.drop (off + k + vs.length)).toArray := by
  induction vs with
  | nil => intro k cs _; simp
  | cons v vs ih =>
    intro k cs h
    simp only [List.length_cons] at h
    simp only [List.zipIdx_cons, List.foldl_cons]
    rw [ih (k + 1) _ (by simp; omega)]
    congr 1
    have hk : off + k < cs.toList.length := by simp; omega
    apply List.ext_getElem?
    intro j
    simp only [Array.toList_setIfInBounds, List.getElem?_append, List.length_append, List.length_take, List.length_set, List.length_cons, List.getElem?_take, List.getElem?_set, List.getElem?_drop, Array.length_toList]
    have hs : cs.toList.length = cs.size := by simp
    rcases Nat.lt_trichotomy j (off + k) with hj | hj | hj
    · have h1 : j < min (off + (k + 1)) cs.size + vs.length := by omega
      have h2 : j < min (off + (k + 1)) cs.size := by omega
      have h3 : j < min (off + k) cs.size + (vs.length + 1) := by omega
      have h4 : j < min (off + k) cs.size := by omega
      have h5 : off + k ≠ j := by omega
      have h6 : j < off + (k + 1) := by omega
      simp [h1, h2, h3, h4, h5, h6, hj]
    · subst hj
      have h1 : off + k < min (off + (k + 1)) cs.size + vs.length := by omega
      have h2 : off + k < min (off + (k + 1)) cs.size := by omega
      have h3 : off + k < min (off + k) cs.size + (vs.length + 1) := by omega
      have h4 : ¬ off + k < min (off + k) cs.size := by omega
      have h5 : off + k - min (off + k) cs.size = 0 := by omega
      have h6 : off + k < off + (k + 1) := by omega
      simp [h1, h2, h3, h4, h5, h6]
      omega
    · have hm : min (off + (k + 1)) cs.size = off + k + 1 := by omega
      have hm' : min (off + k) cs.size = off + k := by omega
      rw [hm, hm']
      by_cases hlt : j < off + k + 1 + vs.length
      · have h1 : ¬ j < off + k + 1 := by omega
        have h2 : j < off + k + (vs.length + 1) := by omega
        have h3 : ¬ j < off + k := by omega
        have h4 : j - (off + k) = (j - (off + k + 1)) + 1 := by omega
        simp [hlt, h1, h2, h3, h4]
      · have h2 : ¬ j < off + k + (vs.length + 1) := by omega
        have h3 : off + k ≠ off + (k + 1) + vs.length + (j - (off + k + 1 + vs.length)) := by omega
        have h4 : off + (k + 1) + vs.length + (j - (off + k + 1 + vs.length)) = off + k + (vs.length + 1) + (j - (off + k + (vs.length + 1))) := by omega
        simp [hlt, h2, h3]
        congr 1

theorem fillL_sound (place : Nat → Option (Nat × Nat)) : ∀ (ps : List (Nat × Value)) (cs cs' : List Value), fillL place cs ps = some cs' → Instr.fill place cs.toArray ps = some cs'.toArray
  | [], cs, cs', h => by simp only [fillL] at h; cases h; rfl
  | (i, v) :: rest, cs, cs', h => by
    simp only [fillL] at h
    simp only [Instr.fill]
    cases hp : place i with
    | none => rw [hp] at h; cases h
    | some os =>
      obtain ⟨off, size⟩ := os
      rw [hp] at h
      simp only at h ⊢
      cases hb : Nat.beq v.cells.toList.length size with
      | false => rw [hb] at h; cases h
      | true =>
        rw [hb] at h
        have hsz := Nat.eq_of_beq_eq_true hb
        simp only at h
        cases hs : splice cs off v.cells.toList with
        | none => rw [hs] at h; cases h
        | some cells' =>
          rw [hs] at h
          simp only at h
          obtain ⟨h1, h2⟩ := splice_spec hs
          simp only [Array.length_toList] at hsz h1
          rw [if_neg (by simp; omega)]
          have hf := foldl_set v.cells.toList off 0 cs.toArray (by simp; omega)
          have hz : v.cells.zipIdx.foldl (fun cs (x : Value × Nat) => match x with | (c, j) => cs.setIfInBounds (off + j) c) cs.toArray = cells'.toArray := by
            rw [← Array.foldl_toList, Array.toList_zipIdx]
            rw [h2]
            simpa using hf
          rw [hz]
          exact fillL_sound place rest cells' cs' h

end Go.RX
