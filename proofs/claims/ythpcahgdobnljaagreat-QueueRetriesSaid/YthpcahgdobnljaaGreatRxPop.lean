/- RX, part 4: the operations that touch no memory, all of them under one function. -/
import Derived.Test.YthpcahgdobnljaaGreatRxPure
import Derived.Laws.Pointers
set_option autoImplicit false
set_option linter.unusedVariables false
set_option linter.unusedSimpArgs false
namespace Go.RX
open Go

/-- What operation 'op' leaves, in whatever world. -/
def Leaves (P : Program) (a : Act) (op : Op) (s : SV) : Prop := ∀ (w : World) (o : Oper), o.op = op → (execOp a.eval o).run P w = .ok (.value s.val) w

def nth {α : Type} : List α → Nat → Option α
  | [], _ => none
  | x :: _, 0 => some x
  | _ :: r, n + 1 => nth r n
theorem nth_eq {α : Type} : ∀ (l : List α) (n : Nat), nth l n = l[n]?
  | [], n => by simp [nth]
  | x :: r, 0 => by simp [nth]
  | x :: r, n + 1 => by simp [nth, nth_eq r n]

def kindIs (tab : Tab) (t : Nat) : Option TK := match tlook tab t with
  | some i => some i.kind
  | none => none

section parts
variable {P : Program} {tab : Tab} {N : Nat} {a : Act} {l : L} {K : SV → Prop} {X : Prop}

/-! #### moves -/
def popMove (l : L) (x : Operand) (K : SV → Prop) : Option Prop := match ev l x with
  | some s => some (K s)
  | none => none
theorem popMove_sound (hf : Fr N a l) {x : Operand} (h : popMove l x K = some X) (hx : X) : ∃ s, K s ∧ Leaves P a (.move x) s ∧ Leaves P a (.assign x) s := by
  unfold popMove at h
  split at h
  · rename_i s hs
    cases h
    refine ⟨s, hx, fun w o ho => ?_, fun w o ho => ?_⟩ <;> simp [execOp, ho, ev_sound hf hs]
  · cases h

def popPick (l : L) (c x y : Operand) (K : SV → Prop) : Option Prop := match ev l c with
  | some .tt => popMove l x K
  | some .ff => popMove l y K
  | some (.v (.bool b)) => match ev l x, ev l y with
    | some s, some t => some ((b = true → K s) ∧ (b = false → K t))
    | _, _ => none
  | _ => none
theorem popPick_sound (hf : Fr N a l) {c x y : Operand} (h : popPick l c x y K = some X) (hx : X) : ∃ s, K s ∧ Leaves P a (.pick c x y) s := by
  unfold popPick at h
  split at h
  · rename_i hc
    unfold popMove at h
    split at h
    · rename_i s hs
      cases h
      exact ⟨s, hx, fun w o ho => by simp [execOp, ho, ev_sound hf hs, ev_sound hf hc, SV.val, asBool]⟩
    · cases h
  · rename_i hc
    unfold popMove at h
    split at h
    · rename_i s hs
      cases h
      exact ⟨s, hx, fun w o ho => by simp [execOp, ho, ev_sound hf hs, ev_sound hf hc, SV.val, asBool]⟩
    · cases h
  · rename_i b hc
    split at h
    · rename_i s t hs ht
      cases h
      cases b
      · exact ⟨t, hx.2 rfl, fun w o ho => by simp [execOp, ho, ev_sound hf ht, ev_sound hf hc, SV.val, asBool]⟩
      · exact ⟨s, hx.1 rfl, fun w o ho => by simp [execOp, ho, ev_sound hf hs, ev_sound hf hc, SV.val, asBool]⟩
    · cases h
  · cases h

/-! #### nil checks, signs -/
def popNil (l : L) (x : Operand) (K : SV → Prop) : Option Prop := match ev l x with
  | some (.v (.pointer (some p))) => some (K (.v (.pointer (some p))))
  | some (.v (.func (.func f) u v)) => some (K (.v (.func (.func f) u v)))
  | _ => none
theorem popNil_sound (hf : Fr N a l) {x : Operand} (h : popNil l x K = some X) (hx : X) : ∃ s, K s ∧ Leaves P a (.nilCheck x) s := by
  unfold popNil at h
  split at h
  · rename_i p hs
    cases h
    exact ⟨_, hx, fun w o ho => by simp [execOp, ho, ev_sound hf hs, SV.val]⟩
  · rename_i f u v hs
    cases h
    exact ⟨_, hx, fun w o ho => by simp [execOp, ho, ev_sound hf hs, SV.val]⟩
  · cases h

def popUn (l : L) (op : UnOp) (x : Operand) (K : SV → Prop) : Option Prop := match op, ev l x with
  | .not, some .tt => some (K .ff)
  | .not, some .ff => some (K .tt)
  | .not, some (.v (.bool b)) => some (K (.v (.bool (!b))))
  | .neg, some (.v (.int k n)) => some (∃ z, z = k.wrap (0 - n) ∧ K (.v (.int k z)))
  | _, _ => none
theorem popUn_sound (hf : Fr N a l) {op : UnOp} {t : TypeId} {x : Operand} (h : popUn l op x K = some X) (hx : X) : ∃ s, K s ∧ Leaves P a (.unOp op t x) s := by
  unfold popUn at h
  split at h
  · rename_i hs; cases h; exact ⟨_, hx, fun w o ho => by simp [execOp, ho, ev_sound hf hs, SV.val, Op.unary]⟩
  · rename_i hs; cases h; exact ⟨_, hx, fun w o ho => by simp [execOp, ho, ev_sound hf hs, SV.val, Op.unary]⟩
  · rename_i hs; cases h; exact ⟨_, hx, fun w o ho => by simp [execOp, ho, ev_sound hf hs, SV.val, Op.unary]⟩
  · rename_i hs; cases h
    obtain ⟨z, rfl, hk⟩ := hx
    exact ⟨_, hk, fun w o ho => by simp [execOp, ho, ev_sound hf hs, SV.val, Op.unary, Op.intArith]⟩
  · cases h

/-! #### two operands -/
def ptrEq (op : BinOp) (same : Bool) (K : SV → Prop) : Option Prop := match op, same with
  | .eql, true => some (K .tt)
  | .eql, false => some (K .ff)
  | .neq, true => some (K .ff)
  | .neq, false => some (K .tt)
  | _, _ => none

def popBin2 (tab : Tab) (op : BinOp) (t : TypeId) (x y : Value) (K : SV → Prop) : Option Prop := match x, y with
  | .pointer none, .pointer none => match kindIs tab t with
    | some (.ptr _) => ptrEq op true K
    | _ => none
  | .pointer (some _), .pointer none => match kindIs tab t with
    | some (.ptr _) => ptrEq op false K
    | _ => none
  | .bool p, .bool q => match kindIs tab t, op with
    | some .bool, .eql => some (K (.v (.bool (p == q))))
    | some .bool, .neq => some (K (.v (.bool (!(p == q)))))
    | _, _ => none
  | .slice q _ _, .slice none 0 0 => match kindIs tab t, op with
    | some (.slice _), .eql => some (K (.v (.bool q.isNone)))
    | some (.slice _), .neq => some (K (.v (.bool (!q.isNone))))
    | _, _ => none
  | x, y => vbin op x y K

theorem kind_spec (ht : TabOk P tab) {t : Nat} {k : TK} (h : kindIs tab t = some k) : ∃ d, P.underlying t = some d ∧ k.ok d := by
  unfold kindIs at h
  split at h
  · rename_i i hi
    cases h
    exact (ht t i hi).desc
  · cases h

theorem equalIn_bool (d : Nat) {t : TypeId} (hd : P.underlying t = some .bool) (p q : Bool) (w : World) : (Op.equalIn (d + 1) t (.bool p) (.bool q)).run P w = .ok (p == q) w := by
  simp [Op.equalIn, run_underlying' hd]

theorem run_equal_slice_nil' {t e : TypeId} {a : Option Addr} {l c : Nat} (h : P.underlying t = some (.slice e)) (w : World) : (Op.equal t (.slice a l c) (.slice none 0 0)).run P w = .ok a.isNone w := by
  have : ∀ d, (Op.equalIn (d + 1) t (.slice a l c) (.slice none 0 0)).run P w = .ok a.isNone w := fun d => by cases a <;> simp [Op.equalIn, run_underlying' h]
  exact this 9999

theorem popBin2_sound (ht : TabOk P tab) {op : BinOp} {t : TypeId} {x y : Value} (h : popBin2 tab op t x y K = some X) (hx : X) :
    ∃ s, K s ∧ ∀ (p q : Operand) (w : World), (binRun op t p q x y).run P w = .ok s.val w := by
  have ptr : ∀ {e : TypeId} (q : Option Addr) (same : Bool), kindIs tab t = some (.ptr e) → q.isNone = same → ptrEq op same K = some X → ∃ s, K s ∧ ∀ (p p' : Operand) (w : World), (binRun op t p p' (.pointer q) (.pointer none)).run P w = .ok s.val w := by
    intro e q same hk hq he
    obtain ⟨d, hd, k⟩ := kind_spec ht hk
    simp only [TK.ok] at k
    subst k
    have hp : P.underlying t = some (.pointer (P.pointee t)) := by rw [hd]; simp [Program.pointee, hd]
    unfold ptrEq at he
    split at he <;> cases he <;> refine ⟨_, hx, fun p p' w => ?_⟩ <;> simp [binRun, eqGuard_pointer, run_eql_pointer_nil _ _ _ hp, run_neq_pointer_nil _ _ _ hp, SV.val, hq]
  unfold popBin2 at h
  split at h
  · split at h
    · rename_i e hk
      exact ptr none true hk rfl h
    · cases h
  · rename_i q
    split at h
    · rename_i e hk
      exact ptr (some q) false hk rfl h
    · cases h
  · rename_i p q
    split at h
    · rename_i hk
      obtain ⟨d, hd, k⟩ := kind_spec ht hk
      simp only [TK.ok] at k
      subst k
      cases h
      refine ⟨_, hx, fun p' q' w => ?_⟩
      have : (Op.equal t (.bool p) (.bool q)).run P w = .ok (p == q) w := equalIn_bool 9999 hd p q w
      simp [binRun, eqGuard_bool, binOp, this, SV.val]
    · rename_i hk
      obtain ⟨d, hd, k⟩ := kind_spec ht hk
      simp only [TK.ok] at k
      subst k
      cases h
      refine ⟨_, hx, fun p' q' w => ?_⟩
      have : (Op.equal t (.bool p) (.bool q)).run P w = .ok (p == q) w := equalIn_bool 9999 hd p q w
      simp [binRun, eqGuard_bool, binOp, this, SV.val]
    · cases h
  · rename_i q n c
    split at h
    · rename_i e hk
      obtain ⟨d, hd, k⟩ := kind_spec ht hk
      simp only [TK.ok] at k
      subst k
      cases h
      refine ⟨_, hx, fun p' q' w => ?_⟩
      have : (Op.equal t (.slice q n c) (.slice none 0 0)).run P w = .ok q.isNone w := run_equal_slice_nil' hd w
      simp only [binRun, Sem.run_bind, eqGuard_func P w .eql t p' q' (.slice q n c) (by simp) (by simp) (.slice none 0 0), Result.andThen_ok, binOp, this, Sem.run_pure, SV.val]
    · rename_i e hk
      obtain ⟨d, hd, k⟩ := kind_spec ht hk
      simp only [TK.ok] at k
      subst k
      cases h
      refine ⟨_, hx, fun p' q' w => ?_⟩
      have : (Op.equal t (.slice q n c) (.slice none 0 0)).run P w = .ok q.isNone w := run_equal_slice_nil' hd w
      simp only [binRun, Sem.run_bind, eqGuard_func P w .neq t p' q' (.slice q n c) (by simp) (by simp) (.slice none 0 0), Result.andThen_ok, binOp, this, Sem.run_pure, SV.val]
    · cases h
  · obtain ⟨s, h1, h2⟩ := vbin_sound (P := P) h hx
    exact ⟨s, h1, fun p q w => h2 t p q w⟩

def popBin (tab : Tab) (l : L) (op : BinOp) (t : TypeId) (x y : Operand) (K : SV → Prop) : Option Prop := match ev l x, ev l y with
  | some s, some u => popBin2 tab op t s.val u.val K
  | _, _ => none
theorem popBin_sound (ht : TabOk P tab) (hf : Fr N a l) {op : BinOp} {t u : TypeId} {x y : Operand} (h : popBin tab l op t x y K = some X) (hx : X) : ∃ s, K s ∧ Leaves P a (.binOp op t x y u) s := by
  unfold popBin at h
  split at h
  · rename_i s v hs hv
    obtain ⟨r, hr, hrun⟩ := popBin2_sound ht h hx
    refine ⟨r, hr, fun w o ho => ?_⟩
    have := hrun x y w
    simp only [binRun] at this
    simp only [execOp, ho, ev_sound hf hs, ev_sound hf hv]
    rw [Sem.run_bind, this]
    rfl
  · cases h

/-! #### addresses -/
def popFieldAddr (tab : Tab) (l : L) (t : TypeId) (x : Operand) (f : Nat) (K : SV → Prop) : Option Prop := match kindIs tab t with
  | some (.struct fs) => match nth fs f with
    | some (off, ft) => match tlook tab ft with
      | some i => match Nat.beq i.size 0 with
        | true => none
        | false => match ev l x with
          | some (.v (.pointer (some p))) => some (K (.v (.pointer (some (addA p off)))))
          | _ => none
      | none => none
    | none => none
  | _ => none

theorem struct_field (ht : TabOk P tab) {t : Nat} {fs : List (Nat × TypeId)} (h : kindIs tab t = some (.struct fs)) {f off : Nat} {ft : TypeId} (hn : nth fs f = some (off, ft)) :
    ∃ (fields : Array Field) (fl : Field), P.underlying t = some (.struct fields) ∧ fields[f]? = some fl ∧ fl.offset = off ∧ fl.type = ft := by
  obtain ⟨d, hd, fields, rfl, hfs⟩ := kind_spec ht h
  rw [nth_eq, ← hfs, List.getElem?_map] at hn
  obtain ⟨fl, h1, h2⟩ := Option.map_eq_some_iff.1 hn
  simp only [Prod.mk.injEq] at h2
  exact ⟨fields, fl, hd, by simpa using h1, h2.1, h2.2⟩

theorem popFieldAddr_sound (ht : TabOk P tab) (hf : Fr N a l) {t : TypeId} {x : Operand} {f : Nat} (h : popFieldAddr tab l t x f K = some X) (hx : X) : ∃ s, K s ∧ Leaves P a (.fieldAddr t x f) s := by
  unfold popFieldAddr at h
  split at h <;> try (cases h; done)
  rename_i fs hk
  split at h <;> try (cases h; done)
  rename_i off ft hn
  split at h <;> try (cases h; done)
  rename_i i hi
  split at h <;> try (cases h; done)
  rename_i hz
  split at h <;> try (cases h; done)
  rename_i p hp
  cases h
  obtain ⟨fields, fl, h1, h2, h3, h4⟩ := struct_field ht hk hn
  have hsz := (ht _ _ hi)
  refine ⟨_, hx, fun w o ho => ?_⟩
  have hz' : i.size ≠ 0 := Nat.ne_of_beq_eq_false hz
  subst h3 h4
  simp [execOp, ho, ev_sound hf hp, SV.val, Instr.fieldAt, run_underlying' h1, h2, Instr.sureAddr, fieldPlace, hsz.run_size, hz', addA_eq]

def popIndexAddr (tab : Tab) (l : L) (t : TypeId) (x ix : Operand) (K : SV → Prop) : Option Prop := match kindIs tab t with
  | some (.slice e) => match tlook tab e with
    | some i => match ev l x, ev l ix with
      | some (.v (.slice (some p) len cap)), some (.v (.int k n)) => some ((0 ≤ n ∧ n < (len : Int)) ∧ K (.v (.pointer (some (addA p (n.toNat * i.size))))))
      | _, _ => none
    | none => none
  | some (.array m e) => match tlook tab e with
    | some i => match ev l x, ev l ix with
      | some (.v (.pointer (some p))), some (.v (.int k n)) => some ((0 ≤ n ∧ n < (m : Int)) ∧ K (.v (.pointer (some (addA p (n.toNat * i.size))))))
      | _, _ => none
    | none => none
  | _ => none

theorem popIndexAddr_sound (ht : TabOk P tab) (hf : Fr N a l) {t : TypeId} {x ix : Operand} (h : popIndexAddr tab l t x ix K = some X) (hx : X) : ∃ s, K s ∧ Leaves P a (.indexAddr t x ix) s := by
  unfold popIndexAddr at h
  split at h
  · rename_i e hk
    split at h <;> try (cases h; done)
    rename_i i hi
    split at h <;> try (cases h; done)
    rename_i p len cap k n hp hn
    cases h
    obtain ⟨hb, hx⟩ := hx
    obtain ⟨d, hd, hk'⟩ := kind_spec ht hk
    simp only [TK.ok] at hk'
    subst hk'
    refine ⟨_, hx, fun w o ho => ?_⟩
    simp [execOp, ho, ev_sound hf hp, ev_sound hf hn, SV.val, Instr.indexAt, asIntOf, run_underlying' hd, hb, (ht _ _ hi).run_size, addA_eq]
  · rename_i m e hk
    split at h <;> try (cases h; done)
    rename_i i hi
    split at h <;> try (cases h; done)
    rename_i p k n hp hn
    cases h
    obtain ⟨hb, hx⟩ := hx
    obtain ⟨d, hd, hk'⟩ := kind_spec ht hk
    simp only [TK.ok] at hk'
    subst hk'
    refine ⟨_, hx, fun w o ho => ?_⟩
    simp [execOp, ho, ev_sound hf hp, ev_sound hf hn, SV.val, Instr.indexAt, asIntOf, run_underlying' hd, hb, (ht _ _ hi).run_size, addA_eq, Instr.sureAddr]
  · cases h

/-! #### parts of values -/
def partL (i : TyI) (cs : List Value) (off : Nat) : Option Value := match dropN off cs with
  | some r => match takeN i.size r with
    | some vs => match i.kind.agg with
      | true => some (.agg vs.toArray)
      | false => match vs with
        | [v] => some v
        | _ => none
    | none => none
  | none => none

theorem partL_sound (ht : TabOk P tab) {t : Nat} {i : TyI} (hi : tlook tab t = some i) {cs : Array Value} {off : Nat} {v : Value} (h : partL i cs.toList off = some v) (w : World) :
    (part t cs off).run P w = .ok v w := by
  unfold partL at h
  split at h <;> try (cases h; done)
  rename_i r hr
  split at h <;> try (cases h; done)
  rename_i vs hvs
  obtain ⟨h1, h2⟩ := dropN_spec hr
  obtain ⟨h3, h4⟩ := takeN_spec hvs
  have hok := ht t i hi
  split at h
  · rename_i ha
    cases h
    simp only [part, Sem.run_bind, hok.run_agg, Result.andThen_ok, ha, if_true, hok.run_size, Sem.run_pure]
    congr 2
    rw [h4, h2]
    apply Array.toList_inj.1
    simp
  · rename_i ha
    split at h <;> try (cases h; done)
    rename_i v' 
    cases h
    simp only [part, Sem.run_bind, hok.run_agg, Result.andThen_ok, ha]
    have hv : cs[off]? = some v := by
      have : (cs.toList.drop off)[0]? = some v := by
        have h5 : (List.take i.size r)[0]? = some v := by rw [← h4]; rfl
        rw [List.getElem?_take] at h5
        split at h5
        · rw [h2] at h5; exact h5
        · cases h5
      simpa using this
    simp [hv]

def popField (tab : Tab) (l : L) (t : TypeId) (x : Operand) (f : Nat) (K : SV → Prop) : Option Prop := match kindIs tab t with
  | some (.struct fs) => match nth fs f with
    | some (off, ft) => match tlook tab ft with
      | some i => match ev l x with
        | some (.v (.agg cs)) => match partL i cs.toList off with
          | some v => some (K (.v v))
          | none => none
        | _ => none
      | none => none
    | none => none
  | _ => none
theorem popField_sound (ht : TabOk P tab) (hf : Fr N a l) {t : TypeId} {x : Operand} {f : Nat} (h : popField tab l t x f K = some X) (hx : X) : ∃ s, K s ∧ Leaves P a (.field t x f) s := by
  unfold popField at h
  split at h <;> try (cases h; done)
  rename_i fs hk
  split at h <;> try (cases h; done)
  rename_i off ft hn
  split at h <;> try (cases h; done)
  rename_i i hi
  split at h <;> try (cases h; done)
  rename_i cs hp
  split at h <;> try (cases h; done)
  rename_i v hv
  cases h
  obtain ⟨fields, fl, h1, h2, h3, h4⟩ := struct_field ht hk hn
  refine ⟨_, hx, fun w o ho => ?_⟩
  subst h3 h4
  simp [execOp, ho, ev_sound hf hp, SV.val, Instr.field, run_underlying' h1, h2, asAgg, partL_sound ht hi hv]

def popExtract (l : L) (x : Operand) (n : Nat) (K : SV → Prop) : Option Prop := match ev l x with
  | some (.v (.tuple vs)) => match nth vs.toList n with
    | some v => some (K (.v v))
    | none => none
  | _ => none
theorem popExtract_sound (hf : Fr N a l) {x : Operand} {n : Nat} (h : popExtract l x n K = some X) (hx : X) : ∃ s, K s ∧ Leaves P a (.extract x n) s := by
  unfold popExtract at h
  split at h <;> try (cases h; done)
  rename_i vs hp
  split at h <;> try (cases h; done)
  rename_i v hv
  cases h
  rw [nth_eq] at hv
  have hv' : vs[n]? = some v := by simpa using hv
  exact ⟨_, hx, fun w o ho => by simp [execOp, ho, ev_sound hf hp, SV.val, Instr.extract, hv']⟩

def placesL (tab : Tab) : List (Nat × TypeId) → Option (List (Nat × Nat))
  | [] => some []
  | (off, ft) :: r => match tlook tab ft with
    | some i => match placesL tab r with
      | some ps => some ((off, i.size) :: ps)
      | none => none
    | none => none

theorem placesL_sound (ht : TabOk P tab) : ∀ (fs : List Field) (ps : List (Nat × Nat)), placesL tab (fs.map fun f => (f.offset, f.type)) = some ps →
    fs.mapM (fun f => (P.info? f.type).map fun i => (f.offset, i.size)) = some ps
  | [], ps, h => by simp only [List.map_nil, placesL] at h; cases h; rfl
  | f :: r, ps, h => by
    simp only [List.map_cons, placesL] at h
    split at h <;> try (cases h; done)
    rename_i i hi
    split at h <;> try (cases h; done)
    rename_i ps' hps
    cases h
    obtain ⟨x, hx, e⟩ := Option.map_eq_some_iff.1 (ht _ _ hi).info
    simp only [Prod.mk.injEq] at e
    simp [List.mapM_cons, hx, placesL_sound ht r ps' hps, e.1]

def popBuild (tab : Tab) (l : L) (t : TypeId) (ps : List (Nat × Operand)) (K : SV → Prop) : Option Prop := match tlook tab t, evp l ps with
  | some i, some vs => match i.kind with
    | .struct fs => match placesL tab fs with
      | some places => match fillL (nth places) i.zero.cells.toList vs with
        | some cs => some (K (.v (.agg cs.toArray)))
        | none => none
      | none => none
    | .array n e => match tlook tab e with
      | some ei => match fillL (fun j => some (j * ei.size, ei.size)) i.zero.cells.toList vs with
        | some cs => some (K (.v (.agg cs.toArray)))
        | none => none
      | none => none
    | _ => none
  | _, _ => none

theorem parts_map {a : Act} (ps : Array (Nat × Operand)) : (ps.map fun (x : Nat × Operand) => (x.1, a.eval x.2)).toList = ps.toList.map fun p => (p.1, a.eval p.2) := by simp

theorem popBuild_sound (ht : TabOk P tab) (hf : Fr N a l) {t : TypeId} {ps : Array (Nat × Operand)} (h : popBuild tab l t ps.toList K = some X) (hx : X) : ∃ s, K s ∧ Leaves P a (.build t ps) s := by
  unfold popBuild at h
  split at h <;> try (cases h; done)
  rename_i i vs hi hvs
  have hok := ht t i hi
  have hmap : (ps.toList.map fun (x : Nat × Operand) => (x.1, a.eval x.2)) = vs := evp_sound hf hvs
  split at h
  · rename_i fs hk
    split at h <;> try (cases h; done)
    rename_i places hp
    split at h <;> try (cases h; done)
    rename_i cs hcs
    cases h
    obtain ⟨d, hd, k⟩ := hok.desc
    rw [hk] at k
    obtain ⟨fields, rfl, hfs⟩ := k
    rw [← hfs] at hp
    have hpl := placesL_sound ht _ _ hp
    refine ⟨_, hx, fun w o ho => ?_⟩
    have hfill := fillL_sound _ vs _ _ hcs
    simp only [Array.toArray_toList] at hfill
    have hfill' : Instr.fill (fun x => places[x]?) i.zero.cells vs = some cs.toArray := by
      have : (fun x => places[x]?) = nth places := funext fun x => (nth_eq places x).symm
      rw [this]; exact hfill
    simp only [execOp, ho]
    simp [Instr.build, hok.run_zero, run_underlying' hd, Array.mapM_eq_mapM_toList, run_places w _ _ hpl, hmap, hfill', SV.val]
  · rename_i n e hk
    split at h <;> try (cases h; done)
    rename_i ei hei
    split at h <;> try (cases h; done)
    rename_i cs hcs
    cases h
    obtain ⟨d, hd, k⟩ := hok.desc
    rw [hk] at k
    simp only [TK.ok] at k
    subst k
    refine ⟨_, hx, fun w o ho => ?_⟩
    have hfill := fillL_sound _ vs _ _ hcs
    simp only [Array.toArray_toList] at hfill
    simp only [execOp, ho]
    simp [Instr.build, hok.run_zero, run_underlying' hd, (ht _ _ hei).run_size, hmap, hfill, SV.val]
  · cases h

/-! #### kinds of numbers, lengths, the rest -/
def popConv (tab : Tab) (l : L) (src dst : TypeId) (x : Operand) (K : SV → Prop) : Option Prop := match kindIs tab src, kindIs tab dst, ev l x with
  | some (.int _), some (.int k), some (.v (.int _ n)) => some (∃ z, z = k.wrap n ∧ K (.v (.int k z)))
  | some .str, some .str, some (.v (.string s)) => some (K (.v (.string s)))
  | _, _, _ => none
theorem popConv_sound (ht : TabOk P tab) (hf : Fr N a l) {src dst : TypeId} {x : Operand} (h : popConv tab l src dst x K = some X) (hx : X) : ∃ s, K s ∧ Leaves P a (.convert src dst x) s := by
  unfold popConv at h
  split at h
  · rename_i k0 k k1 n h1 h2 h3
    cases h
    obtain ⟨d1, hd1, e1⟩ := kind_spec ht h1
    obtain ⟨d2, hd2, e2⟩ := kind_spec ht h2
    simp only [TK.ok] at e1 e2
    subst e1 e2
    obtain ⟨z, rfl, hk⟩ := hx
    exact ⟨_, hk, fun w o ho => by simp [execOp, ho, ev_sound hf h3, SV.val, convert, run_underlying' hd1, run_underlying' hd2, Conv.intToInt]⟩
  · rename_i s h1 h2 h3
    cases h
    obtain ⟨d1, hd1, e1⟩ := kind_spec ht h1
    obtain ⟨d2, hd2, e2⟩ := kind_spec ht h2
    simp only [TK.ok] at e1 e2
    subst e1 e2
    exact ⟨_, hx, fun w o ho => by simp [execOp, ho, ev_sound hf h3, SV.val, convert, run_underlying' hd1, run_underlying' hd2]⟩
  · cases h

def popFunc (l : L) (fn : Fn) (first captured : List Operand) (K : SV → Prop) : Option Prop := match evs l first, evs l captured with
  | some u, some v => some (K (.v (.func fn u.toArray v.toArray)))
  | _, _ => none
theorem evs_map {hf : Fr N a l} {xs : Array Operand} {vs : List Value} (e : evs l xs.toList = some vs) : xs.map a.eval = vs.toArray := by
  apply Array.toList_inj.1
  simp [evs_sound hf e]
theorem popFunc_sound (hf : Fr N a l) {fn : Fn} {first captured : Array Operand} (h : popFunc l fn first.toList captured.toList K = some X) (hx : X) : ∃ s, K s ∧ Leaves P a (.makeFunc fn first captured) s := by
  unfold popFunc at h
  split at h <;> try (cases h; done)
  rename_i u v hu hv
  cases h
  exact ⟨_, hx, fun w o ho => by simp [execOp, ho, SV.val, Instr.makeFunc, evs_map (hf := hf) hu, evs_map (hf := hf) hv]⟩

def popLen (tab : Tab) (l : L) (t : TypeId) (x : Operand) (K : SV → Prop) : Option Prop := match kindIs tab t with
  | some (.slice _) => match ev l x with
    | some (.v (.slice _ n _)) => some (K (.v (.int .i64 n)))
    | _ => none
  | some .str => match ev l x with
    | some (.v (.string s)) => some (K (.v (.int .i64 s.size)))
    | _ => none
  | some (.array n _) => match ev l x with
    | some _ => some (K (.v (.int .i64 n)))
    | none => none
  | _ => none
theorem popLen_sound (ht : TabOk P tab) (hf : Fr N a l) {t : TypeId} {x : Operand} (h : popLen tab l t x K = some X) (hx : X) : ∃ s, K s ∧ Leaves P a (.call { callee := .builtin .len, args := #[x], argTypes := #[t] }) s := by
  unfold popLen at h
  split at h
  · rename_i e hk
    split at h <;> try (cases h; done)
    rename_i b n c hv
    cases h
    obtain ⟨d, hd, k⟩ := kind_spec ht hk
    simp only [TK.ok] at k; subst k
    exact ⟨_, hx, fun w o ho => by simp [execOp, ho, ev_sound hf hv, SV.val, resolve, invoke, builtin, Builtin.len_, run_underlying' hd, goInt]⟩
  · rename_i hk
    split at h <;> try (cases h; done)
    rename_i s hv
    cases h
    obtain ⟨d, hd, k⟩ := kind_spec ht hk
    simp only [TK.ok] at k; subst k
    exact ⟨_, hx, fun w o ho => by simp [execOp, ho, ev_sound hf hv, SV.val, resolve, invoke, builtin, Builtin.len_, run_underlying' hd, goInt]⟩
  · rename_i n e hk
    split at h <;> try (cases h; done)
    rename_i s hv
    cases h
    obtain ⟨d, hd, k⟩ := kind_spec ht hk
    simp only [TK.ok] at k; subst k
    exact ⟨_, hx, fun w o ho => by simp [execOp, ho, ev_sound hf hv, SV.val, resolve, invoke, builtin, Builtin.len_, run_underlying' hd, goInt]⟩
  · cases h

def popMinMax (l : L) (b : Builtin) (x y : Operand) (K : SV → Prop) : Option Prop := match b, ev l x, ev l y with
  | .min, some (.v (.int k p)), some (.v (.int _ q)) => some (K (.v (.int k (if q < p then q else p))))
  | .max, some (.v (.int k p)), some (.v (.int _ q)) => some (K (.v (.int k (if q > p then q else p))))
  | _, _, _ => none
theorem popMinMax_sound (hf : Fr N a l) {b : Builtin} {ts : Array TypeId} {x y : Operand} (h : popMinMax l b x y K = some X) (hx : X) : ∃ s, K s ∧ Leaves P a (.call { callee := .builtin b, args := #[x, y], argTypes := ts }) s := by
  unfold popMinMax at h
  split at h
  · rename_i k p k' q h1 h2
    cases h
    exact ⟨_, hx, fun w o ho => by simp [execOp, ho, ev_sound hf h1, ev_sound hf h2, SV.val, resolve, invoke, builtin, Builtin.min_, Builtin.min2]⟩
  · rename_i k p k' q h1 h2
    cases h
    exact ⟨_, hx, fun w o ho => by simp [execOp, ho, ev_sound hf h1, ev_sound hf h2, SV.val, resolve, invoke, builtin, Builtin.max_, Builtin.max2]⟩
  · cases h

/-! #### slicing -/
def slA (p : Option Addr) (m l k : Nat) : Option Addr := if m = l then p else p.map (·.add (l * k))
/-- 'x[lo:hi]', 'x[lo:hi:mx]' of a slice; an array's address whole. -/
def popSlice (tab : Tab) (l : L) (t : TypeId) (x : Operand) (lo hi mx : Option Operand) (K : SV → Prop) : Option Prop := match kindIs tab t with
  | some (.slice e) => match tlook tab e, ev l x with
    | some i, some (.v (.slice p len cap)) => match lo, hi, mx with
      | none, none, none => some (K (.v (.slice p len cap)))
      | some lo, none, none => match ev l lo with
        | some (.v (.int _ n)) => some ((0 ≤ n ∧ n ≤ (len : Int)) ∧ K (.v (.slice (slA p cap n.toNat i.size) (len - n.toNat) (cap - n.toNat))))
        | _ => none
      | none, some hi, none => match ev l hi with
        | some (.v (.int _ n)) => some ((0 ≤ n ∧ n ≤ (cap : Int)) ∧ K (.v (.slice p n.toNat cap)))
        | _ => none
      | some lo, some hi, none => match ev l lo, ev l hi with
        | some (.v (.int _ m)), some (.v (.int _ n)) => some ((0 ≤ m ∧ m ≤ n ∧ n ≤ (cap : Int)) ∧ K (.v (.slice (slA p cap m.toNat i.size) (n.toNat - m.toNat) (cap - m.toNat))))
        | _, _ => none
      | none, some hi, some mx => match ev l hi, ev l mx with
        | some (.v (.int _ n)), some (.v (.int _ c)) => some ((0 ≤ n ∧ n ≤ c ∧ c ≤ (cap : Int)) ∧ K (.v (.slice p n.toNat c.toNat)))
        | _, _ => none
      | _, _, _ => none
    | _, _ => none
  | some (.array n e) => match tlook tab e, ev l x, lo, hi, mx with
    | some _, some (.v (.pointer (some p))), none, none, none => some (K (.v (.slice (some p) n n)))
    | _, _, _, _, _ => none
  | _ => none

theorem map_add_zero (p : Option Addr) : p.map (fun x => x.add 0) = p := by
  cases p <;> simp [Addr.add]

theorem popSlice_sound (ht : TabOk P tab) (hf : Fr N a l) {t : TypeId} {x : Operand} {lo hi mx : Option Operand} (h : popSlice tab l t x lo hi mx K = some X) (hx : X) : ∃ s, K s ∧ Leaves P a (.slice t x lo hi mx) s := by
  unfold popSlice at h
  split at h
  · rename_i e hk
    split at h <;> try (cases h; done)
    rename_i i p len cap hi' hp
    obtain ⟨d, hd, k⟩ := kind_spec ht hk
    simp only [TK.ok] at k; subst k
    have hsz : ∀ w, (sizeOf e).run P w = .ok i.size w := fun w => (ht _ _ hi').run_size
    have hu : ∀ w, (underlying t).run P w = .ok (.slice e) w := fun w => run_underlying' hd
    split at h
    · cases h
      exact ⟨_, hx, fun w o ho => by simp [execOp, ho, ev_sound hf hp, SV.val, Instr.sliceAt, Instr.slice, hu, Instr.sliceBounds, hsz, map_add_zero]⟩
    · split at h <;> try (cases h; done)
      rename_i k n hn
      cases h
      obtain ⟨⟨h0, h1⟩, hx⟩ := hx
      exact ⟨_, hx, fun w o ho => by simp [execOp, ho, ev_sound hf hp, ev_sound hf hn, SV.val, Instr.sliceAt, Instr.slice, hu, Instr.sliceBounds, run_sliceBound, h0, h1, hsz, slA]⟩
    · split at h <;> try (cases h; done)
      rename_i k n hn
      cases h
      obtain ⟨⟨h0, h1⟩, hx⟩ := hx
      exact ⟨_, hx, fun w o ho => by simp [execOp, ho, ev_sound hf hp, ev_sound hf hn, SV.val, Instr.sliceAt, Instr.slice, hu, Instr.sliceBounds, run_sliceBound, h0, h1, hsz, map_add_zero]⟩
    · split at h <;> try (cases h; done)
      rename_i k m k' n hm hn
      cases h
      obtain ⟨⟨h0, h1, h2⟩, hx⟩ := hx
      have h3 : 0 ≤ n := by omega
      have h4 : m ≤ (n.toNat : Int) := by omega
      have hb : ∀ w code, (Instr.sliceBound (.int k m) n.toNat code).run P w = .ok m.toNat w := fun w code => run_sliceBound w k m n.toNat code h0 h4
      exact ⟨_, hx, fun w o ho => by simp [execOp, ho, ev_sound hf hp, ev_sound hf hm, ev_sound hf hn, SV.val, Instr.sliceAt, Instr.slice, hu, Instr.sliceBounds, run_sliceBound, hb, h2, h3, hsz, slA]⟩
    · split at h <;> try (cases h; done)
      rename_i k n k' c hn hc
      cases h
      obtain ⟨⟨h0, h1, h2⟩, hx⟩ := hx
      have h3 : 0 ≤ c := by omega
      have h4 : n ≤ (c.toNat : Int) := by omega
      have hb : ∀ w code, (Instr.sliceBound (.int k n) c.toNat code).run P w = .ok n.toNat w := fun w code => run_sliceBound w k n c.toNat code h0 h4
      exact ⟨_, hx, fun w o ho => by simp [execOp, ho, ev_sound hf hp, ev_sound hf hn, ev_sound hf hc, SV.val, Instr.sliceAt, Instr.slice, hu, Instr.sliceBounds, run_sliceBound, hb, h2, h3, hsz, map_add_zero]⟩
    · cases h
  · rename_i n e hk
    split at h <;> try (cases h; done)
    rename_i i p hi' hp
    cases h
    obtain ⟨d, hd, k⟩ := kind_spec ht hk
    simp only [TK.ok] at k; subst k
    refine ⟨_, hx, fun w o ho => ?_⟩
    have hsz := (ht _ _ hi').run_size (w := w)
    have hpz : p.add 0 = p := by simp [Addr.add]
    simp [execOp, ho, ev_sound hf hp, SV.val, Instr.sliceAt, run_underlying' hd, Instr.sureAddr, Instr.sliceBounds, hsz, hpz]
  · cases h

/-- A part of an array; a byte of a text. -/
def popIndex (tab : Tab) (l : L) (t : TypeId) (x ix : Operand) (K : SV → Prop) : Option Prop := match kindIs tab t with
  | some (.array m e) => match tlook tab e, ev l x, ev l ix with
    | some i, some (.v (.agg cs)), some (.v (.int _ n)) => some ((0 ≤ n ∧ n < (m : Int)) ∧ ∃ v, partL i cs.toList (n.toNat * i.size) = some v ∧ K (.v v))
    | _, _, _ => none
  | some .str => match ev l x, ev l ix with
    | some (.v (.string s)), some (.v (.int _ n)) => some (0 ≤ n ∧ ∃ b, s[n.toNat]? = some b ∧ K (.v (.int .u8 b.toNat)))
    | _, _ => none
  | _ => none
theorem popIndex_sound (ht : TabOk P tab) (hf : Fr N a l) {t : TypeId} {x ix : Operand} (h : popIndex tab l t x ix K = some X) (hx : X) : ∃ s, K s ∧ Leaves P a (.index t x ix) s := by
  unfold popIndex at h
  split at h
  · rename_i m e hk
    split at h <;> try (cases h; done)
    rename_i i cs k n hi hp hn
    cases h
    obtain ⟨hb, v, hv, hx⟩ := hx
    obtain ⟨d, hd, hk'⟩ := kind_spec ht hk
    simp only [TK.ok] at hk'
    subst hk'
    refine ⟨_, hx, fun w o ho => ?_⟩
    have := partL_sound (P := P) ht hi hv w
    simp [execOp, ho, ev_sound hf hp, ev_sound hf hn, SV.val, Instr.index, asIntOf, run_underlying' hd, hb, (ht _ _ hi).run_size, this]
  · rename_i hk
    split at h <;> try (cases h; done)
    rename_i s k n hp hn
    cases h
    obtain ⟨hb, b, hv, hx⟩ := hx
    obtain ⟨d, hd, hk'⟩ := kind_spec ht hk
    simp only [TK.ok] at hk'
    subst hk'
    refine ⟨_, hx, fun w o ho => ?_⟩
    simp [execOp, ho, ev_sound hf hp, ev_sound hf hn, SV.val, Instr.index, asIntOf, run_underlying' hd, hb, hv]
  · cases h

/-! #### all of them -/
def pop (tab : Tab) (l : L) (op : Op) (K : SV → Prop) : Option Prop := match op with
  | .move x => popMove l x K
  | .assign x => popMove l x K
  | .pick c x y => popPick l c x y K
  | .nilCheck x => popNil l x K
  | .unOp op _ x => popUn l op x K
  | .binOp op t x y _ => popBin tab l op t x y K
  | .fieldAddr t x f => popFieldAddr tab l t x f K
  | .field t x f => popField tab l t x f K
  | .indexAddr t x i => popIndexAddr tab l t x i K
  | .index t x i => popIndex tab l t x i K
  | .extract x n => popExtract l x n K
  | .build t ps => popBuild tab l t ps.toList K
  | .convert s d x => popConv tab l s d x K
  | .makeFunc fn u v => popFunc l fn u.toList v.toList K
  | .slice t x lo hi mx => popSlice tab l t x lo hi mx K
  | .call c => match c.callee, c.args.toList, c.argTypes.toList with
    | .builtin .len, [x], [t] => popLen tab l t x K
    | .builtin .min, [x, y], _ => popMinMax l .min x y K
    | .builtin .max, [x, y], _ => popMinMax l .max x y K
    | _, _, _ => none
  | _ => none

theorem toArray_of {α : Type} {xs : Array α} {l : List α} (h : xs.toList = l) : xs = l.toArray := by rw [← h]

theorem pop_sound (ht : TabOk P tab) (hf : Fr N a l) {op : Op} (h : pop tab l op K = some X) (hx : X) : ∃ s, K s ∧ Leaves P a op s := by
  unfold pop at h
  split at h <;> try (cases h; done)
  · obtain ⟨s, h1, h2, _⟩ := popMove_sound (P := P) hf h hx; exact ⟨s, h1, h2⟩
  · obtain ⟨s, h1, _, h2⟩ := popMove_sound (P := P) hf h hx; exact ⟨s, h1, h2⟩
  · exact popPick_sound hf h hx
  · exact popNil_sound hf h hx
  · exact popUn_sound hf h hx
  · exact popBin_sound ht hf h hx
  · exact popFieldAddr_sound ht hf h hx
  · exact popField_sound ht hf h hx
  · exact popIndexAddr_sound ht hf h hx
  · exact popIndex_sound ht hf h hx
  · exact popExtract_sound hf h hx
  · exact popBuild_sound ht hf h hx
  · exact popConv_sound ht hf h hx
  · exact popFunc_sound hf h hx
  · exact popSlice_sound ht hf h hx
  · rename_i c
    obtain ⟨callee, args, argTypes⟩ := c
    split at h <;> try (cases h; done)
    · rename_i x t h1 h2 h3
      simp only at h1 h2 h3
      subst h1
      rw [toArray_of h2, toArray_of h3]
      exact popLen_sound ht hf h hx
    · rename_i x y h1 h2
      simp only at h1 h2
      subst h1
      rw [toArray_of h2]
      exact popMinMax_sound hf h hx
    · rename_i x y h1 h2
      simp only at h1 h2
      subst h1
      rw [toArray_of h2]
      exact popMinMax_sound hf h hx

end parts
end Go.RX
